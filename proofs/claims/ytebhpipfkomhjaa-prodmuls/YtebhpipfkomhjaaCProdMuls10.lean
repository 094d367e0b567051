-- Written by a program of this session out of its own texts (wip/tools/link.py).
import Derived.ArgAppend
import Derived.Below
import Derived.BigQuiet
import Derived.Deep.AppendLies
import Derived.Deep.CutBlock
import Derived.Deep.DeepCutAuto
import Derived.Deep.Draws
import Derived.Deep.LoopGhost
import Derived.Deep.OwnRows
import Derived.Deep.QuietTactic
import Derived.Deep.RegionHeld3
import Derived.KernelRfl
import Derived.LaidEql
import Derived.Laws.BitsLemmas
import Derived.Laws.BytesArg
import Derived.Laws.IdiomCopy
import Derived.Laws.MakeOwn
import Derived.Laws.OwnMore
import Derived.Laws.Rows
import Derived.Laws.Slices
import Derived.Laws.StructEq
import Derived.Lib.AppendStr
import Derived.Lib.BitFns
import Derived.Lib.ConvBytes
import Derived.Lib.Slices
import Derived.Lib.Small
import Derived.Lib.Strings
import Derived.Lib.Walk
import Derived.Maps.AppendAt
import Derived.OrdersHeld
import Derived.OwnWalk
import Derived.RowKit
import Derived.RowKit3
import Derived.Tactics
import Derived.Test.YtebhpipfkomhjaaProg
import Derived.WalkKit
import Derived.WideLaws
import Derived.Test.YtebhpipfkomhjaaCProdMuls8
import Derived.Test.YtebhpipfkomhjaaCProdMuls9
namespace Go.Proofs.Ytebhpipfkomhjaa.PAll
open Go.RowKit Go.Proofs.YtebhpipfkomhjaaW.PrintWords Go.Proofs.YtebhpipfkomhjaaW.PrintLast Go.Proofs.YtebhpipfkomhjaaW.PrintMore
attribute [local go_sem] max2_int min2_int max_two min_two max_three min_three max_four min_four
set_option linter.unusedVariables false
set_option linter.unusedSimpArgs false
attribute [local go_sem high] eqA24
def vernierref06_Sound.f (a0_0 : Int) (a0_1 : Bool) (a0_2 : Int) (a0_3 : Int) : Option (Bool) := if a0_0 = 0 then (some (!a0_1 && (a0_2 == 0 && (a0_3 == 0)))) else (if a0_0 = 2 then (some (!a0_1 && (a0_2 == 0 && (a0_3 == 0)))) else (if a0_0 = 1 then (if a0_3 ≥ 9223372036854775808 then (if a0_2 ≥ (-1073741824) then (some (decide (a0_2 ≤ 1073741824))) else (some false)) else (some false)) else (some false)))
set_option maxHeartbeats 8000000 in
set_option maxRecDepth 100000 in
theorem vernierref06_Sound.calls (a0_0 : Int) (a0_1 : Bool) (a0_2 : Int) (a0_3 : Int) (r : Bool) (w : World) (h : vernierref06_Sound.f a0_0 a0_1 a0_2 a0_3 = some r) :
  Calls Try.prog 24 #[.agg #[.int .i64 a0_0,.bool a0_1,.int .i64 a0_2,.int .u64 a0_3]] w fun e w' => e = .returned (.bool r) ∧ Below w.heap.size w w' := by
 have hu24 := Try.underlying24
 have HB := am_ (Below.refl w.heap.size w)
 have H : (if a0_0 = 0 then (some (!a0_1 && (a0_2 == 0 && (a0_3 == 0)))) else (if a0_0 = 2 then (some (!a0_1 && (a0_2 == 0 && (a0_3 == 0)))) else (if a0_0 = 1 then (if a0_3 ≥ 9223372036854775808 then (if a0_2 ≥ (-1073741824) then (some (decide (a0_2 ≤ 1073741824))) else (some false)) else (some false)) else (some false)))) = some r := h
 clear h
 by_cases c2 : a0_0 = 0
 ·rw [if_pos c2] at H
  have c2b0 : (a0_0 == 0) = true := beq_iff_eq.mpr c2
  have c2b1 : (a0_0 != 0) = false := bne_eq_false_iff_eq.mpr c2
  clear c2
  obtain rfl := Option.some.inj H
  go_enter Try.func24, Try.ntmps24
  go_wp2_with (first | ((with_reducible refine gate_dst (N := 1) rfl ?_);refine box_event ?hg (N := 1) ?hd (cs := #[.int .i64 a0_0,.bool a0_1,.int .i64 a0_2,.int .u64 a0_3]) (t := 24) ?hr ?_;(case hd => rfl);(case hg => rfl);(case hr => first | (go_simp;done) | (go_simp;rfl));intro gb310 hg w3 hbox hb;have n0_ := am_ (below_step (z3_ HB.out) hb);have n1_ := am_ (hbox);have n2_ := am_ ((by rw [hg];exact (below_size (z3_ HB.out)) : w.heap.size ≤ gb310));have n3_ := am_ ((by rw [hg];exact (below_size (z3_ HB.out)) : w.heap.size ≤ gb310));clear HB;have HB := n0_;have BK310 := n1_;have GW310 := n2_;have GE310 := n3_;clear n0_ n1_ n2_ n3_;clear hb hbox hg;obtain ⟨hcz4_0, hcz4_1, hcz4_2, hcz4_3, hfz4_0⟩ := zc4_ BK310.out))
  go_ret
  exact ⟨z6_, z3_ HB.out⟩
 ·rw [if_neg c2] at H
  have c2b0 : (a0_0 == 0) = false := beq_eq_false_iff_ne.mpr c2
  have c2b1 : (a0_0 != 0) = true := bne_iff_ne.mpr c2
  by_cases c5 : a0_0 = 2
  ·rw [if_pos c5] at H
   have c5b0 : (a0_0 == 2) = true := beq_iff_eq.mpr c5
   have c5b1 : (a0_0 != 2) = false := bne_eq_false_iff_eq.mpr c5
   clear c5
   obtain rfl := Option.some.inj H
   go_enter Try.func24, Try.ntmps24
   go_wp2_with (first | ((with_reducible refine gate_dst (N := 1) rfl ?_);refine box_event ?hg (N := 1) ?hd (cs := #[.int .i64 a0_0,.bool a0_1,.int .i64 a0_2,.int .u64 a0_3]) (t := 24) ?hr ?_;(case hd => rfl);(case hg => rfl);(case hr => first | (go_simp;done) | (go_simp;rfl));intro gb310 hg w6 hbox hb;have n0_ := am_ (below_step (z3_ HB.out) hb);have n1_ := am_ (hbox);have n2_ := am_ ((by rw [hg];exact (below_size (z3_ HB.out)) : w.heap.size ≤ gb310));have n3_ := am_ ((by rw [hg];exact (below_size (z3_ HB.out)) : w.heap.size ≤ gb310));clear HB;have HB := n0_;have BK310 := n1_;have GW310 := n2_;have GE310 := n3_;clear n0_ n1_ n2_ n3_;clear hb hbox hg;obtain ⟨hcz7_0, hcz7_1, hcz7_2, hcz7_3, hfz7_0⟩ := zc4_ BK310.out))
   go_ret
   exact ⟨z6_, z3_ HB.out⟩
  ·rw [if_neg c5] at H
   have c5b0 : (a0_0 == 2) = false := beq_eq_false_iff_ne.mpr c5
   have c5b1 : (a0_0 != 2) = true := bne_iff_ne.mpr c5
   by_cases c8 : a0_0 = 1
   ·rw [if_pos c8] at H
    have c8b0 : (a0_0 == 1) = true := beq_iff_eq.mpr c8
    have c8b1 : (a0_0 != 1) = false := bne_eq_false_iff_eq.mpr c8
    clear c8
    by_cases c9 : a0_3 ≥ 9223372036854775808
    ·rw [if_pos c9] at H
     have c9b0 : decide (9223372036854775808 ≤ a0_3) = true := decide_eq_true c9
     clear c9
     by_cases c10 : a0_2 ≥ (-1073741824)
     ·rw [if_pos c10] at H
      have c10b0 : decide ((-1073741824) ≤ a0_2) = true := decide_eq_true c10
      clear c10
      obtain rfl := Option.some.inj H
      go_enter Try.func24, Try.ntmps24
      go_wp2_with (first | ((with_reducible refine gate_dst (N := 1) rfl ?_);refine box_event ?hg (N := 1) ?hd (cs := #[.int .i64 a0_0,.bool a0_1,.int .i64 a0_2,.int .u64 a0_3]) (t := 24) ?hr ?_;(case hd => rfl);(case hg => rfl);(case hr => first | (go_simp;done) | (go_simp;rfl));intro gb310 hg w11 hbox hb;have n0_ := am_ (below_step (z3_ HB.out) hb);have n1_ := am_ (hbox);have n2_ := am_ ((by rw [hg];exact (below_size (z3_ HB.out)) : w.heap.size ≤ gb310));have n3_ := am_ ((by rw [hg];exact (below_size (z3_ HB.out)) : w.heap.size ≤ gb310));clear HB;have HB := n0_;have BK310 := n1_;have GW310 := n2_;have GE310 := n3_;clear n0_ n1_ n2_ n3_;clear hb hbox hg;obtain ⟨hcz12_0, hcz12_1, hcz12_2, hcz12_3, hfz12_0⟩ := zc4_ BK310.out))
      go_ret
      exact ⟨z6_, z3_ HB.out⟩
     ·rw [if_neg c10] at H
      have c10b0 : decide ((-1073741824) ≤ a0_2) = false := decide_eq_false c10
      clear c10
      obtain rfl := Option.some.inj H
      go_enter Try.func24, Try.ntmps24
      go_wp2_with (first | ((with_reducible refine gate_dst (N := 1) rfl ?_);refine box_event ?hg (N := 1) ?hd (cs := #[.int .i64 a0_0,.bool a0_1,.int .i64 a0_2,.int .u64 a0_3]) (t := 24) ?hr ?_;(case hd => rfl);(case hg => rfl);(case hr => first | (go_simp;done) | (go_simp;rfl));intro gb310 hg w13 hbox hb;have n0_ := am_ (below_step (z3_ HB.out) hb);have n1_ := am_ (hbox);have n2_ := am_ ((by rw [hg];exact (below_size (z3_ HB.out)) : w.heap.size ≤ gb310));have n3_ := am_ ((by rw [hg];exact (below_size (z3_ HB.out)) : w.heap.size ≤ gb310));clear HB;have HB := n0_;have BK310 := n1_;have GW310 := n2_;have GE310 := n3_;clear n0_ n1_ n2_ n3_;clear hb hbox hg;obtain ⟨hcz14_0, hcz14_1, hcz14_2, hcz14_3, hfz14_0⟩ := zc4_ BK310.out))
      go_ret
      exact ⟨z6_, z3_ HB.out⟩
    ·rw [if_neg c9] at H
     have c9b0 : decide (9223372036854775808 ≤ a0_3) = false := decide_eq_false c9
     clear c9
     obtain rfl := Option.some.inj H
     go_enter Try.func24, Try.ntmps24
     go_wp2_with (first | ((with_reducible refine gate_dst (N := 1) rfl ?_);refine box_event ?hg (N := 1) ?hd (cs := #[.int .i64 a0_0,.bool a0_1,.int .i64 a0_2,.int .u64 a0_3]) (t := 24) ?hr ?_;(case hd => rfl);(case hg => rfl);(case hr => first | (go_simp;done) | (go_simp;rfl));intro gb310 hg w15 hbox hb;have n0_ := am_ (below_step (z3_ HB.out) hb);have n1_ := am_ (hbox);have n2_ := am_ ((by rw [hg];exact (below_size (z3_ HB.out)) : w.heap.size ≤ gb310));have n3_ := am_ ((by rw [hg];exact (below_size (z3_ HB.out)) : w.heap.size ≤ gb310));clear HB;have HB := n0_;have BK310 := n1_;have GW310 := n2_;have GE310 := n3_;clear n0_ n1_ n2_ n3_;clear hb hbox hg;obtain ⟨hcz16_0, hcz16_1, hcz16_2, hcz16_3, hfz16_0⟩ := zc4_ BK310.out))
     go_ret
     exact ⟨z6_, z3_ HB.out⟩
   ·rw [if_neg c8] at H
    have c8b0 : (a0_0 == 1) = false := beq_eq_false_iff_ne.mpr c8
    have c8b1 : (a0_0 != 1) = true := bne_iff_ne.mpr c8
    obtain rfl := Option.some.inj H
    go_enter Try.func24, Try.ntmps24
    go_wp2_with (first | ((with_reducible refine gate_dst (N := 1) rfl ?_);refine box_event ?hg (N := 1) ?hd (cs := #[.int .i64 a0_0,.bool a0_1,.int .i64 a0_2,.int .u64 a0_3]) (t := 24) ?hr ?_;(case hd => rfl);(case hg => rfl);(case hr => first | (go_simp;done) | (go_simp;rfl));intro gb310 hg w17 hbox hb;have n0_ := am_ (below_step (z3_ HB.out) hb);have n1_ := am_ (hbox);have n2_ := am_ ((by rw [hg];exact (below_size (z3_ HB.out)) : w.heap.size ≤ gb310));have n3_ := am_ ((by rw [hg];exact (below_size (z3_ HB.out)) : w.heap.size ≤ gb310));clear HB;have HB := n0_;have BK310 := n1_;have GW310 := n2_;have GE310 := n3_;clear n0_ n1_ n2_ n3_;clear hb hbox hg;obtain ⟨hcz18_0, hcz18_1, hcz18_2, hcz18_3, hfz18_0⟩ := zc4_ BK310.out))
    go_ret
    exact ⟨z6_, z3_ HB.out⟩
end Go.Proofs.Ytebhpipfkomhjaa.PAll
namespace Go.Proofs.Ytebhpipfkomhjaa.PAll
open Go.RowKit Go.Proofs.YtebhpipfkomhjaaW.PrintWords Go.Proofs.YtebhpipfkomhjaaW.PrintLast Go.Proofs.YtebhpipfkomhjaaW.PrintMore
attribute [local go_sem] max2_int min2_int max_two min_two max_three min_three max_four min_four
set_option linter.unusedVariables false
set_option linter.unusedSimpArgs false
def vernierref04_Cut.l0 : Nat → List Int → Int → Option (List Int)
 | 0, _, _ => none
 | k + 1, x0, x3 => if x3 > 0 then (if 0 ≤ (wrap64 (x3 - 1)) then (if (wrap64 (x3 - 1)) < (x0.length : Int) then (if (rd x0 (wrap64 (x3 - 1))) = 0 then (vernierref04_Cut.l0 k x0 (wrap64 (x3 - 1))) else (if 0 ≤ x3 then (if x3 ≤ (x0.length : Int) then (some (x0.take (x3 : Int).toNat)) else (none)) else (none))) else (none)) else (none)) else (if 0 ≤ x3 then (if x3 ≤ (x0.length : Int) then (some (x0.take (x3 : Int).toNat)) else (none)) else (none))
def vernierref04_Cut.f (k : Nat) (l0 : List Int) : Option (List Int) := vernierref04_Cut.l0 k l0 (l0.length : Int)
theorem vernierref04_Cut.mono_l : ∀ k, (∀ y0 y1, LeO (vernierref04_Cut.l0 k y0 y1) (vernierref04_Cut.l0 (k + 1) y0 y1))
 | 0 => fun _ _ r h => by simp [vernierref04_Cut.l0] at h
 | k + 1 => by
  have ih0 := vernierref04_Cut.mono_l k
  ·intro y0 y1
   unfold vernierref04_Cut.l0
   repeat' first
   | (with_reducible exact ih0 _ _)
   | (with_reducible exact LeO.refl _)
   | (with_reducible exact LeO.none _)
   | (with_reducible refine LeO.ite ?_ ?_)
   | (with_reducible refine LeO.bind ?_ (fun _ => ?_))
   | exact ih0 _ _
   | exact LeO.none _
   | refine LeO.ite ?_ ?_
   | refine LeO.bind ?_ (fun _ => ?_)
theorem vernierref04_Cut.mono : ∀ a0 k, LeO (vernierref04_Cut.f k a0) (vernierref04_Cut.f (k + 1) a0) := by
 intro a0 k
 have ih0 := vernierref04_Cut.mono_l k
 unfold vernierref04_Cut.f
 repeat' first
   | (with_reducible exact ih0 _ _)
   | (with_reducible exact LeO.refl _)
   | (with_reducible exact LeO.none _)
   | (with_reducible refine LeO.ite ?_ ?_)
   | (with_reducible refine LeO.bind ?_ (fun _ => ?_))
   | exact ih0 _ _
   | exact LeO.none _
   | refine LeO.ite ?_ ?_
   | refine LeO.bind ?_ (fun _ => ?_)
set_option maxHeartbeats 8000000 in
set_option maxRecDepth 100000 in
theorem vernierref04_Cut.calls (k : Nat) (P0_ : Nat → Prop) (u9000_ : Value) (l0 : List Int) (r : List Int) (w0 w : World) (hB : Below w0.heap.size w0 w) (ho0 : Kd.R (Kd.int .i64) 3 w w0.heap.size P0_ u9000_ l0) (h : vernierref04_Cut.f k l0 = some r) :
  Calls Try.prog 40 #[u9000_] w fun e w' => ∃ v0_ : Value, e = .returned (v0_) ∧ Kd.R (Kd.int .i64) 3 w' w0.heap.size (fun k_ => (P0_ k_ ∨ w.heap.size ≤ k_)) v0_ r ∧ Below w0.heap.size w0 w' ∧ Kept w w' (fun k_ => P0_ k_) := by
 have HO0 := am_ (show Kd.R (Kd.int .i64) 3 w w0.heap.size (fun k_ => (P0_ k_ ∨ w.heap.size ≤ k_)) u9000_ l0 from Kd.R_mono ho0 (fun k_ hk => (.inl hk)))
 have HK := am_ (Kept.refl w (fun k_ => P0_ k_))
 have HW0 := am_ hB.size
 have HB := am_ hB
 clear hB
 have H : (vernierref04_Cut.l0 k l0 (l0.length : Int)) = some r := h
 clear h
 have H' := am_ H
 clear H
 obtain ⟨Ao2, co2, eo2⟩ := Kd.R_slice HO0.out
 subst eo2
 go_enter Try.func40, Try.ntmps40
 go_wp2
 go_loopg [3] k (fun kq v3 w' => ∃ (x3_1 : Int), v3 = .int .i64 x3_1 ∧ Aside0 (vernierref04_Cut.l0 kq l0 x3_1 = some r) ∧ Aside0 (kq ≤ k) ∧ Aside0 (Kd.R (Kd.int .i64) 3 w' w0.heap.size (fun k_ => (P0_ k_ ∨ w.heap.size ≤ k_)) (.slice Ao2 l0.length co2) l0) ∧ Aside0 (Kept w w' (fun k_ => P0_ k_)) ∧ Aside0 (Below w0.heap.size w0 w'))
 case atStart => exact ⟨((l0.length : Int)), (by first | rfl | (simp;done) | (simp [*];done)), H', ⟨Nat.le_refl _⟩, ⟨by (with_reducible repeat (first | apply Kd.R_alloc | apply Kd.R_drewN | apply Kd.R_drew));exact HO0.out⟩, ⟨by repeat (first | (with_reducible first | exact HK.out | apply Kept.alloc | apply Kept.drewN | apply Kept.drew) | exact HK.out)⟩, ⟨z3_ HB.out⟩⟩
 case round =>
  clear H'
  obtain ⟨x3_1, rfl, HA, HK1, HO_0, HK, HB⟩ := hrel
  cases gk with
  | zero => exact absurd HA.out (by simp [vernierref04_Cut.l0])
  | succ k1 =>
   have H := HA.out
   clear HA
   simp only [vernierref04_Cut.l0] at H
   by_cases c3 : x3_1 > 0
   ·rw [if_pos c3] at H
    have c3b0 : decide (0 < x3_1) = true := decide_eq_true c3
    clear c3
    obtain ⟨ji4, hji4⟩ : ∃ j_ : Int, (wrap64 (x3_1 - 1)) = j_ := ⟨_, rfl⟩
    replace H : (if 0 ≤ (ji4) then (if (ji4) < (l0.length : Int) then (if (rd l0 (ji4)) = 0 then (vernierref04_Cut.l0 k1 l0 ji4) else (if 0 ≤ x3_1 then (if x3_1 ≤ (l0.length : Int) then (some (l0.take (x3_1 : Int).toNat)) else (none)) else (none))) else (none)) else (none)) = some r := by first | (rw [hji4] at H;exact H) | (simp only [hji4] at H ⊢;exact H)
    have hji4w : (IntKind.i64.wrap (x3_1 - 1)) = ji4 := (i64_w _).trans hji4
    by_cases c5 : 0 ≤ (ji4)
    ·rw [if_pos c5] at H
     have c5b0 : decide (0 ≤ (ji4)) = true := decide_eq_true c5
     clear c5
     by_cases c6 : (ji4) < (l0.length : Int)
     ·rw [if_pos c6] at H
      have c6b0 : decide ((ji4) < (l0.length : Int)) = true := decide_eq_true c6
      clear c6
      by_cases c7 : (rd l0 (ji4)) = 0
      ·rw [if_pos c7] at H
       have c7b0 : ((rd l0 (ji4)) == 0) = true := beq_iff_eq.mpr c7
       have c7b1 : ((rd l0 (ji4)) != 0) = false := bne_eq_false_iff_eq.mpr c7
       clear c7
       have H' := am_ H
       clear H
       have p311 : 0 ≤ ((ji4) : Int) := of_decide_eq_true (by first | (with_reducible assumption) | assumption)
       have q311 : (ji4) < (l0.length : Int) := of_decide_eq_true (by first | (with_reducible assumption) | assumption)
       obtain ⟨ad311, e311, hx311_0⟩ := Kd.at_int (Kd.R_reads' HO_0.out).2.2 (ji4) p311 q311
       cases e311
       replace p311 := eq_true p311
       replace q311 := eq_true q311
       go_wp2
       go_roundg k1
       case measure => have := HK1.out;omega
       case rel => exact ⟨(ji4), (by first | rfl | (simp;done) | (simp only [← hji4] <;> (first | rfl | simp)) | (simp [*];done)), H', ⟨by have := HK1.out;omega⟩, ⟨by (with_reducible repeat (first | apply Kd.R_alloc | apply Kd.R_drewN | apply Kd.R_drew));exact HO_0.out⟩, ⟨by repeat (first | (with_reducible first | exact HK.out | apply Kept.alloc | apply Kept.drewN | apply Kept.drew) | exact HK.out)⟩, ⟨z3_ HB.out⟩⟩
      ·rw [if_neg c7] at H
       have c7b0 : ((rd l0 (ji4)) == 0) = false := beq_eq_false_iff_ne.mpr c7
       have c7b1 : ((rd l0 (ji4)) != 0) = true := bne_iff_ne.mpr c7
       by_cases c8 : 0 ≤ x3_1
       ·rw [if_pos c8] at H
        have c8b0 := eq_true c8
        have c8b1 : decide (0 ≤ x3_1) = true := decide_eq_true c8
        clear c8
        by_cases c9 : x3_1 ≤ (l0.length : Int)
        ·rw [if_pos c9] at H
         have c9b0 := eq_true c9
         have c9b1 : decide (x3_1 ≤ (l0.length : Int)) = true := decide_eq_true c9
         clear c9
         obtain ⟨y312, hy312⟩ : ∃ y_ : List Int, y_ = (l0.take (x3_1 : Int).toNat) := ⟨_, rfl⟩
         replace H : (some y312) = some r := by first | (rw [hy312];with_reducible exact H) | (have H2_ := (Option.bind_some _ _).symm.trans H;rw [hy312];with_reducible exact H2_) | (have H2_ := (Option.bind_some _ _).symm.trans H;with_reducible exact H2_) | with_reducible exact H | (rw [hy312];exact H) | exact H
         have Ny312 := am_ hy312
         clear hy312
         obtain rfl := Option.some.inj H
         have p311 : 0 ≤ ((ji4) : Int) := of_decide_eq_true (by first | (with_reducible assumption) | assumption)
         have q311 : (ji4) < (l0.length : Int) := of_decide_eq_true (by first | (with_reducible assumption) | assumption)
         obtain ⟨ad311, e311, hx311_0⟩ := Kd.at_int (Kd.R_reads' HO_0.out).2.2 (ji4) p311 q311
         cases e311
         replace p311 := eq_true p311
         replace q311 := eq_true q311
         have q10 : (x3_1 : Int) ≤ ((l0.length : Int) : Int) := of_decide_eq_true (by first | (with_reducible assumption) | assumption)
         obtain ⟨i010, hi010, _, hsz10, _⟩ := info_parts info3
         have hcut10 := cut_to (P := Try.prog) 58 3 .i64 Try.underlying58 hi010 (some ad311) l0.length co2 x3_1 (of_decide_eq_true (by first | (with_reducible assumption) | assumption)) q10 (Kd.R_reads' HO_0.out).2.1
         have hr10 := Kd.R_take (m := (x3_1 : Int).toNat) HO_0.out (by omega)
         have hy10 : y312.length = (x3_1 : Int).toNat := (by rw [Ny312.out, List.length_take];omega)
         rw [← Ny312.out] at hr10
         rw [← hy10] at hr10 hcut10
         clear hy10 hi010 hsz10 HO_0
         have HO314 := am_ hr10
         clear hr10
         replace q10 := eq_true q10
         go_wp2
         go_ret
         exact ⟨_, by first | rfl | (simp [errW_none, errW_some] <;> rfl) | (simp only [← hji4];first | rfl | (simp [errW_none, errW_some] <;> rfl)) | (simp [*, errW_none, errW_some] <;> rfl), by (with_reducible repeat (first | apply Kd.R_alloc | apply Kd.R_drewN | apply Kd.R_drew));exact HO314.out, z3_ HB.out, by repeat (first | (with_reducible first | exact HK.out | apply Kept.alloc | apply Kept.drewN | apply Kept.drew) | exact HK.out)⟩
        ·rw [if_neg c9] at H
         exact absurd H (by simp)
       ·rw [if_neg c8] at H
        exact absurd H (by simp)
     ·rw [if_neg c6] at H
      exact absurd H (by simp)
    ·rw [if_neg c5] at H
     exact absurd H (by simp)
   ·rw [if_neg c3] at H
    have c3b0 : decide (0 < x3_1) = false := decide_eq_false c3
    clear c3
    by_cases c11 : 0 ≤ x3_1
    ·rw [if_pos c11] at H
     have c11b0 := eq_true c11
     have c11b1 : decide (0 ≤ x3_1) = true := decide_eq_true c11
     clear c11
     by_cases c12 : x3_1 ≤ (l0.length : Int)
     ·rw [if_pos c12] at H
      have c12b0 := eq_true c12
      have c12b1 : decide (x3_1 ≤ (l0.length : Int)) = true := decide_eq_true c12
      clear c12
      obtain ⟨y315, hy315⟩ : ∃ y_ : List Int, y_ = (l0.take (x3_1 : Int).toNat) := ⟨_, rfl⟩
      replace H : (some y315) = some r := by first | (rw [hy315];with_reducible exact H) | (have H2_ := (Option.bind_some _ _).symm.trans H;rw [hy315];with_reducible exact H2_) | (have H2_ := (Option.bind_some _ _).symm.trans H;with_reducible exact H2_) | with_reducible exact H | (rw [hy315];exact H) | exact H
      have Ny315 := am_ hy315
      clear hy315
      obtain rfl := Option.some.inj H
      have q13 : (x3_1 : Int) ≤ ((l0.length : Int) : Int) := of_decide_eq_true (by first | (with_reducible assumption) | assumption)
      obtain ⟨i013, hi013, _, hsz13, _⟩ := info_parts info3
      have hcut13 := cut_to (P := Try.prog) 58 3 .i64 Try.underlying58 hi013 Ao2 l0.length co2 x3_1 (of_decide_eq_true (by first | (with_reducible assumption) | assumption)) q13 (Kd.R_reads' HO_0.out).2.1
      have hr13 := Kd.R_take (m := (x3_1 : Int).toNat) HO_0.out (by omega)
      have hy13 : y315.length = (x3_1 : Int).toNat := (by rw [Ny315.out, List.length_take];omega)
      rw [← Ny315.out] at hr13
      rw [← hy13] at hr13 hcut13
      clear hy13 hi013 hsz13 HO_0
      have HO317 := am_ hr13
      clear hr13
      replace q13 := eq_true q13
      go_wp2
      go_ret
      exact ⟨_, by first | rfl | (simp [errW_none, errW_some] <;> rfl) | (simp [*, errW_none, errW_some] <;> rfl), by (with_reducible repeat (first | apply Kd.R_alloc | apply Kd.R_drewN | apply Kd.R_drew));exact HO317.out, z3_ HB.out, by repeat (first | (with_reducible first | exact HK.out | apply Kept.alloc | apply Kept.drewN | apply Kept.drew) | exact HK.out)⟩
     ·rw [if_neg c12] at H
      exact absurd H (by simp)
    ·rw [if_neg c11] at H
     exact absurd H (by simp)
mutual
def vernierref04_Mul.j0 : Nat → List Int → List Int → Bool → Option (List Int)
 | 0, _, _, _ => none
 | k + 1, x0, x1, x17 => if x17 = true then (some ([] : List Int)) else (if 0 ≤ (wrap64 ((x0.length : Int) + (x1.length : Int))) then (if (wrap64 ((x0.length : Int) + (x1.length : Int)) : Int).toNat ≤ 35184372088832 then (vernierref04_Mul.l0 k x0 x1 (List.replicate (wrap64 ((x0.length : Int) + (x1.length : Int)) : Int).toNat 0) 0) else (none)) else (none))
def vernierref04_Mul.l0 : Nat → List Int → List Int → List Int → Int → Option (List Int)
 | 0, _, _, _, _ => none
 | k + 1, x0, x1, x5, x6 => if x6 < (x0.length : Int) then (vernierref04_Mul.l1 k x0 x1 x5 x6 0 0) else ((vernierref04_Cut.f k x5).bind fun t321 => (some t321))
def vernierref04_Mul.l1 : Nat → List Int → List Int → List Int → Int → Int → Int → Option (List Int)
 | 0, _, _, _, _, _, _ => none
 | k + 1, x0, x1, x5, x6, x7, x8 => if x8 < (x1.length : Int) then (if 0 ≤ (wrap64 (x6 + x8)) then (if (wrap64 (x6 + x8)) < (x5.length : Int) then (if 0 ≤ x6 then (if x6 < (x0.length : Int) then (if 0 ≤ x8 then (vernierref04_Mul.l1 k x0 x1 (x5.set ((wrap64 (x6 + x8)) : Int).toNat (Int.tmod (wrap64 ((wrap64 ((rd x5 (wrap64 (x6 + x8))) + (wrap64 ((rd x0 x6) * (rd x1 x8))))) + x7)) 16777216)) x6 (wrap64 (Int.tdiv (wrap64 ((wrap64 ((rd x5 (wrap64 (x6 + x8))) + (wrap64 ((rd x0 x6) * (rd x1 x8))))) + x7)) 16777216)) (wrap64 (x8 + 1))) else (none)) else (none)) else (none)) else (none)) else (none)) else (if 0 ≤ (wrap64 (x6 + (x1.length : Int))) then (if (wrap64 (x6 + (x1.length : Int))) < (x5.length : Int) then (vernierref04_Mul.l0 k x0 x1 (x5.set ((wrap64 (x6 + (x1.length : Int))) : Int).toNat x7) (wrap64 (x6 + 1))) else (none)) else (none))
end
def vernierref04_Mul.f (k : Nat) (l0 : List Int) (l1 : List Int) : Option (List Int) := if (l0.length : Int) = 0 then (vernierref04_Mul.j0 k l0 l1 true) else (vernierref04_Mul.j0 k l0 l1 ((l1.length : Int) == 0))
theorem vernierref04_Mul.mono_l : ∀ k, (∀ y0 y1 y2, LeO (vernierref04_Mul.j0 k y0 y1 y2) (vernierref04_Mul.j0 (k + 1) y0 y1 y2)) ∧ (∀ y0 y1 y2 y3, LeO (vernierref04_Mul.l0 k y0 y1 y2 y3) (vernierref04_Mul.l0 (k + 1) y0 y1 y2 y3)) ∧ (∀ y0 y1 y2 y3 y4 y5, LeO (vernierref04_Mul.l1 k y0 y1 y2 y3 y4 y5) (vernierref04_Mul.l1 (k + 1) y0 y1 y2 y3 y4 y5))
 | 0 => ⟨fun _ _ _ r h => by simp [vernierref04_Mul.j0] at h, fun _ _ _ _ r h => by simp [vernierref04_Mul.l0] at h, fun _ _ _ _ _ _ r h => by simp [vernierref04_Mul.l1] at h⟩
 | k + 1 => by
  obtain ⟨ih0, ih1, ih2⟩ := vernierref04_Mul.mono_l k
  refine ⟨?_, ?_, ?_⟩
  ·intro y0 y1 y2
   unfold vernierref04_Mul.j0
   repeat' first
   | (with_reducible exact ih0 _ _ _)
   | (with_reducible exact ih1 _ _ _ _)
   | (with_reducible exact ih2 _ _ _ _ _ _)
   | (with_reducible exact vernierref04_Cut.mono _ _)
   | (with_reducible exact LeO.refl _)
   | (with_reducible exact LeO.none _)
   | (with_reducible refine LeO.ite ?_ ?_)
   | (with_reducible refine LeO.bind ?_ (fun _ => ?_))
   | exact ih0 _ _ _
   | exact ih1 _ _ _ _
   | exact ih2 _ _ _ _ _ _
   | exact vernierref04_Cut.mono _ _
   | exact LeO.none _
   | refine LeO.ite ?_ ?_
   | refine LeO.bind ?_ (fun _ => ?_)
  ·intro y0 y1 y2 y3
   unfold vernierref04_Mul.l0
   repeat' first
   | (with_reducible exact ih0 _ _ _)
   | (with_reducible exact ih1 _ _ _ _)
   | (with_reducible exact ih2 _ _ _ _ _ _)
   | (with_reducible exact vernierref04_Cut.mono _ _)
   | (with_reducible exact LeO.refl _)
   | (with_reducible exact LeO.none _)
   | (with_reducible refine LeO.ite ?_ ?_)
   | (with_reducible refine LeO.bind ?_ (fun _ => ?_))
   | exact ih0 _ _ _
   | exact ih1 _ _ _ _
   | exact ih2 _ _ _ _ _ _
   | exact vernierref04_Cut.mono _ _
   | exact LeO.none _
   | refine LeO.ite ?_ ?_
   | refine LeO.bind ?_ (fun _ => ?_)
  ·intro y0 y1 y2 y3 y4 y5
   unfold vernierref04_Mul.l1
   repeat' first
   | (with_reducible exact ih0 _ _ _)
   | (with_reducible exact ih1 _ _ _ _)
   | (with_reducible exact ih2 _ _ _ _ _ _)
   | (with_reducible exact vernierref04_Cut.mono _ _)
   | (with_reducible exact LeO.refl _)
   | (with_reducible exact LeO.none _)
   | (with_reducible refine LeO.ite ?_ ?_)
   | (with_reducible refine LeO.bind ?_ (fun _ => ?_))
   | exact ih0 _ _ _
   | exact ih1 _ _ _ _
   | exact ih2 _ _ _ _ _ _
   | exact vernierref04_Cut.mono _ _
   | exact LeO.none _
   | refine LeO.ite ?_ ?_
   | refine LeO.bind ?_ (fun _ => ?_)
theorem vernierref04_Mul.mono : ∀ a0 a1 k, LeO (vernierref04_Mul.f k a0 a1) (vernierref04_Mul.f (k + 1) a0 a1) := by
 intro a0 a1 k
 obtain ⟨ih0, ih1, ih2⟩ := vernierref04_Mul.mono_l k
 unfold vernierref04_Mul.f
 repeat' first
   | (with_reducible exact ih0 _ _ _)
   | (with_reducible exact ih1 _ _ _ _)
   | (with_reducible exact ih2 _ _ _ _ _ _)
   | (with_reducible exact vernierref04_Cut.mono _ _)
   | (with_reducible exact LeO.refl _)
   | (with_reducible exact LeO.none _)
   | (with_reducible refine LeO.ite ?_ ?_)
   | (with_reducible refine LeO.bind ?_ (fun _ => ?_))
   | exact ih0 _ _ _
   | exact ih1 _ _ _ _
   | exact ih2 _ _ _ _ _ _
   | exact vernierref04_Cut.mono _ _
   | exact LeO.none _
   | refine LeO.ite ?_ ?_
   | refine LeO.bind ?_ (fun _ => ?_)
set_option maxHeartbeats 8000000 in
set_option maxRecDepth 100000 in
theorem vernierref04_Mul.calls (k : Nat) (A0 : Option Addr) (c0 : Nat) (l0 : List Int) (A1 : Option Addr) (c1 : Nat) (l1 : List Int) (r : List Int) (w : World) (hr0 : Kd.C (Kd.int .i64) w A0 l0.length l0) (hc0 : l0.length ≤ c0) (hr1 : Kd.C (Kd.int .i64) w A1 l1.length l1) (hc1 : l1.length ≤ c1) (h : vernierref04_Mul.f k l0 l1 = some r) :
  Calls Try.prog 25 #[.slice A0 l0.length c0,.slice A1 l1.length c1] w fun e w' => ∃ v0_ : Value, e = .returned (v0_) ∧ Kd.R (Kd.int .i64) 3 w' w.heap.size (fun _ => True) v0_ r ∧ Below w.heap.size w w' := by
 have HR0 := am_ hr0
 have HC0 := am_ hc0
 clear hr0 hc0
 have HR1 := am_ hr1
 have HC1 := am_ hc1
 clear hr1 hc1
 have HB := am_ (Below.refl w.heap.size w)
 have H : (if (l0.length : Int) = 0 then (vernierref04_Mul.j0 k l0 l1 true) else (vernierref04_Mul.j0 k l0 l1 ((l1.length : Int) == 0))) = some r := h
 clear h
 have HC3 := am_ H
 clear H
 go_enter Try.func25, Try.ntmps25
 go_upto_region 1 with (fail)
 repeat (go_quiet (fail);go_upto_region 1 with (fail))
 go_cut [17] (fun v17 wc => ∃ (kq : Nat) (x17_2 : Bool), v17 = .bool x17_2 ∧ Aside0 (vernierref04_Mul.j0 kq l0 l1 x17_2 = some r) ∧ Aside0 (kq ≤ k) ∧ Aside0 (Below w.heap.size w wc))
 case first =>
  have H := HC3.out
  clear HC3
  by_cases c4 : (l0.length : Int) = 0
  ·rw [if_pos c4] at H
   have c4b0 : ((l0.length : Int) == 0) = true := beq_iff_eq.mpr c4
   have c4b1 : ((l0.length : Int) != 0) = false := bne_eq_false_iff_eq.mpr c4
   clear c4
   (first | rw [c4b0] | (simp only [i64_w, i32_w];rw [c4b0]) | skip)
   have H' := am_ H
   clear H
   go_wp2
   repeat (go_quiet (fail);try go_wp2)
   go_meet
   case rel => exact ⟨_, (true), (by first | rfl | (simp;done) | (simp [*];done)), H', ⟨by first | omega | exact Nat.le_refl _⟩, ⟨z3_ HB.out⟩⟩
  ·rw [if_neg c4] at H
   have c4b0 : ((l0.length : Int) == 0) = false := beq_eq_false_iff_ne.mpr c4
   have c4b1 : ((l0.length : Int) != 0) = true := bne_iff_ne.mpr c4
   have c4b2 : ¬ (l0 = []) := fun h_ => c4 (by rw [h_];rfl)
   (first | rw [c4b0] | (simp only [i64_w, i32_w];rw [c4b0]) | skip)
   have H' := am_ H
   clear H
   go_wp2
   repeat (go_quiet (fail);try go_wp2)
   go_meet
   case rel => exact ⟨_, (((l1.length : Int) == 0)), (by first | rfl | (simp;done) | (simp [*];done)), H', ⟨by first | omega | exact Nat.le_refl _⟩, ⟨z3_ HB.out⟩⟩
 case rest =>
  clear HC3
  try clear c1
  obtain ⟨kq, x17_2, rfl, HA, HJ2, HB⟩ := hcut
  cases kq with
  | zero => exact absurd HA.out (by simp [vernierref04_Mul.j0])
  | succ kj2 =>
   have H := HA.out
   clear HA
   simp only [vernierref04_Mul.j0] at H
   by_cases c5 : x17_2 = true
   ·subst c5
    have H1 : (some ([] : List Int)) = some r := by rw [if_pos rfl] at H;exact H
    clear H
    have H := H1
    clear H1
    obtain rfl := Option.some.inj H
    go_wp2
    repeat (go_quiet (fail);try go_wp2)
    go_ret
    exact ⟨_, by first | rfl | (simp [errW_none, errW_some] <;> rfl) | (simp [*, errW_none, errW_some] <;> rfl), by first | exact Kd.R_nil _ _ _ _ _ | exact Kd.N_nil _ _ _ _ _ | exact Kd.V_nil _ _ _ _ _ | exact Kd.Q_nil _ _ _ _ _ | exact Kd.S_nil _ _ _ _ _, z3_ HB.out⟩
   ·replace c5 := Bool.eq_false_iff.mpr c5
    subst c5
    have H1 : (if 0 ≤ (wrap64 ((l0.length : Int) + (l1.length : Int))) then (if (wrap64 ((l0.length : Int) + (l1.length : Int)) : Int).toNat ≤ 35184372088832 then (vernierref04_Mul.l0 kj2 l0 l1 (List.replicate (wrap64 ((l0.length : Int) + (l1.length : Int)) : Int).toNat 0) 0) else (none)) else (none)) = some r := by rw [if_neg (show ¬ (false = true) by decide)] at H;exact H
    clear H
    have H := H1
    clear H1
    obtain ⟨ji6, hji6⟩ : ∃ j_ : Int, (wrap64 ((l0.length : Int) + (l1.length : Int))) = j_ := ⟨_, rfl⟩
    replace H : (if 0 ≤ (ji6) then (if (ji6 : Int).toNat ≤ 35184372088832 then (vernierref04_Mul.l0 kj2 l0 l1 (List.replicate (ji6 : Int).toNat 0) 0) else (none)) else (none)) = some r := by first | (rw [hji6] at H;exact H) | (simp only [hji6] at H ⊢;exact H)
    have hji6w : (IntKind.i64.wrap ((l0.length : Int) + (l1.length : Int))) = ji6 := (i64_w _).trans hji6
    by_cases c7 : 0 ≤ (ji6)
    ·rw [if_pos c7] at H
     have c7b0 := eq_true c7
     have c7b1 : decide (0 ≤ (ji6)) = true := decide_eq_true c7
     clear c7
     by_cases c8 : (ji6 : Int).toNat ≤ 35184372088832
     ·rw [if_pos c8] at H
      have c8b0 := eq_true c8
      have c8b1 : decide ((ji6 : Int).toNat ≤ 35184372088832) = true := decide_eq_true c8
      clear c8
      obtain ⟨y318, hy318⟩ : ∃ y_ : List Int, y_ = (List.replicate (ji6 : Int).toNat 0) := ⟨_, rfl⟩
      replace H : (vernierref04_Mul.l0 kj2 l0 l1 y318 0) = some r := by first | (rw [hy318];with_reducible exact H) | (have H2_ := (Option.bind_some _ _).symm.trans H;rw [hy318];with_reducible exact H2_) | (have H2_ := (Option.bind_some _ _).symm.trans H;with_reducible exact H2_) | with_reducible exact H | (rw [hy318];exact H) | exact H
      have Ny318 := am_ hy318
      clear hy318
      have H' := am_ H
      clear H
      go_wp2_with (first | ((with_reducible refine gate_dst (N := 23) rfl ?_);(try (refine gate_guard (by rfl) ?_;dsimp only));refine Kd.R_make (Kd.int .i64) _ 3 rfl (N := 23) rfl 58 _ _ rfl ji6 rfl rfl Try.underlying58 (.int .i64 0) 8 info3 rfl (by decide) (by omega) 0 (ok := fun _ => True) (okp := fun _ => True) rfl (fun _ hk => hk) trivial (of_decide_eq_true (by first | (with_reducible assumption) | assumption)) (Nat.le_trans (Nat.mul_le_mul_right _ (of_decide_eq_true (by first | (with_reducible assumption) | assumption) : ji6.toNat ≤ 35184372088832)) (by omega)) (Below.refl _ _) (Nat.le_refl _) ?_;intro v319 w9 ho10 hb hg_ hnew_;clear hg_ hnew_;(first | rw [← Ny318.out] at ho10 | (simp only [Int.reduceToNat] at ho10;rw [← Ny318.out] at ho10));have n0_ := am_ (Kd.R_lower ho10 (below_size (z3_ HB.out)));have n1_ := am_ (below_step (z3_ HB.out) hb);clear HB;have HO320 := n0_;have HB := n1_;clear n0_ n1_;clear hb ho10))
      repeat (go_quiet (first | ((with_reducible refine gate_dst (N := 23) rfl ?_);(try (refine gate_guard (by rfl) ?_;dsimp only));refine Kd.R_make (Kd.int .i64) _ 3 rfl (N := 23) rfl 58 _ _ rfl ji6 rfl rfl Try.underlying58 (.int .i64 0) 8 info3 rfl (by decide) (by omega) 0 (ok := fun _ => True) (okp := fun _ => True) rfl (fun _ hk => hk) trivial (of_decide_eq_true (by first | (with_reducible assumption) | assumption)) (Nat.le_trans (Nat.mul_le_mul_right _ (of_decide_eq_true (by first | (with_reducible assumption) | assumption) : ji6.toNat ≤ 35184372088832)) (by omega)) (Below.refl _ _) (Nat.le_refl _) ?_;intro v319 w9 ho10 hb hg_ hnew_;clear hg_ hnew_;(first | rw [← Ny318.out] at ho10 | (simp only [Int.reduceToNat] at ho10;rw [← Ny318.out] at ho10));have n0_ := am_ (Kd.R_lower ho10 (below_size (z3_ HB.out)));have n1_ := am_ (below_step (z3_ HB.out) hb);clear HB;have HO320 := n0_;have HB := n1_;clear n0_ n1_;clear hb ho10));try go_wp2_with (first | ((with_reducible refine gate_dst (N := 23) rfl ?_);(try (refine gate_guard (by rfl) ?_;dsimp only));refine Kd.R_make (Kd.int .i64) _ 3 rfl (N := 23) rfl 58 _ _ rfl ji6 rfl rfl Try.underlying58 (.int .i64 0) 8 info3 rfl (by decide) (by omega) 0 (ok := fun _ => True) (okp := fun _ => True) rfl (fun _ hk => hk) trivial (of_decide_eq_true (by first | (with_reducible assumption) | assumption)) (Nat.le_trans (Nat.mul_le_mul_right _ (of_decide_eq_true (by first | (with_reducible assumption) | assumption) : ji6.toNat ≤ 35184372088832)) (by omega)) (Below.refl _ _) (Nat.le_refl _) ?_;intro v319 w9 ho10 hb hg_ hnew_;clear hg_ hnew_;(first | rw [← Ny318.out] at ho10 | (simp only [Int.reduceToNat] at ho10;rw [← Ny318.out] at ho10));have n0_ := am_ (Kd.R_lower ho10 (below_size (z3_ HB.out)));have n1_ := am_ (below_step (z3_ HB.out) hb);clear HB;have HO320 := n0_;have HB := n1_;clear n0_ n1_;clear hb ho10)))
      go_loopg [6] kj2 (fun kq v6 w' => ∃ (x5_2 : List Int) (x6_2 : Int), v6 = .int .i64 x6_2 ∧ Aside0 (vernierref04_Mul.l0 kq l0 l1 x5_2 x6_2 = some r) ∧ Aside0 (kq ≤ kj2) ∧ Aside0 (Kd.R (Kd.int .i64) 3 w' w.heap.size (fun _ => True) v319 x5_2) ∧ Aside0 (Below w.heap.size w w'))
      case atStart => exact ⟨(y318), (0), (by first | rfl | (simp;done) | (simp [*];done)), H', ⟨Nat.le_refl _⟩, ⟨by (with_reducible repeat (first | apply Kd.R_alloc | apply Kd.R_drewN | apply Kd.R_drew));exact HO320.out⟩, ⟨z3_ HB.out⟩⟩
      case round =>
       clear H'
       try clear c1
       try clear c5
       try clear c7
       try clear c7b0
       try clear c7b1
       try clear c8
       try clear c8b0
       try clear c8b1
       obtain ⟨x5_2, x6_2, rfl, HA, HK2, HO_5, HB⟩ := hrel
       cases gk with
       | zero => exact absurd HA.out (by simp [vernierref04_Mul.l0])
       | succ k2 =>
        have H := HA.out
        clear HA
        simp only [vernierref04_Mul.l0] at H
        by_cases c11 : x6_2 < (l0.length : Int)
        ·rw [if_pos c11] at H
         have c11b0 : decide (x6_2 < (l0.length : Int)) = true := decide_eq_true c11
         clear c11
         have H' := am_ H
         clear H
         go_wp2
         repeat (go_quiet (fail);try go_wp2)
         go_loopg [7, 8] k2 (fun kq v7 v8 w' => ∃ (x5_3 : List Int) (x7_3 : Int) (x8_3 : Int), v7 = .int .i64 x7_3 ∧ v8 = .int .i64 x8_3 ∧ Aside0 (vernierref04_Mul.l1 kq l0 l1 x5_3 x6_2 x7_3 x8_3 = some r) ∧ Aside0 (kq ≤ k2) ∧ Aside0 (Kd.R (Kd.int .i64) 3 w' w.heap.size (fun _ => True) v319 x5_3) ∧ Aside0 (Below w.heap.size w w'))
         case atStart => exact ⟨(x5_2), (0), (0), (by first | rfl | (simp;done) | (simp [*];done)), (by first | rfl | (simp;done) | (simp [*];done)), H', ⟨Nat.le_refl _⟩, ⟨by (with_reducible repeat (first | apply Kd.R_alloc | apply Kd.R_drewN | apply Kd.R_drew));exact HO_5.out⟩, ⟨z3_ HB.out⟩⟩
         case round =>
          clear H'
          try clear c1
          try clear c5
          try clear c7
          try clear c7b0
          try clear c7b1
          try clear c8
          try clear c8b0
          try clear c8b1
          try clear c11
          try clear c11b0
          obtain ⟨x5_3, x7_3, x8_3, rfl, rfl, HA, HK3, HO_5, HB⟩ := hrel
          cases gk with
          | zero => exact absurd HA.out (by simp [vernierref04_Mul.l1])
          | succ k3 =>
           have H := HA.out
           clear HA
           simp only [vernierref04_Mul.l1] at H
           by_cases c12 : x8_3 < (l1.length : Int)
           ·rw [if_pos c12] at H
            have c12b0 : decide (x8_3 < (l1.length : Int)) = true := decide_eq_true c12
            clear c12
            obtain ⟨ji13, hji13⟩ : ∃ j_ : Int, (wrap64 (x6_2 + x8_3)) = j_ := ⟨_, rfl⟩
            replace H : (if 0 ≤ (ji13) then (if (ji13) < (x5_3.length : Int) then (if 0 ≤ x6_2 then (if x6_2 < (l0.length : Int) then (if 0 ≤ x8_3 then (vernierref04_Mul.l1 k3 l0 l1 (x5_3.set ((ji13) : Int).toNat (Int.tmod (wrap64 ((wrap64 ((rd x5_3 (ji13)) + (wrap64 ((rd l0 x6_2) * (rd l1 x8_3))))) + x7_3)) 16777216)) x6_2 (wrap64 (Int.tdiv (wrap64 ((wrap64 ((rd x5_3 (ji13)) + (wrap64 ((rd l0 x6_2) * (rd l1 x8_3))))) + x7_3)) 16777216)) (wrap64 (x8_3 + 1))) else (none)) else (none)) else (none)) else (none)) else (none)) = some r := by first | (rw [hji13] at H;exact H) | (simp only [hji13] at H ⊢;exact H)
            have hji13w : (IntKind.i64.wrap (x6_2 + x8_3)) = ji13 := (i64_w _).trans hji13
            by_cases c14 : 0 ≤ (ji13)
            ·rw [if_pos c14] at H
             have c14b0 : decide (0 ≤ (ji13)) = true := decide_eq_true c14
             clear c14
             by_cases c15 : (ji13) < (x5_3.length : Int)
             ·rw [if_pos c15] at H
              have c15b0 : decide ((ji13) < (x5_3.length : Int)) = true := decide_eq_true c15
              clear c15
              by_cases c16 : 0 ≤ x6_2
              ·rw [if_pos c16] at H
               have c16b0 : decide (0 ≤ x6_2) = true := decide_eq_true c16
               clear c16
               by_cases c17 : x6_2 < (l0.length : Int)
               ·rw [if_pos c17] at H
                have c17b0 : decide (x6_2 < (l0.length : Int)) = true := decide_eq_true c17
                clear c17
                by_cases c18 : 0 ≤ x8_3
                ·rw [if_pos c18] at H
                 have c18b0 : decide (0 ≤ x8_3) = true := decide_eq_true c18
                 clear c18
                 obtain ⟨y327, hy327⟩ : ∃ y_ : List Int, y_ = (x5_3.set ((ji13) : Int).toNat (Int.tmod (wrap64 ((wrap64 ((rd x5_3 (ji13)) + (wrap64 ((rd l0 x6_2) * (rd l1 x8_3))))) + x7_3)) 16777216)) := ⟨_, rfl⟩
                 replace H : (vernierref04_Mul.l1 k3 l0 l1 y327 x6_2 (wrap64 (Int.tdiv (wrap64 ((wrap64 ((rd x5_3 (ji13)) + (wrap64 ((rd l0 x6_2) * (rd l1 x8_3))))) + x7_3)) 16777216)) (wrap64 (x8_3 + 1))) = some r := by first | (rw [hy327];with_reducible exact H) | (have H2_ := (Option.bind_some _ _).symm.trans H;rw [hy327];with_reducible exact H2_) | (have H2_ := (Option.bind_some _ _).symm.trans H;with_reducible exact H2_) | with_reducible exact H | (rw [hy327];exact H) | exact H
                 have Ny327 := am_ hy327
                 clear hy327
                 have H' := am_ H
                 clear H
                 obtain ⟨Ao20, co20, eo20⟩ := Kd.R_slice HO_5.out
                 subst eo20
                 have p324 : 0 ≤ ((ji13) : Int) := of_decide_eq_true (by first | (with_reducible assumption) | assumption)
                 have q324 : (ji13) < (x5_3.length : Int) := of_decide_eq_true (by first | (with_reducible assumption) | assumption)
                 obtain ⟨ad324, e324, hx324_0⟩ := Kd.at_int (Kd.R_reads' HO_5.out).2.2 (ji13) p324 q324
                 cases e324
                 replace p324 := eq_true p324
                 replace q324 := eq_true q324
                 have p325 : 0 ≤ (x6_2 : Int) := of_decide_eq_true (by first | (with_reducible assumption) | assumption)
                 have q325 : x6_2 < (l0.length : Int) := of_decide_eq_true (by first | (with_reducible assumption) | assumption)
                 obtain ⟨ad325, e325, hx325_0⟩ := Kd.at_int HR0.out x6_2 p325 q325
                 cases e325
                 replace hx325_0 := (HB.out.cell (World.block_lt_of_cell? w _ hx325_0)).trans hx325_0
                 replace p325 := eq_true p325
                 replace q325 := eq_true q325
                 have p326 : 0 ≤ (x8_3 : Int) := of_decide_eq_true (by first | (with_reducible assumption) | assumption)
                 have q326 : x8_3 < (l1.length : Int) := of_decide_eq_true (by first | (with_reducible assumption) | assumption)
                 obtain ⟨ad326, e326, hx326_0⟩ := Kd.at_int HR1.out x8_3 p326 q326
                 cases e326
                 replace hx326_0 := (HB.out.cell (World.block_lt_of_cell? w _ hx326_0)).trans hx326_0
                 replace p326 := eq_true p326
                 replace q326 := eq_true q326
                 have p19 : 0 ≤ ((ji13) : Int) := of_decide_eq_true (by first | (with_reducible assumption) | assumption)
                 have q19 : ((ji13) : Int) < ((x5_3.length : Int) : Int) := of_decide_eq_true (by first | (with_reducible assumption) | assumption)
                 obtain ⟨go19, co19, eo19, gb19, gl19, cl19, HG19⟩ := Kd.R_form HO_5.out (by omega)
                 (first | cases eo19 | (injection eo19 with ea_ en_ ec_;(first | subst ea_ | (injection ea_ with ea_;subst ea_));subst ec_;clear en_))
                 have GB19 := am_ gb19
                 have GG19 := am_ HG19
                 clear gb19 gl19 HG19
                 (first | simp only [add_plain] at hx324_0 | skip)
                 obtain ⟨hx19_0, hf19_0⟩ := Kd.R_celln 0 HO_5.out ((ji13) : Int) p19 q19
                 replace p19 := eq_true p19
                 replace q19 := eq_true q19
                 have HP21 := Kd.R_putg HO_5.out ((ji13) : Int) (Int.tmod (wrap64 ((wrap64 ((rd x5_3 (ji13)) + (wrap64 ((rd l0 x6_2) * (rd l1 x8_3))))) + x7_3)) 16777216)
                 go_wp2_with (first | ((with_reducible refine gate_store (t := 3) (p := 60) rfl ?_);(try (rw [drewN_self wr];generalize hq_ : World.drewN wr _ = wr;have n0_ := am_ (Kd.R_at hq_ HO_5.out);have n1_ := am_ (below_at hq_ HB.out);clear hq_ HO_5 HB;have HO_5 := n0_;have HB := n1_;clear n0_ n1_;(try (have HP21 := Kd.R_putg HO_5.out ((ji13) : Int) (Int.tmod (wrap64 ((wrap64 ((rd x5_3 (ji13)) + (wrap64 ((rd l0 x6_2) * (rd l1 x8_3))))) + x7_3)) 16777216)));(try (have hx19_0 := (Kd.R_celln 0 HO_5.out ((ji13) : Int) (of_eq_true p19) (of_eq_true q19)).1));(try (have hf19_0 := (Kd.R_celln 0 HO_5.out ((ji13) : Int) (of_eq_true p19) (of_eq_true q19)).2))));refine store_event (t := 3) (p := 60) (v := ?vo_w22) (w1 := (wr.setCell ⟨go19, ((ji13) : Int).toNat, none⟩ (.int .i64 (Int.tmod (wrap64 ((wrap64 ((rd x5_3 (ji13)) + (wrap64 ((rd l0 x6_2) * (rd l1 x8_3))))) + x7_3)) 16777216)))) ?hg ?ho ?hn ?hr ?_;(case ho => rfl);(case hg => rfl);(case hn => rfl);(case hr => first | (go_simp;done) | (go_simp;rfl));intro w22 hw;have hg : wr.grownBy w22 (some go19) := (by rw [hw];exact HP21.2);have hp_ : Kd.R (Kd.int .i64) 3 w22 w.heap.size (fun _ => True) (.slice (some ⟨go19, 0, none⟩) x5_3.length co20) y327 := (by rw [hw, Ny327.out];exact HP21.1);clear HP21;have n0_ := am_ (hp_);have n1_ := am_ ((by rw [hw];exact below_set (HB.out) GB19.out : Below w.heap.size w w22));clear HO_5;clear HB;have HO_5 := n0_;have HB := n1_;clear n0_ n1_;clear hg hw hp_))
                 repeat (go_quiet (first | ((with_reducible refine gate_store (t := 3) (p := 60) rfl ?_);(try (rw [drewN_self wr];generalize hq_ : World.drewN wr _ = wr;have n0_ := am_ (Kd.R_at hq_ HO_5.out);have n1_ := am_ (below_at hq_ HB.out);clear hq_ HO_5 HB;have HO_5 := n0_;have HB := n1_;clear n0_ n1_;(try (have HP21 := Kd.R_putg HO_5.out ((ji13) : Int) (Int.tmod (wrap64 ((wrap64 ((rd x5_3 (ji13)) + (wrap64 ((rd l0 x6_2) * (rd l1 x8_3))))) + x7_3)) 16777216)));(try (have hx19_0 := (Kd.R_celln 0 HO_5.out ((ji13) : Int) (of_eq_true p19) (of_eq_true q19)).1));(try (have hf19_0 := (Kd.R_celln 0 HO_5.out ((ji13) : Int) (of_eq_true p19) (of_eq_true q19)).2))));refine store_event (t := 3) (p := 60) (v := ?vo_w22) (w1 := (wr.setCell ⟨go19, ((ji13) : Int).toNat, none⟩ (.int .i64 (Int.tmod (wrap64 ((wrap64 ((rd x5_3 (ji13)) + (wrap64 ((rd l0 x6_2) * (rd l1 x8_3))))) + x7_3)) 16777216)))) ?hg ?ho ?hn ?hr ?_;(case ho => rfl);(case hg => rfl);(case hn => rfl);(case hr => first | (go_simp;done) | (go_simp;rfl));intro w22 hw;have hg : wr.grownBy w22 (some go19) := (by rw [hw];exact HP21.2);have hp_ : Kd.R (Kd.int .i64) 3 w22 w.heap.size (fun _ => True) (.slice (some ⟨go19, 0, none⟩) x5_3.length co20) y327 := (by rw [hw, Ny327.out];exact HP21.1);clear HP21;have n0_ := am_ (hp_);have n1_ := am_ ((by rw [hw];exact below_set (HB.out) GB19.out : Below w.heap.size w w22));clear HO_5;clear HB;have HO_5 := n0_;have HB := n1_;clear n0_ n1_;clear hg hw hp_));try go_wp2_with (first | ((with_reducible refine gate_store (t := 3) (p := 60) rfl ?_);(try (rw [drewN_self wr];generalize hq_ : World.drewN wr _ = wr;have n0_ := am_ (Kd.R_at hq_ HO_5.out);have n1_ := am_ (below_at hq_ HB.out);clear hq_ HO_5 HB;have HO_5 := n0_;have HB := n1_;clear n0_ n1_;(try (have HP21 := Kd.R_putg HO_5.out ((ji13) : Int) (Int.tmod (wrap64 ((wrap64 ((rd x5_3 (ji13)) + (wrap64 ((rd l0 x6_2) * (rd l1 x8_3))))) + x7_3)) 16777216)));(try (have hx19_0 := (Kd.R_celln 0 HO_5.out ((ji13) : Int) (of_eq_true p19) (of_eq_true q19)).1));(try (have hf19_0 := (Kd.R_celln 0 HO_5.out ((ji13) : Int) (of_eq_true p19) (of_eq_true q19)).2))));refine store_event (t := 3) (p := 60) (v := ?vo_w22) (w1 := (wr.setCell ⟨go19, ((ji13) : Int).toNat, none⟩ (.int .i64 (Int.tmod (wrap64 ((wrap64 ((rd x5_3 (ji13)) + (wrap64 ((rd l0 x6_2) * (rd l1 x8_3))))) + x7_3)) 16777216)))) ?hg ?ho ?hn ?hr ?_;(case ho => rfl);(case hg => rfl);(case hn => rfl);(case hr => first | (go_simp;done) | (go_simp;rfl));intro w22 hw;have hg : wr.grownBy w22 (some go19) := (by rw [hw];exact HP21.2);have hp_ : Kd.R (Kd.int .i64) 3 w22 w.heap.size (fun _ => True) (.slice (some ⟨go19, 0, none⟩) x5_3.length co20) y327 := (by rw [hw, Ny327.out];exact HP21.1);clear HP21;have n0_ := am_ (hp_);have n1_ := am_ ((by rw [hw];exact below_set (HB.out) GB19.out : Below w.heap.size w w22));clear HO_5;clear HB;have HO_5 := n0_;have HB := n1_;clear n0_ n1_;clear hg hw hp_)))
                 go_roundg k3
                 case measure => have := HJ2.out;have := HK2.out;have := HK3.out;omega
                 case rel => exact ⟨(y327), (wrap64 (Int.tdiv (wrap64 ((wrap64 ((rd x5_3 (ji13)) + (wrap64 ((rd l0 x6_2) * (rd l1 x8_3))))) + x7_3)) 16777216)), (wrap64 (x8_3 + 1)), (by first | rfl | (simp;done) | (simp only [← hji13] <;> (first | rfl | simp)) | (simp [*];done)), (by first | rfl | (simp;done) | (simp [*];done)), H', ⟨by have := HJ2.out;have := HK2.out;have := HK3.out;omega⟩, ⟨by (with_reducible repeat (first | apply Kd.R_alloc | apply Kd.R_drewN | apply Kd.R_drew));exact HO_5.out⟩, ⟨z3_ HB.out⟩⟩
                ·rw [if_neg c18] at H
                 exact absurd H (by simp)
               ·rw [if_neg c17] at H
                exact absurd H (by simp)
              ·rw [if_neg c16] at H
               exact absurd H (by simp)
             ·rw [if_neg c15] at H
              exact absurd H (by simp)
            ·rw [if_neg c14] at H
             exact absurd H (by simp)
           ·rw [if_neg c12] at H
            have c12b0 : decide (x8_3 < (l1.length : Int)) = false := decide_eq_false c12
            clear c12
            obtain ⟨ji23, hji23⟩ : ∃ j_ : Int, (wrap64 (x6_2 + (l1.length : Int))) = j_ := ⟨_, rfl⟩
            replace H : (if 0 ≤ (ji23) then (if (ji23) < (x5_3.length : Int) then (vernierref04_Mul.l0 k3 l0 l1 (x5_3.set ((ji23) : Int).toNat x7_3) (wrap64 (x6_2 + 1))) else (none)) else (none)) = some r := by first | (rw [hji23] at H;exact H) | (simp only [hji23] at H ⊢;exact H)
            have hji23w : (IntKind.i64.wrap (x6_2 + (l1.length : Int))) = ji23 := (i64_w _).trans hji23
            by_cases c24 : 0 ≤ (ji23)
            ·rw [if_pos c24] at H
             have c24b0 : decide (0 ≤ (ji23)) = true := decide_eq_true c24
             clear c24
             by_cases c25 : (ji23) < (x5_3.length : Int)
             ·rw [if_pos c25] at H
              have c25b0 : decide ((ji23) < (x5_3.length : Int)) = true := decide_eq_true c25
              clear c25
              obtain ⟨y328, hy328⟩ : ∃ y_ : List Int, y_ = (x5_3.set ((ji23) : Int).toNat x7_3) := ⟨_, rfl⟩
              replace H : (vernierref04_Mul.l0 k3 l0 l1 y328 (wrap64 (x6_2 + 1))) = some r := by first | (rw [hy328];with_reducible exact H) | (have H2_ := (Option.bind_some _ _).symm.trans H;rw [hy328];with_reducible exact H2_) | (have H2_ := (Option.bind_some _ _).symm.trans H;with_reducible exact H2_) | with_reducible exact H | (rw [hy328];exact H) | exact H
              have Ny328 := am_ hy328
              clear hy328
              have H' := am_ H
              clear H
              have p26 : 0 ≤ ((ji23) : Int) := of_decide_eq_true (by first | (with_reducible assumption) | assumption)
              have q26 : ((ji23) : Int) < ((x5_3.length : Int) : Int) := of_decide_eq_true (by first | (with_reducible assumption) | assumption)
              obtain ⟨go26, co26, eo26, gb26, gl26, cl26, HG26⟩ := Kd.R_form HO_5.out (by omega)
              (first | cases eo26 | (injection eo26 with ea_ en_ ec_;(first | subst ea_ | (injection ea_ with ea_;subst ea_));subst ec_;clear en_))
              have GB26 := am_ gb26
              have GG26 := am_ HG26
              clear gb26 gl26 HG26
              obtain ⟨hx26_0, hf26_0⟩ := Kd.R_celln 0 HO_5.out ((ji23) : Int) p26 q26
              replace p26 := eq_true p26
              replace q26 := eq_true q26
              have HP27 := Kd.R_putg HO_5.out ((ji23) : Int) x7_3
              go_wp2_with (first | ((with_reducible refine gate_store (t := 3) (p := 69) rfl ?_);(try (rw [drewN_self wr];generalize hq_ : World.drewN wr _ = wr;have n0_ := am_ (Kd.R_at hq_ HO_5.out);have n1_ := am_ (below_at hq_ HB.out);clear hq_ HO_5 HB;have HO_5 := n0_;have HB := n1_;clear n0_ n1_;(try (have HP27 := Kd.R_putg HO_5.out ((ji23) : Int) x7_3));(try (have hx26_0 := (Kd.R_celln 0 HO_5.out ((ji23) : Int) (of_eq_true p26) (of_eq_true q26)).1));(try (have hf26_0 := (Kd.R_celln 0 HO_5.out ((ji23) : Int) (of_eq_true p26) (of_eq_true q26)).2))));refine store_event (t := 3) (p := 69) (v := ?vo_w28) (w1 := (wr.setCell ⟨go26, ((ji23) : Int).toNat, none⟩ (.int .i64 x7_3))) ?hg ?ho ?hn ?hr ?_;(case ho => rfl);(case hg => rfl);(case hn => rfl);(case hr => first | (go_simp;done) | (go_simp;rfl));intro w28 hw;have hg : wr.grownBy w28 (some go26) := (by rw [hw];exact HP27.2);have hp_ : Kd.R (Kd.int .i64) 3 w28 w.heap.size (fun _ => True) (.slice (some ⟨go26, 0, none⟩) x5_3.length co26) y328 := (by rw [hw, Ny328.out];exact HP27.1);clear HP27;have n0_ := am_ (hp_);have n1_ := am_ ((by rw [hw];exact below_set (HB.out) GB26.out : Below w.heap.size w w28));clear HO_5;clear HB;have HO_5 := n0_;have HB := n1_;clear n0_ n1_;clear hg hw hp_))
              repeat (go_quiet (first | ((with_reducible refine gate_store (t := 3) (p := 69) rfl ?_);(try (rw [drewN_self wr];generalize hq_ : World.drewN wr _ = wr;have n0_ := am_ (Kd.R_at hq_ HO_5.out);have n1_ := am_ (below_at hq_ HB.out);clear hq_ HO_5 HB;have HO_5 := n0_;have HB := n1_;clear n0_ n1_;(try (have HP27 := Kd.R_putg HO_5.out ((ji23) : Int) x7_3));(try (have hx26_0 := (Kd.R_celln 0 HO_5.out ((ji23) : Int) (of_eq_true p26) (of_eq_true q26)).1));(try (have hf26_0 := (Kd.R_celln 0 HO_5.out ((ji23) : Int) (of_eq_true p26) (of_eq_true q26)).2))));refine store_event (t := 3) (p := 69) (v := ?vo_w28) (w1 := (wr.setCell ⟨go26, ((ji23) : Int).toNat, none⟩ (.int .i64 x7_3))) ?hg ?ho ?hn ?hr ?_;(case ho => rfl);(case hg => rfl);(case hn => rfl);(case hr => first | (go_simp;done) | (go_simp;rfl));intro w28 hw;have hg : wr.grownBy w28 (some go26) := (by rw [hw];exact HP27.2);have hp_ : Kd.R (Kd.int .i64) 3 w28 w.heap.size (fun _ => True) (.slice (some ⟨go26, 0, none⟩) x5_3.length co26) y328 := (by rw [hw, Ny328.out];exact HP27.1);clear HP27;have n0_ := am_ (hp_);have n1_ := am_ ((by rw [hw];exact below_set (HB.out) GB26.out : Below w.heap.size w w28));clear HO_5;clear HB;have HO_5 := n0_;have HB := n1_;clear n0_ n1_;clear hg hw hp_));try go_wp2_with (first | ((with_reducible refine gate_store (t := 3) (p := 69) rfl ?_);(try (rw [drewN_self wr];generalize hq_ : World.drewN wr _ = wr;have n0_ := am_ (Kd.R_at hq_ HO_5.out);have n1_ := am_ (below_at hq_ HB.out);clear hq_ HO_5 HB;have HO_5 := n0_;have HB := n1_;clear n0_ n1_;(try (have HP27 := Kd.R_putg HO_5.out ((ji23) : Int) x7_3));(try (have hx26_0 := (Kd.R_celln 0 HO_5.out ((ji23) : Int) (of_eq_true p26) (of_eq_true q26)).1));(try (have hf26_0 := (Kd.R_celln 0 HO_5.out ((ji23) : Int) (of_eq_true p26) (of_eq_true q26)).2))));refine store_event (t := 3) (p := 69) (v := ?vo_w28) (w1 := (wr.setCell ⟨go26, ((ji23) : Int).toNat, none⟩ (.int .i64 x7_3))) ?hg ?ho ?hn ?hr ?_;(case ho => rfl);(case hg => rfl);(case hn => rfl);(case hr => first | (go_simp;done) | (go_simp;rfl));intro w28 hw;have hg : wr.grownBy w28 (some go26) := (by rw [hw];exact HP27.2);have hp_ : Kd.R (Kd.int .i64) 3 w28 w.heap.size (fun _ => True) (.slice (some ⟨go26, 0, none⟩) x5_3.length co26) y328 := (by rw [hw, Ny328.out];exact HP27.1);clear HP27;have n0_ := am_ (hp_);have n1_ := am_ ((by rw [hw];exact below_set (HB.out) GB26.out : Below w.heap.size w w28));clear HO_5;clear HB;have HO_5 := n0_;have HB := n1_;clear n0_ n1_;clear hg hw hp_)))
              go_roundg k3
              case measure => have := HJ2.out;have := HK2.out;have := HK3.out;omega
              case rel => exact ⟨(y328), (wrap64 (x6_2 + 1)), (by first | rfl | (simp;done) | (simp [*];done)), H', ⟨by have := HJ2.out;have := HK2.out;have := HK3.out;omega⟩, ⟨by (with_reducible repeat (first | apply Kd.R_alloc | apply Kd.R_drewN | apply Kd.R_drew));exact HO_5.out⟩, ⟨z3_ HB.out⟩⟩
             ·rw [if_neg c25] at H
              exact absurd H (by simp)
            ·rw [if_neg c24] at H
             exact absurd H (by simp)
        ·rw [if_neg c11] at H
         have c11b0 : decide (x6_2 < (l0.length : Int)) = false := decide_eq_false c11
         clear c11
         replace H := Option.bind_eq_some_iff.mp H
         obtain ⟨t321, A290, H⟩ := H
         replace H : (some t321) = some r := H
         have A29 := am_ A290
         clear A290
         obtain rfl := Option.some.inj H
         obtain ⟨Ao30, co30, eo30⟩ := Kd.R_slice HO_5.out
         subst eo30
         go_wp2_with (first | (go_at_call 40;(with_reducible refine (vernierref04_Cut.calls k2 (fun k_ => some k_ = (.slice Ao30 x5_2.length co30 : Value).ownBlock) (.slice Ao30 x5_2.length co30) x5_2 t321 w _ ?side1 ?side2 A29.out).mono ?_);(case side1 => repeat (first | (with_reducible first | exact HB.out | apply below_alloc | apply pw_below_drewN | apply below_drew1) | exact HB.out));(case side2 => exact Kd.R_tight rfl HO_5.out);rintro e w31 ⟨v322, rfl, ho0, hb, hkp⟩;have n0_ := am_ (Kd.R_mono (ok' := fun k_ => True) ho0 (fun k_ hk_ => trivial));have n1_ := am_ (hb);clear HB;clear HO_5;have HO323 := n0_;have HB := n1_;clear n0_ n1_;(try clear hb);(try clear hkp);(try clear ho0)))
         repeat (go_quiet (first | (go_at_call 40;(with_reducible refine (vernierref04_Cut.calls k2 (fun k_ => some k_ = (.slice Ao30 x5_2.length co30 : Value).ownBlock) (.slice Ao30 x5_2.length co30) x5_2 t321 w _ ?side1 ?side2 A29.out).mono ?_);(case side1 => repeat (first | (with_reducible first | exact HB.out | apply below_alloc | apply pw_below_drewN | apply below_drew1) | exact HB.out));(case side2 => exact Kd.R_tight rfl HO_5.out);rintro e w31 ⟨v322, rfl, ho0, hb, hkp⟩;have n0_ := am_ (Kd.R_mono (ok' := fun k_ => True) ho0 (fun k_ hk_ => trivial));have n1_ := am_ (hb);clear HB;clear HO_5;have HO323 := n0_;have HB := n1_;clear n0_ n1_;(try clear hb);(try clear hkp);(try clear ho0)));try go_wp2_with (first | (go_at_call 40;(with_reducible refine (vernierref04_Cut.calls k2 (fun k_ => some k_ = (.slice Ao30 x5_2.length co30 : Value).ownBlock) (.slice Ao30 x5_2.length co30) x5_2 t321 w _ ?side1 ?side2 A29.out).mono ?_);(case side1 => repeat (first | (with_reducible first | exact HB.out | apply below_alloc | apply pw_below_drewN | apply below_drew1) | exact HB.out));(case side2 => exact Kd.R_tight rfl HO_5.out);rintro e w31 ⟨v322, rfl, ho0, hb, hkp⟩;have n0_ := am_ (Kd.R_mono (ok' := fun k_ => True) ho0 (fun k_ hk_ => trivial));have n1_ := am_ (hb);clear HB;clear HO_5;have HO323 := n0_;have HB := n1_;clear n0_ n1_;(try clear hb);(try clear hkp);(try clear ho0))))
         go_ret
         exact ⟨_, by first | rfl | (simp [errW_none, errW_some] <;> rfl) | (simp only [← hji6];first | rfl | (simp [errW_none, errW_some] <;> rfl)) | (simp [*, errW_none, errW_some] <;> rfl), by (with_reducible repeat (first | apply Kd.R_alloc | apply Kd.R_drewN | apply Kd.R_drew));exact HO323.out, z3_ HB.out⟩
     ·rw [if_neg c8] at H
      exact absurd H (by simp)
    ·rw [if_neg c7] at H
     exact absurd H (by simp)
def vernierref04_Of.l0 : Nat → Int → List Int → Option (List Int)
 | 0, _, _ => none
 | k + 1, x0, x3 => if x0 > 0 then (if x3.length < 17592186044416 then (vernierref04_Of.l0 k (IntKind.u64.wrap (Int.tdiv x0 16777216)) (x3 ++ [wrap64 (Int.tmod x0 16777216)])) else (none)) else (some x3)
def vernierref04_Of.f (k : Nat) (a0 : Int) : Option (List Int) := vernierref04_Of.l0 k a0 ([] : List Int)
theorem vernierref04_Of.mono_l : ∀ k, (∀ y0 y1, LeO (vernierref04_Of.l0 k y0 y1) (vernierref04_Of.l0 (k + 1) y0 y1))
 | 0 => fun _ _ r h => by simp [vernierref04_Of.l0] at h
 | k + 1 => by
  have ih0 := vernierref04_Of.mono_l k
  ·intro y0 y1
   unfold vernierref04_Of.l0
   repeat' first
   | (with_reducible exact ih0 _ _)
   | (with_reducible exact LeO.refl _)
   | (with_reducible exact LeO.none _)
   | (with_reducible refine LeO.ite ?_ ?_)
   | (with_reducible refine LeO.bind ?_ (fun _ => ?_))
   | exact ih0 _ _
   | exact LeO.none _
   | refine LeO.ite ?_ ?_
   | refine LeO.bind ?_ (fun _ => ?_)
theorem vernierref04_Of.mono : ∀ a0 k, LeO (vernierref04_Of.f k a0) (vernierref04_Of.f (k + 1) a0) := by
 intro a0 k
 have ih0 := vernierref04_Of.mono_l k
 unfold vernierref04_Of.f
 repeat' first
   | (with_reducible exact ih0 _ _)
   | (with_reducible exact LeO.refl _)
   | (with_reducible exact LeO.none _)
   | (with_reducible refine LeO.ite ?_ ?_)
   | (with_reducible refine LeO.bind ?_ (fun _ => ?_))
   | exact ih0 _ _
   | exact LeO.none _
   | refine LeO.ite ?_ ?_
   | refine LeO.bind ?_ (fun _ => ?_)
set_option maxHeartbeats 8000000 in
set_option maxRecDepth 100000 in
theorem vernierref04_Of.calls (k : Nat) (a0 : Int) (r : List Int) (w : World) (h : vernierref04_Of.f k a0 = some r) :
  Calls Try.prog 26 #[.int .u64 a0] w fun e w' => ∃ v0_ : Value, e = .returned (v0_) ∧ Kd.R (Kd.int .i64) 3 w' w.heap.size (fun _ => True) v0_ r ∧ Below w.heap.size w w' := by
 have HB := am_ (Below.refl w.heap.size w)
 have H : (vernierref04_Of.l0 k a0 ([] : List Int)) = some r := h
 clear h
 have H' := am_ H
 clear H
 go_enter Try.func26, Try.ntmps26
 go_wp2
 go_loopg [0, 3] k (fun kq v0 v3 w' => ∃ (x0_1 : Int) (x3_1 : List Int), v0 = .int .u64 x0_1 ∧ Aside0 (vernierref04_Of.l0 kq x0_1 x3_1 = some r) ∧ Aside0 (kq ≤ k) ∧ Aside0 (Kd.R (Kd.int .i64) 3 w' w.heap.size (fun _ => True) v3 x3_1) ∧ Aside0 (Below w.heap.size w w'))
 case atStart => exact ⟨(a0), (([] : List Int)), (by first | rfl | (simp;done) | (simp [*];done)), H', ⟨Nat.le_refl _⟩, ⟨by first | exact Kd.R_nil _ _ _ _ _ | exact Kd.N_nil _ _ _ _ _ | exact Kd.V_nil _ _ _ _ _ | exact Kd.Q_nil _ _ _ _ _ | exact Kd.S_nil _ _ _ _ _⟩, ⟨z3_ HB.out⟩⟩
 case round =>
  clear H'
  obtain ⟨x0_1, x3_1, rfl, HA, HK1, HO_3, HB⟩ := hrel
  cases gk with
  | zero => exact absurd HA.out (by simp [vernierref04_Of.l0])
  | succ k1 =>
   have H := HA.out
   clear HA
   simp only [vernierref04_Of.l0] at H
   by_cases c2 : x0_1 > 0
   ·rw [if_pos c2] at H
    have c2b0 : decide (0 < x0_1) = true := decide_eq_true c2
    clear c2
    by_cases c3 : x3_1.length < 17592186044416
    ·rw [if_pos c3] at H
     have LMc3 := am_ c3
     clear c3
     obtain ⟨y329, hy329⟩ : ∃ y_ : List Int, y_ = (x3_1 ++ [wrap64 (Int.tmod x0_1 16777216)]) := ⟨_, rfl⟩
     replace H : (vernierref04_Of.l0 k1 (IntKind.u64.wrap (Int.tdiv x0_1 16777216)) y329) = some r := by first | (rw [hy329];with_reducible exact H) | (have H2_ := (Option.bind_some _ _).symm.trans H;rw [hy329];with_reducible exact H2_) | (have H2_ := (Option.bind_some _ _).symm.trans H;with_reducible exact H2_) | with_reducible exact H | (rw [hy329];exact H) | exact H
     have Ny329 := am_ hy329
     clear hy329
     have H' := am_ H
     clear H
     go_wp2_with (first | ((with_reducible refine gate_builtin (b := .append) (xs := #[.tmp 6,.tmp 10]) rfl ?_);at_builtin;refine Kd.R_append (Kd.int .i64) (w0 := w) w.heap.size rfl (.tmp 6) (.tmp 10) 58 3 (.int .i64 0) 8 rfl Try.underlying58 info3 rfl (by decide) (by omega) u3 x3_1 (wrap64 (Int.tmod x0_1 16777216)) [.int .i64 (wrap64 (Int.tmod x0_1 16777216))] (fun _ => True) (fun _ => False) rfl rfl ?aP (fun _ hk => hk.elim) ?aF ?aO ?aB ?aS ?aL ?_;(case aP => exact rfl);(case aB => exact (z3_ HB.out));(case aF => exact (fun _ _ => trivial));(case aO => exact (by (with_reducible repeat (first | apply Kd.R_alloc | apply Kd.R_drewN | apply Kd.R_drew));exact HO_3.out));(case aS => exact (below_size (z3_ HB.out)));(case aL => have := LMc3.out;omega);intro v330 w4 ho hb hg hat;rw [← Ny329.out] at ho;have n0_ := am_ (hb);have n1_ := am_ (ho);clear HB;clear HO_3;have HB := n0_;have HO331 := n1_;clear n0_ n1_;clear ho hb hg hat))
     go_roundg k1
     case measure => have := HK1.out;omega
     case rel => exact ⟨(IntKind.u64.wrap (Int.tdiv x0_1 16777216)), (y329), (by first | rfl | (simp;done) | (simp [*];done)), H', ⟨by have := HK1.out;omega⟩, ⟨by (with_reducible repeat (first | apply Kd.R_alloc | apply Kd.R_drewN | apply Kd.R_drew));exact HO331.out⟩, ⟨z3_ HB.out⟩⟩
    ·rw [if_neg c3] at H
     exact absurd H (by simp)
   ·rw [if_neg c2] at H
    have c2b0 : decide (0 < x0_1) = false := decide_eq_false c2
    clear c2
    obtain rfl := Option.some.inj H
    go_wp2
    go_ret
    exact ⟨_, by first | rfl | (simp [errW_none, errW_some] <;> rfl) | (simp [*, errW_none, errW_some] <;> rfl), by (with_reducible repeat (first | apply Kd.R_alloc | apply Kd.R_drewN | apply Kd.R_drew));exact HO_3.out, z3_ HB.out⟩
def vernierref04_Bits.l0 : Nat → Int → Int → Option (Int)
 | 0, _, _ => none
 | k + 1, x3, x4 => if x4 > 0 then (vernierref04_Bits.l0 k (wrap64 (x3 + 1)) (wrap64 (Int.tdiv x4 2))) else (some x3)
def vernierref04_Bits.f (k : Nat) (l0 : List Int) : Option (Int) := if (l0.length : Int) = 0 then (some 0) else (if 0 ≤ (wrap64 ((l0.length : Int) - 1)) then (if (wrap64 ((l0.length : Int) - 1)) < (l0.length : Int) then (vernierref04_Bits.l0 k (wrap64 (24 * (wrap64 ((l0.length : Int) - 1)))) (rd l0 (wrap64 ((l0.length : Int) - 1)))) else (none)) else (none))
theorem vernierref04_Bits.mono_l : ∀ k, (∀ y0 y1, LeO (vernierref04_Bits.l0 k y0 y1) (vernierref04_Bits.l0 (k + 1) y0 y1))
 | 0 => fun _ _ r h => by simp [vernierref04_Bits.l0] at h
 | k + 1 => by
  have ih0 := vernierref04_Bits.mono_l k
  ·intro y0 y1
   unfold vernierref04_Bits.l0
   repeat' first
   | (with_reducible exact ih0 _ _)
   | (with_reducible exact LeO.refl _)
   | (with_reducible exact LeO.none _)
   | (with_reducible refine LeO.ite ?_ ?_)
   | (with_reducible refine LeO.bind ?_ (fun _ => ?_))
   | exact ih0 _ _
   | exact LeO.none _
   | refine LeO.ite ?_ ?_
   | refine LeO.bind ?_ (fun _ => ?_)
theorem vernierref04_Bits.mono : ∀ a0 k, LeO (vernierref04_Bits.f k a0) (vernierref04_Bits.f (k + 1) a0) := by
 intro a0 k
 have ih0 := vernierref04_Bits.mono_l k
 unfold vernierref04_Bits.f
 repeat' first
   | (with_reducible exact ih0 _ _)
   | (with_reducible exact LeO.refl _)
   | (with_reducible exact LeO.none _)
   | (with_reducible refine LeO.ite ?_ ?_)
   | (with_reducible refine LeO.bind ?_ (fun _ => ?_))
   | exact ih0 _ _
   | exact LeO.none _
   | refine LeO.ite ?_ ?_
   | refine LeO.bind ?_ (fun _ => ?_)
set_option maxHeartbeats 8000000 in
set_option maxRecDepth 100000 in
theorem vernierref04_Bits.calls (k : Nat) (A0 : Option Addr) (c0 : Nat) (l0 : List Int) (r : Int) (w : World) (hr0 : Kd.C (Kd.int .i64) w A0 l0.length l0) (hc0 : l0.length ≤ c0) (h : vernierref04_Bits.f k l0 = some r) :
  Calls Try.prog 41 #[.slice A0 l0.length c0] w fun e w' => e = .returned (.int .i64 r) ∧ Drawn0 w w' := by
 have HR0 := am_ hr0
 have HC0 := am_ hc0
 clear hr0 hc0
 have H : (if (l0.length : Int) = 0 then (some 0) else (if 0 ≤ (wrap64 ((l0.length : Int) - 1)) then (if (wrap64 ((l0.length : Int) - 1)) < (l0.length : Int) then (vernierref04_Bits.l0 k (wrap64 (24 * (wrap64 ((l0.length : Int) - 1)))) (rd l0 (wrap64 ((l0.length : Int) - 1)))) else (none)) else (none))) = some r := h
 clear h
 by_cases c2 : (l0.length : Int) = 0
 ·rw [if_pos c2] at H
  have c2b0 : ((l0.length : Int) == 0) = true := beq_iff_eq.mpr c2
  have c2b1 : ((l0.length : Int) != 0) = false := bne_eq_false_iff_eq.mpr c2
  clear c2
  obtain rfl := Option.some.inj H
  go_enter Try.func41, Try.ntmps41
  go_wp2
  go_ret
  exact ⟨by first | rfl | (simp;done) | (simp [*];done), by repeat (first | exact Drawn0.refl _ | apply Drawn0.step)⟩
 ·rw [if_neg c2] at H
  have c2b0 : ((l0.length : Int) == 0) = false := beq_eq_false_iff_ne.mpr c2
  have c2b1 : ((l0.length : Int) != 0) = true := bne_iff_ne.mpr c2
  have c2b2 : ¬ (l0 = []) := fun h_ => c2 (by rw [h_];rfl)
  obtain ⟨ji3, hji3⟩ : ∃ j_ : Int, (wrap64 ((l0.length : Int) - 1)) = j_ := ⟨_, rfl⟩
  replace H : (if 0 ≤ (ji3) then (if (ji3) < (l0.length : Int) then (vernierref04_Bits.l0 k (wrap64 (24 * (ji3))) (rd l0 (ji3))) else (none)) else (none)) = some r := by first | (rw [hji3] at H;exact H) | (simp only [hji3] at H ⊢;exact H)
  have hji3w : (IntKind.i64.wrap ((l0.length : Int) - 1)) = ji3 := (i64_w _).trans hji3
  by_cases c4 : 0 ≤ (ji3)
  ·rw [if_pos c4] at H
   have c4b0 : decide (0 ≤ (ji3)) = true := decide_eq_true c4
   clear c4
   by_cases c5 : (ji3) < (l0.length : Int)
   ·rw [if_pos c5] at H
    have c5b0 : decide ((ji3) < (l0.length : Int)) = true := decide_eq_true c5
    clear c5
    have H' := am_ H
    clear H
    have p332 : 0 ≤ ((ji3) : Int) := of_decide_eq_true (by first | (with_reducible assumption) | assumption)
    have q332 : (ji3) < (l0.length : Int) := of_decide_eq_true (by first | (with_reducible assumption) | assumption)
    obtain ⟨ad332, e332, hx332_0⟩ := Kd.at_int HR0.out (ji3) p332 q332
    cases e332
    replace p332 := eq_true p332
    replace q332 := eq_true q332
    go_enter Try.func41, Try.ntmps41
    go_wp2
    go_loopg [3, 4] k (fun kq v3 v4 w' => ∃ (x3_1 : Int) (x4_1 : Int), v3 = .int .i64 x3_1 ∧ v4 = .int .i64 x4_1 ∧ Aside0 (vernierref04_Bits.l0 kq x3_1 x4_1 = some r) ∧ Aside0 (kq ≤ k) ∧ Drawn0 w w')
    case atStart => exact ⟨(wrap64 (24 * (ji3))), (rd l0 (ji3)), (by first | rfl | (simp;done) | (simp only [← hji3] <;> (first | rfl | simp)) | (simp [*];done)), (by first | rfl | (simp;done) | (simp only [← hji3] <;> (first | rfl | simp)) | (simp [*];done)), H', ⟨Nat.le_refl _⟩, by repeat (first | exact Drawn0.refl _ | apply Drawn0.step)⟩
    case round =>
     clear H'
     try clear c2
     try clear c2b0
     try clear c2b1
     try clear c2b2
     try clear c4
     try clear c4b0
     try clear c5
     try clear c5b0
     try clear hx332_0
     try clear p332
     try clear q332
     obtain ⟨x3_1, x4_1, rfl, rfl, HA, HK1, ⟨m1, rfl⟩⟩ := hrel
     cases gk with
     | zero => exact absurd HA.out (by simp [vernierref04_Bits.l0])
     | succ k1 =>
      have H := HA.out
      clear HA
      simp only [vernierref04_Bits.l0] at H
      by_cases c6 : x4_1 > 0
      ·rw [if_pos c6] at H
       have c6b0 : decide (0 < x4_1) = true := decide_eq_true c6
       clear c6
       have H' := am_ H
       clear H
       go_wp2
       go_roundg k1
       case measure => have := HK1.out;omega
       case rel => exact ⟨(wrap64 (x3_1 + 1)), (wrap64 (Int.tdiv x4_1 2)), (by first | rfl | (simp;done) | (simp [*];done)), (by first | rfl | (simp;done) | (simp [*];done)), H', ⟨by have := HK1.out;omega⟩, by repeat (first | exact Drawn0.refl _ | apply Drawn0.step)⟩
      ·rw [if_neg c6] at H
       have c6b0 : decide (0 < x4_1) = false := decide_eq_false c6
       clear c6
       obtain rfl := Option.some.inj H
       go_wp2
       go_ret
       exact ⟨by first | rfl | (simp;done) | (simp only [← hji3] <;> (first | rfl | simp)) | (simp [*];done), by repeat (first | exact Drawn0.refl _ | apply Drawn0.step)⟩
   ·rw [if_neg c5] at H
    exact absurd H (by simp)
  ·rw [if_neg c4] at H
   exact absurd H (by simp)
def vernierref07_Held.f (a0 : Int) : Option (Int) := if a0 < (-1099511627776) then (some (-1099511627776)) else (if a0 > 1099511627776 then (some 1099511627776) else (some a0))
set_option maxHeartbeats 8000000 in
set_option maxRecDepth 100000 in
theorem vernierref07_Held.calls (a0 : Int) (r : Int) (w : World) (h : vernierref07_Held.f a0 = some r) :
  Calls Try.prog 42 #[.int .i64 a0] w fun e w' => e = .returned (.int .i64 r) ∧ Drawn0 w w' := by
 have H : (if a0 < (-1099511627776) then (some (-1099511627776)) else (if a0 > 1099511627776 then (some 1099511627776) else (some a0))) = some r := h
 clear h
 by_cases c2 : a0 < (-1099511627776)
 ·rw [if_pos c2] at H
  have c2b0 : decide (a0 < (-1099511627776)) = true := decide_eq_true c2
  clear c2
  obtain rfl := Option.some.inj H
  go_enter Try.func42, Try.ntmps42
  go_wp2
  go_ret
  exact ⟨by first | rfl | (simp;done) | (simp [*];done), by repeat (first | exact Drawn0.refl _ | apply Drawn0.step)⟩
 ·rw [if_neg c2] at H
  have c2b0 : decide (a0 < (-1099511627776)) = false := decide_eq_false c2
  clear c2
  by_cases c3 : a0 > 1099511627776
  ·rw [if_pos c3] at H
   have c3b0 : decide (1099511627776 < a0) = true := decide_eq_true c3
   clear c3
   obtain rfl := Option.some.inj H
   go_enter Try.func42, Try.ntmps42
   go_wp2
   go_ret
   exact ⟨by first | rfl | (simp;done) | (simp [*];done), by repeat (first | exact Drawn0.refl _ | apply Drawn0.step)⟩
  ·rw [if_neg c3] at H
   have c3b0 : decide (1099511627776 < a0) = false := decide_eq_false c3
   clear c3
   obtain rfl := Option.some.inj H
   go_enter Try.func42, Try.ntmps42
   go_wp2
   go_ret
   exact ⟨by first | rfl | (simp;done) | (simp [*];done), by repeat (first | exact Drawn0.refl _ | apply Drawn0.step)⟩
def vernierref04_digit.f (l0 : List Int) (a1 : Int) : Option (Int) := if a1 < (l0.length : Int) then (if 0 ≤ a1 then (some (rd l0 a1)) else (none)) else (some 0)
set_option maxHeartbeats 8000000 in
set_option maxRecDepth 100000 in
theorem vernierref04_digit.calls (A0 : Option Addr) (c0 : Nat) (l0 : List Int) (a1 : Int) (r : Int) (w : World) (hr0 : Kd.C (Kd.int .i64) w A0 l0.length l0) (hc0 : l0.length ≤ c0) (h : vernierref04_digit.f l0 a1 = some r) :
  Calls Try.prog 63 #[.slice A0 l0.length c0,.int .i64 a1] w fun e w' => e = .returned (.int .i64 r) ∧ Drawn0 w w' := by
 have HR0 := am_ hr0
 have HC0 := am_ hc0
 clear hr0 hc0
 have H : (if a1 < (l0.length : Int) then (if 0 ≤ a1 then (some (rd l0 a1)) else (none)) else (some 0)) = some r := h
 clear h
 by_cases c3 : a1 < (l0.length : Int)
 ·rw [if_pos c3] at H
  have c3b0 : decide (a1 < (l0.length : Int)) = true := decide_eq_true c3
  clear c3
  by_cases c4 : 0 ≤ a1
  ·rw [if_pos c4] at H
   have c4b0 : decide (0 ≤ a1) = true := decide_eq_true c4
   clear c4
   obtain rfl := Option.some.inj H
   have p333 : 0 ≤ (a1 : Int) := of_decide_eq_true (by first | (with_reducible assumption) | assumption)
   have q333 : a1 < (l0.length : Int) := of_decide_eq_true (by first | (with_reducible assumption) | assumption)
   obtain ⟨ad333, e333, hx333_0⟩ := Kd.at_int HR0.out a1 p333 q333
   cases e333
   replace p333 := eq_true p333
   replace q333 := eq_true q333
   go_enter Try.func63, Try.ntmps63
   go_wp2
   go_ret
   exact ⟨by first | rfl | (simp;done) | (simp [*];done), by repeat (first | exact Drawn0.refl _ | apply Drawn0.step)⟩
  ·rw [if_neg c4] at H
   exact absurd H (by simp)
 ·rw [if_neg c3] at H
  have c3b0 : decide (a1 < (l0.length : Int)) = false := decide_eq_false c3
  clear c3
  obtain rfl := Option.some.inj H
  go_enter Try.func63, Try.ntmps63
  go_wp2
  go_ret
  exact ⟨by first | rfl | (simp;done) | (simp [*];done), by repeat (first | exact Drawn0.refl _ | apply Drawn0.step)⟩
def vernierref04_times.l0 : Nat → List Int → Int → List Int → Int → Int → Option (List Int)
 | 0, _, _, _, _, _ => none
 | k + 1, x0, x1, x5, x6, x7 => if x7 < (x0.length : Int) then (if x1 > 0 then ((vernierref04_digit.f x0 x7).bind fun t334 => (if x5.length < 17592186044416 then (vernierref04_times.l0 k x0 x1 (x5 ++ [Int.tmod (wrap64 ((wrap64 (t334 * x1)) + x6)) 16777216]) (wrap64 (Int.tdiv (wrap64 ((wrap64 (t334 * x1)) + x6)) 16777216)) (wrap64 (x7 + 1))) else (none))) else (if x6 > 0 then ((vernierref04_digit.f x0 x7).bind fun t338 => (if x5.length < 17592186044416 then (vernierref04_times.l0 k x0 x1 (x5 ++ [Int.tmod (wrap64 ((wrap64 (t338 * x1)) + x6)) 16777216]) (wrap64 (Int.tdiv (wrap64 ((wrap64 (t338 * x1)) + x6)) 16777216)) (wrap64 (x7 + 1))) else (none))) else (some x5))) else (if x6 > 0 then ((vernierref04_digit.f x0 x7).bind fun t342 => (if x5.length < 17592186044416 then (vernierref04_times.l0 k x0 x1 (x5 ++ [Int.tmod (wrap64 ((wrap64 (t342 * x1)) + x6)) 16777216]) (wrap64 (Int.tdiv (wrap64 ((wrap64 (t342 * x1)) + x6)) 16777216)) (wrap64 (x7 + 1))) else (none))) else (some x5))
def vernierref04_times.f (k : Nat) (l0 : List Int) (a1 : Int) : Option (List Int) := vernierref04_times.l0 k l0 a1 ([] : List Int) 0 0
theorem vernierref04_times.mono_l : ∀ k, (∀ y0 y1 y2 y3 y4, LeO (vernierref04_times.l0 k y0 y1 y2 y3 y4) (vernierref04_times.l0 (k + 1) y0 y1 y2 y3 y4))
 | 0 => fun _ _ _ _ _ r h => by simp [vernierref04_times.l0] at h
 | k + 1 => by
  have ih0 := vernierref04_times.mono_l k
  ·intro y0 y1 y2 y3 y4
   unfold vernierref04_times.l0
   repeat' first
   | (with_reducible exact ih0 _ _ _ _ _)
   | (with_reducible exact LeO.refl _)
   | (with_reducible exact LeO.none _)
   | (with_reducible refine LeO.ite ?_ ?_)
   | (with_reducible refine LeO.bind ?_ (fun _ => ?_))
   | exact ih0 _ _ _ _ _
   | exact LeO.none _
   | refine LeO.ite ?_ ?_
   | refine LeO.bind ?_ (fun _ => ?_)
theorem vernierref04_times.mono : ∀ a0 a1 k, LeO (vernierref04_times.f k a0 a1) (vernierref04_times.f (k + 1) a0 a1) := by
 intro a0 a1 k
 have ih0 := vernierref04_times.mono_l k
 unfold vernierref04_times.f
 repeat' first
   | (with_reducible exact ih0 _ _ _ _ _)
   | (with_reducible exact LeO.refl _)
   | (with_reducible exact LeO.none _)
   | (with_reducible refine LeO.ite ?_ ?_)
   | (with_reducible refine LeO.bind ?_ (fun _ => ?_))
   | exact ih0 _ _ _ _ _
   | exact LeO.none _
   | refine LeO.ite ?_ ?_
   | refine LeO.bind ?_ (fun _ => ?_)
set_option maxHeartbeats 8000000 in
set_option maxRecDepth 100000 in
theorem vernierref04_times.calls (k : Nat) (A0 : Option Addr) (c0 : Nat) (l0 : List Int) (a1 : Int) (r : List Int) (w : World) (hr0 : Kd.C (Kd.int .i64) w A0 l0.length l0) (hc0 : l0.length ≤ c0) (h : vernierref04_times.f k l0 a1 = some r) :
  Calls Try.prog 61 #[.slice A0 l0.length c0,.int .i64 a1] w fun e w' => ∃ v0_ : Value, e = .returned (v0_) ∧ Kd.R (Kd.int .i64) 3 w' w.heap.size (fun _ => True) v0_ r ∧ Below w.heap.size w w' := by
 have HR0 := am_ hr0
 have HC0 := am_ hc0
 clear hr0 hc0
 have HB := am_ (Below.refl w.heap.size w)
 have H : (vernierref04_times.l0 k l0 a1 ([] : List Int) 0 0) = some r := h
 clear h
 have H' := am_ H
 clear H
 go_enter Try.func61, Try.ntmps61
 go_wp2
 go_loopg [5, 6, 7] k (fun kq v5 v6 v7 w' => ∃ (x5_1 : List Int) (x6_1 : Int) (x7_1 : Int), v6 = .int .i64 x6_1 ∧ v7 = .int .i64 x7_1 ∧ Aside0 (vernierref04_times.l0 kq l0 a1 x5_1 x6_1 x7_1 = some r) ∧ Aside0 (kq ≤ k) ∧ Aside0 (Kd.R (Kd.int .i64) 3 w' w.heap.size (fun _ => True) v5 x5_1) ∧ Aside0 (Below w.heap.size w w'))
 case atStart => exact ⟨(([] : List Int)), (0), (0), (by first | rfl | (simp;done) | (simp [*];done)), (by first | rfl | (simp;done) | (simp [*];done)), H', ⟨Nat.le_refl _⟩, ⟨by first | exact Kd.R_nil _ _ _ _ _ | exact Kd.N_nil _ _ _ _ _ | exact Kd.V_nil _ _ _ _ _ | exact Kd.Q_nil _ _ _ _ _ | exact Kd.S_nil _ _ _ _ _⟩, ⟨z3_ HB.out⟩⟩
 case round =>
  clear H'
  obtain ⟨x5_1, x6_1, x7_1, rfl, rfl, HA, HK1, HO_5, HB⟩ := hrel
  cases gk with
  | zero => exact absurd HA.out (by simp [vernierref04_times.l0])
  | succ k1 =>
   have H := HA.out
   clear HA
   simp only [vernierref04_times.l0] at H
   by_cases c3 : x7_1 < (l0.length : Int)
   ·rw [if_pos c3] at H
    have c3b0 : decide (x7_1 < (l0.length : Int)) = true := decide_eq_true c3
    clear c3
    by_cases c4 : a1 > 0
    ·rw [if_pos c4] at H
     have c4b0 : decide (0 < a1) = true := decide_eq_true c4
     clear c4
     replace H := Option.bind_eq_some_iff.mp H
     obtain ⟨t334, A50, H⟩ := H
     replace H : (if x5_1.length < 17592186044416 then (vernierref04_times.l0 k1 l0 a1 (x5_1 ++ [Int.tmod (wrap64 ((wrap64 (t334 * a1)) + x6_1)) 16777216]) (wrap64 (Int.tdiv (wrap64 ((wrap64 (t334 * a1)) + x6_1)) 16777216)) (wrap64 (x7_1 + 1))) else (none)) = some r := H
     have A5 := am_ A50
     clear A50
     by_cases c6 : x5_1.length < 17592186044416
     ·rw [if_pos c6] at H
      have LMc6 := am_ c6
      clear c6
      obtain ⟨y335, hy335⟩ : ∃ y_ : List Int, y_ = (x5_1 ++ [Int.tmod (wrap64 ((wrap64 (t334 * a1)) + x6_1)) 16777216]) := ⟨_, rfl⟩
      replace H : (vernierref04_times.l0 k1 l0 a1 y335 (wrap64 (Int.tdiv (wrap64 ((wrap64 (t334 * a1)) + x6_1)) 16777216)) (wrap64 (x7_1 + 1))) = some r := by first | (rw [hy335];with_reducible exact H) | (have H2_ := (Option.bind_some _ _).symm.trans H;rw [hy335];with_reducible exact H2_) | (have H2_ := (Option.bind_some _ _).symm.trans H;with_reducible exact H2_) | with_reducible exact H | (rw [hy335];exact H) | exact H
      have Ny335 := am_ hy335
      clear hy335
      have H' := am_ H
      clear H
      go_wp2_with (first | ((with_reducible refine gate_callee (f := 63) rfl ?_);refine goesL_ (some 25) rfl rfl Try.func63 (by kernel_rfl) rfl #[.slice A0 l0.length c0,.int .i64 x7_1] rfl z5_ ?_;(with_reducible refine (vernierref04_digit.calls _ _ l0 x7_1 t334 _ ?side1 ?side2 A5.out).mono ?_);(case side1 => repeat (first | exact (Kd.C_below HR0.out HB.out) | (with_reducible refine Kd.C_alloc ?_ _) | (with_reducible refine Kd.C_drewN ?_ _) | (with_reducible refine Kd.C_drew ?_)));(case side2 => exact HC0.out);rintro e w' ⟨rfl, ⟨nd, rfl⟩⟩;refine ⟨_, rfl, ?_⟩) | ((with_reducible refine gate_builtin (b := .append) (xs := #[.tmp 30,.tmp 33]) rfl ?_);at_builtin;refine Kd.R_append (Kd.int .i64) (w0 := w) w.heap.size rfl (.tmp 30) (.tmp 33) 58 3 (.int .i64 0) 8 rfl Try.underlying58 info3 rfl (by decide) (by omega) u5 x5_1 (Int.tmod (wrap64 ((wrap64 (t334 * a1)) + x6_1)) 16777216) [.int .i64 (Int.tmod (wrap64 ((wrap64 (t334 * a1)) + x6_1)) 16777216)] (fun _ => True) (fun _ => False) rfl rfl ?aP (fun _ hk => hk.elim) ?aF ?aO ?aB ?aS ?aL ?_;(case aP => exact rfl);(case aB => exact (z3_ HB.out));(case aF => exact (fun _ _ => trivial));(case aO => exact (by (with_reducible repeat (first | apply Kd.R_alloc | apply Kd.R_drewN | apply Kd.R_drew));exact HO_5.out));(case aS => exact (below_size (z3_ HB.out)));(case aL => have := LMc6.out;omega);intro v336 w7 ho hb hg hat;rw [← Ny335.out] at ho;have n0_ := am_ (hb);have n1_ := am_ (ho);clear HB;clear HO_5;have HB := n0_;have HO337 := n1_;clear n0_ n1_;clear ho hb hg hat))
      go_roundg k1
      case measure => have := HK1.out;omega
      case rel => exact ⟨(y335), (wrap64 (Int.tdiv (wrap64 ((wrap64 (t334 * a1)) + x6_1)) 16777216)), (wrap64 (x7_1 + 1)), (by first | rfl | (simp;done) | (simp [*];done)), (by first | rfl | (simp;done) | (simp [*];done)), H', ⟨by have := HK1.out;omega⟩, ⟨by (with_reducible repeat (first | apply Kd.R_alloc | apply Kd.R_drewN | apply Kd.R_drew));exact HO337.out⟩, ⟨z3_ HB.out⟩⟩
     ·rw [if_neg c6] at H
      exact absurd H (by simp)
    ·rw [if_neg c4] at H
     have c4b0 : decide (0 < a1) = false := decide_eq_false c4
     clear c4
     by_cases c8 : x6_1 > 0
     ·rw [if_pos c8] at H
      have c8b0 : decide (0 < x6_1) = true := decide_eq_true c8
      clear c8
      replace H := Option.bind_eq_some_iff.mp H
      obtain ⟨t338, A90, H⟩ := H
      replace H : (if x5_1.length < 17592186044416 then (vernierref04_times.l0 k1 l0 a1 (x5_1 ++ [Int.tmod (wrap64 ((wrap64 (t338 * a1)) + x6_1)) 16777216]) (wrap64 (Int.tdiv (wrap64 ((wrap64 (t338 * a1)) + x6_1)) 16777216)) (wrap64 (x7_1 + 1))) else (none)) = some r := H
      have A9 := am_ A90
      clear A90
      by_cases c10 : x5_1.length < 17592186044416
      ·rw [if_pos c10] at H
       have LMc10 := am_ c10
       clear c10
       obtain ⟨y339, hy339⟩ : ∃ y_ : List Int, y_ = (x5_1 ++ [Int.tmod (wrap64 ((wrap64 (t338 * a1)) + x6_1)) 16777216]) := ⟨_, rfl⟩
       replace H : (vernierref04_times.l0 k1 l0 a1 y339 (wrap64 (Int.tdiv (wrap64 ((wrap64 (t338 * a1)) + x6_1)) 16777216)) (wrap64 (x7_1 + 1))) = some r := by first | (rw [hy339];with_reducible exact H) | (have H2_ := (Option.bind_some _ _).symm.trans H;rw [hy339];with_reducible exact H2_) | (have H2_ := (Option.bind_some _ _).symm.trans H;with_reducible exact H2_) | with_reducible exact H | (rw [hy339];exact H) | exact H
       have Ny339 := am_ hy339
       clear hy339
       have H' := am_ H
       clear H
       go_wp2_with (first | ((with_reducible refine gate_callee (f := 63) rfl ?_);refine goesL_ (some 25) rfl rfl Try.func63 (by kernel_rfl) rfl #[.slice A0 l0.length c0,.int .i64 x7_1] rfl z5_ ?_;(with_reducible refine (vernierref04_digit.calls _ _ l0 x7_1 t338 _ ?side1 ?side2 A9.out).mono ?_);(case side1 => repeat (first | exact (Kd.C_below HR0.out HB.out) | (with_reducible refine Kd.C_alloc ?_ _) | (with_reducible refine Kd.C_drewN ?_ _) | (with_reducible refine Kd.C_drew ?_)));(case side2 => exact HC0.out);rintro e w' ⟨rfl, ⟨nd, rfl⟩⟩;refine ⟨_, rfl, ?_⟩) | ((with_reducible refine gate_builtin (b := .append) (xs := #[.tmp 30,.tmp 33]) rfl ?_);at_builtin;refine Kd.R_append (Kd.int .i64) (w0 := w) w.heap.size rfl (.tmp 30) (.tmp 33) 58 3 (.int .i64 0) 8 rfl Try.underlying58 info3 rfl (by decide) (by omega) u5 x5_1 (Int.tmod (wrap64 ((wrap64 (t338 * a1)) + x6_1)) 16777216) [.int .i64 (Int.tmod (wrap64 ((wrap64 (t338 * a1)) + x6_1)) 16777216)] (fun _ => True) (fun _ => False) rfl rfl ?aP (fun _ hk => hk.elim) ?aF ?aO ?aB ?aS ?aL ?_;(case aP => exact rfl);(case aB => exact (z3_ HB.out));(case aF => exact (fun _ _ => trivial));(case aO => exact (by (with_reducible repeat (first | apply Kd.R_alloc | apply Kd.R_drewN | apply Kd.R_drew));exact HO_5.out));(case aS => exact (below_size (z3_ HB.out)));(case aL => have := LMc10.out;omega);intro v340 w11 ho hb hg hat;rw [← Ny339.out] at ho;have n0_ := am_ (hb);have n1_ := am_ (ho);clear HB;clear HO_5;have HB := n0_;have HO341 := n1_;clear n0_ n1_;clear ho hb hg hat))
       go_roundg k1
       case measure => have := HK1.out;omega
       case rel => exact ⟨(y339), (wrap64 (Int.tdiv (wrap64 ((wrap64 (t338 * a1)) + x6_1)) 16777216)), (wrap64 (x7_1 + 1)), (by first | rfl | (simp;done) | (simp [*];done)), (by first | rfl | (simp;done) | (simp [*];done)), H', ⟨by have := HK1.out;omega⟩, ⟨by (with_reducible repeat (first | apply Kd.R_alloc | apply Kd.R_drewN | apply Kd.R_drew));exact HO341.out⟩, ⟨z3_ HB.out⟩⟩
      ·rw [if_neg c10] at H
       exact absurd H (by simp)
     ·rw [if_neg c8] at H
      have c8b0 : decide (0 < x6_1) = false := decide_eq_false c8
      clear c8
      obtain rfl := Option.some.inj H
      go_wp2
      go_ret
      exact ⟨_, by first | rfl | (simp [errW_none, errW_some] <;> rfl) | (simp [*, errW_none, errW_some] <;> rfl), by (with_reducible repeat (first | apply Kd.R_alloc | apply Kd.R_drewN | apply Kd.R_drew));exact HO_5.out, z3_ HB.out⟩
   ·rw [if_neg c3] at H
    have c3b0 : decide (x7_1 < (l0.length : Int)) = false := decide_eq_false c3
    clear c3
    by_cases c12 : x6_1 > 0
    ·rw [if_pos c12] at H
     have c12b0 : decide (0 < x6_1) = true := decide_eq_true c12
     clear c12
     replace H := Option.bind_eq_some_iff.mp H
     obtain ⟨t342, A130, H⟩ := H
     replace H : (if x5_1.length < 17592186044416 then (vernierref04_times.l0 k1 l0 a1 (x5_1 ++ [Int.tmod (wrap64 ((wrap64 (t342 * a1)) + x6_1)) 16777216]) (wrap64 (Int.tdiv (wrap64 ((wrap64 (t342 * a1)) + x6_1)) 16777216)) (wrap64 (x7_1 + 1))) else (none)) = some r := H
     have A13 := am_ A130
     clear A130
     by_cases c14 : x5_1.length < 17592186044416
     ·rw [if_pos c14] at H
      have LMc14 := am_ c14
      clear c14
      obtain ⟨y343, hy343⟩ : ∃ y_ : List Int, y_ = (x5_1 ++ [Int.tmod (wrap64 ((wrap64 (t342 * a1)) + x6_1)) 16777216]) := ⟨_, rfl⟩
      replace H : (vernierref04_times.l0 k1 l0 a1 y343 (wrap64 (Int.tdiv (wrap64 ((wrap64 (t342 * a1)) + x6_1)) 16777216)) (wrap64 (x7_1 + 1))) = some r := by first | (rw [hy343];with_reducible exact H) | (have H2_ := (Option.bind_some _ _).symm.trans H;rw [hy343];with_reducible exact H2_) | (have H2_ := (Option.bind_some _ _).symm.trans H;with_reducible exact H2_) | with_reducible exact H | (rw [hy343];exact H) | exact H
      have Ny343 := am_ hy343
      clear hy343
      have H' := am_ H
      clear H
      go_wp2_with (first | ((with_reducible refine gate_callee (f := 63) rfl ?_);refine goesL_ (some 25) rfl rfl Try.func63 (by kernel_rfl) rfl #[.slice A0 l0.length c0,.int .i64 x7_1] rfl z5_ ?_;(with_reducible refine (vernierref04_digit.calls _ _ l0 x7_1 t342 _ ?side1 ?side2 A13.out).mono ?_);(case side1 => repeat (first | exact (Kd.C_below HR0.out HB.out) | (with_reducible refine Kd.C_alloc ?_ _) | (with_reducible refine Kd.C_drewN ?_ _) | (with_reducible refine Kd.C_drew ?_)));(case side2 => exact HC0.out);rintro e w' ⟨rfl, ⟨nd, rfl⟩⟩;refine ⟨_, rfl, ?_⟩) | ((with_reducible refine gate_builtin (b := .append) (xs := #[.tmp 30,.tmp 33]) rfl ?_);at_builtin;refine Kd.R_append (Kd.int .i64) (w0 := w) w.heap.size rfl (.tmp 30) (.tmp 33) 58 3 (.int .i64 0) 8 rfl Try.underlying58 info3 rfl (by decide) (by omega) u5 x5_1 (Int.tmod (wrap64 ((wrap64 (t342 * a1)) + x6_1)) 16777216) [.int .i64 (Int.tmod (wrap64 ((wrap64 (t342 * a1)) + x6_1)) 16777216)] (fun _ => True) (fun _ => False) rfl rfl ?aP (fun _ hk => hk.elim) ?aF ?aO ?aB ?aS ?aL ?_;(case aP => exact rfl);(case aB => exact (z3_ HB.out));(case aF => exact (fun _ _ => trivial));(case aO => exact (by (with_reducible repeat (first | apply Kd.R_alloc | apply Kd.R_drewN | apply Kd.R_drew));exact HO_5.out));(case aS => exact (below_size (z3_ HB.out)));(case aL => have := LMc14.out;omega);intro v344 w15 ho hb hg hat;rw [← Ny343.out] at ho;have n0_ := am_ (hb);have n1_ := am_ (ho);clear HB;clear HO_5;have HB := n0_;have HO345 := n1_;clear n0_ n1_;clear ho hb hg hat))
      go_roundg k1
      case measure => have := HK1.out;omega
      case rel => exact ⟨(y343), (wrap64 (Int.tdiv (wrap64 ((wrap64 (t342 * a1)) + x6_1)) 16777216)), (wrap64 (x7_1 + 1)), (by first | rfl | (simp;done) | (simp [*];done)), (by first | rfl | (simp;done) | (simp [*];done)), H', ⟨by have := HK1.out;omega⟩, ⟨by (with_reducible repeat (first | apply Kd.R_alloc | apply Kd.R_drewN | apply Kd.R_drew));exact HO345.out⟩, ⟨z3_ HB.out⟩⟩
     ·rw [if_neg c14] at H
      exact absurd H (by simp)
    ·rw [if_neg c12] at H
     have c12b0 : decide (0 < x6_1) = false := decide_eq_false c12
     clear c12
     obtain rfl := Option.some.inj H
     go_wp2
     go_ret
     exact ⟨_, by first | rfl | (simp [errW_none, errW_some] <;> rfl) | (simp [*, errW_none, errW_some] <;> rfl), by (with_reducible repeat (first | apply Kd.R_alloc | apply Kd.R_drewN | apply Kd.R_drew));exact HO_5.out, z3_ HB.out⟩
def vernierref04_two.l0 : Nat → Int → Int → Int → Option (Int)
 | 0, _, _, _ => none
 | k + 1, x0, x3, x4 => if x4 < x0 then (vernierref04_two.l0 k x0 (wrap64 (2 * x3)) (wrap64 (x4 + 1))) else (some x3)
def vernierref04_two.f (k : Nat) (a0 : Int) : Option (Int) := vernierref04_two.l0 k a0 1 0
theorem vernierref04_two.mono_l : ∀ k, (∀ y0 y1 y2, LeO (vernierref04_two.l0 k y0 y1 y2) (vernierref04_two.l0 (k + 1) y0 y1 y2))
 | 0 => fun _ _ _ r h => by simp [vernierref04_two.l0] at h
 | k + 1 => by
  have ih0 := vernierref04_two.mono_l k
  ·intro y0 y1 y2
   unfold vernierref04_two.l0
   repeat' first
   | (with_reducible exact ih0 _ _ _)
   | (with_reducible exact LeO.refl _)
   | (with_reducible exact LeO.none _)
   | (with_reducible refine LeO.ite ?_ ?_)
   | (with_reducible refine LeO.bind ?_ (fun _ => ?_))
   | exact ih0 _ _ _
   | exact LeO.none _
   | refine LeO.ite ?_ ?_
   | refine LeO.bind ?_ (fun _ => ?_)
theorem vernierref04_two.mono : ∀ a0 k, LeO (vernierref04_two.f k a0) (vernierref04_two.f (k + 1) a0) := by
 intro a0 k
 have ih0 := vernierref04_two.mono_l k
 unfold vernierref04_two.f
 repeat' first
   | (with_reducible exact ih0 _ _ _)
   | (with_reducible exact LeO.refl _)
   | (with_reducible exact LeO.none _)
   | (with_reducible refine LeO.ite ?_ ?_)
   | (with_reducible refine LeO.bind ?_ (fun _ => ?_))
   | exact ih0 _ _ _
   | exact LeO.none _
   | refine LeO.ite ?_ ?_
   | refine LeO.bind ?_ (fun _ => ?_)
set_option maxHeartbeats 8000000 in
set_option maxRecDepth 100000 in
theorem vernierref04_two.calls (k : Nat) (a0 : Int) (r : Int) (w : World) (h : vernierref04_two.f k a0 = some r) :
  Calls Try.prog 62 #[.int .i64 a0] w fun e w' => e = .returned (.int .i64 r) ∧ Drawn0 w w' := by
 have H : (vernierref04_two.l0 k a0 1 0) = some r := h
 clear h
 have H' := am_ H
 clear H
 go_enter Try.func62, Try.ntmps62
 go_wp2
 go_loopg [3, 4] k (fun kq v3 v4 w' => ∃ (x3_1 : Int) (x4_1 : Int), v3 = .int .i64 x3_1 ∧ v4 = .int .i64 x4_1 ∧ Aside0 (vernierref04_two.l0 kq a0 x3_1 x4_1 = some r) ∧ Aside0 (kq ≤ k) ∧ Drawn0 w w')
 case atStart => exact ⟨(1), (0), (by first | rfl | (simp;done) | (simp [*];done)), (by first | rfl | (simp;done) | (simp [*];done)), H', ⟨Nat.le_refl _⟩, by repeat (first | exact Drawn0.refl _ | apply Drawn0.step)⟩
 case round =>
  clear H'
  obtain ⟨x3_1, x4_1, rfl, rfl, HA, HK1, ⟨m1, rfl⟩⟩ := hrel
  cases gk with
  | zero => exact absurd HA.out (by simp [vernierref04_two.l0])
  | succ k1 =>
   have H := HA.out
   clear HA
   simp only [vernierref04_two.l0] at H
   by_cases c2 : x4_1 < a0
   ·rw [if_pos c2] at H
    have c2b0 : decide (x4_1 < a0) = true := decide_eq_true c2
    clear c2
    have H' := am_ H
    clear H
    go_wp2
    go_roundg k1
    case measure => have := HK1.out;omega
    case rel => exact ⟨(wrap64 (2 * x3_1)), (wrap64 (x4_1 + 1)), (by first | rfl | (simp;done) | (simp [*];done)), (by first | rfl | (simp;done) | (simp [*];done)), H', ⟨by have := HK1.out;omega⟩, by repeat (first | exact Drawn0.refl _ | apply Drawn0.step)⟩
   ·rw [if_neg c2] at H
    have c2b0 : decide (x4_1 < a0) = false := decide_eq_false c2
    clear c2
    obtain rfl := Option.some.inj H
    go_wp2
    go_ret
    exact ⟨by first | rfl | (simp;done) | (simp [*];done), by repeat (first | exact Drawn0.refl _ | apply Drawn0.step)⟩
def vernierref04_Shl.f (k : Nat) (l0 : List Int) (a1 : Int) : Option (List Int) := if (l0.length : Int) = 0 then (some ([] : List Int)) else (if 0 ≤ (wrap64 (Int.tdiv a1 24)) then (if (wrap64 (Int.tdiv a1 24) : Int).toNat ≤ 35184372088832 then ((some (List.replicate (wrap64 (Int.tdiv a1 24) : Int).toNat 0 : List Int)).bind fun y346 => ((vernierref04_two.f k (Int.tmod a1 24)).bind fun t349 => ((vernierref04_times.f k l0 t349).bind fun t350 => (if y346.length + t350.length < 17592186044416 then (some (y346 ++ t350)) else (none))))) else (none)) else (none))
theorem vernierref04_Shl.mono : ∀ a0 a1 k, LeO (vernierref04_Shl.f k a0 a1) (vernierref04_Shl.f (k + 1) a0 a1) := by
 intro a0 a1 k
 unfold vernierref04_Shl.f
 repeat' first
   | (with_reducible exact vernierref04_times.mono _ _ _)
   | (with_reducible exact vernierref04_two.mono _ _)
   | (with_reducible exact LeO.refl _)
   | (with_reducible exact LeO.none _)
   | (with_reducible refine LeO.ite ?_ ?_)
   | (with_reducible refine LeO.bind ?_ (fun _ => ?_))
   | exact vernierref04_times.mono _ _ _
   | exact vernierref04_two.mono _ _
   | exact LeO.none _
   | refine LeO.ite ?_ ?_
   | refine LeO.bind ?_ (fun _ => ?_)
set_option maxHeartbeats 8000000 in
set_option maxRecDepth 100000 in
theorem vernierref04_Shl.calls (k : Nat) (A0 : Option Addr) (c0 : Nat) (l0 : List Int) (a1 : Int) (r : List Int) (w : World) (hr0 : Kd.C (Kd.int .i64) w A0 l0.length l0) (hc0 : l0.length ≤ c0) (h : vernierref04_Shl.f k l0 a1 = some r) :
  Calls Try.prog 43 #[.slice A0 l0.length c0,.int .i64 a1] w fun e w' => ∃ v0_ : Value, e = .returned (v0_) ∧ Kd.R (Kd.int .i64) 3 w' w.heap.size (fun _ => True) v0_ r ∧ Below w.heap.size w w' := by
 have HR0 := am_ hr0
 have HC0 := am_ hc0
 clear hr0 hc0
 have HB := am_ (Below.refl w.heap.size w)
 have H : (if (l0.length : Int) = 0 then (some ([] : List Int)) else (if 0 ≤ (wrap64 (Int.tdiv a1 24)) then (if (wrap64 (Int.tdiv a1 24) : Int).toNat ≤ 35184372088832 then ((some (List.replicate (wrap64 (Int.tdiv a1 24) : Int).toNat 0 : List Int)).bind fun y346 => ((vernierref04_two.f k (Int.tmod a1 24)).bind fun t349 => ((vernierref04_times.f k l0 t349).bind fun t350 => (if y346.length + t350.length < 17592186044416 then (some (y346 ++ t350)) else (none))))) else (none)) else (none))) = some r := h
 clear h
 by_cases c3 : (l0.length : Int) = 0
 ·rw [if_pos c3] at H
  have c3b0 : ((l0.length : Int) == 0) = true := beq_iff_eq.mpr c3
  have c3b1 : ((l0.length : Int) != 0) = false := bne_eq_false_iff_eq.mpr c3
  clear c3
  obtain rfl := Option.some.inj H
  go_enter Try.func43, Try.ntmps43
  go_wp2
  go_ret
  exact ⟨_, by first | rfl | (simp [errW_none, errW_some] <;> rfl) | (simp [*, errW_none, errW_some] <;> rfl), by first | exact Kd.R_nil _ _ _ _ _ | exact Kd.N_nil _ _ _ _ _ | exact Kd.V_nil _ _ _ _ _ | exact Kd.Q_nil _ _ _ _ _ | exact Kd.S_nil _ _ _ _ _, z3_ HB.out⟩
 ·rw [if_neg c3] at H
  have c3b0 : ((l0.length : Int) == 0) = false := beq_eq_false_iff_ne.mpr c3
  have c3b1 : ((l0.length : Int) != 0) = true := bne_iff_ne.mpr c3
  have c3b2 : ¬ (l0 = []) := fun h_ => c3 (by rw [h_];rfl)
  obtain ⟨ji4, hji4⟩ : ∃ j_ : Int, (wrap64 (Int.tdiv a1 24)) = j_ := ⟨_, rfl⟩
  replace H : (if 0 ≤ (ji4) then (if (ji4 : Int).toNat ≤ 35184372088832 then ((some (List.replicate (ji4 : Int).toNat 0 : List Int)).bind fun y346 => ((vernierref04_two.f k (Int.tmod a1 24)).bind fun t349 => ((vernierref04_times.f k l0 t349).bind fun t350 => (if y346.length + t350.length < 17592186044416 then (some (y346 ++ t350)) else (none))))) else (none)) else (none)) = some r := by first | (rw [hji4] at H;exact H) | (simp only [hji4] at H ⊢;exact H)
  have hji4w : (IntKind.i64.wrap (Int.tdiv a1 24)) = ji4 := (i64_w _).trans hji4
  by_cases c5 : 0 ≤ (ji4)
  ·rw [if_pos c5] at H
   have c5b0 := eq_true c5
   have c5b1 : decide (0 ≤ (ji4)) = true := decide_eq_true c5
   clear c5
   by_cases c6 : (ji4 : Int).toNat ≤ 35184372088832
   ·rw [if_pos c6] at H
    have c6b0 := eq_true c6
    have c6b1 : decide ((ji4 : Int).toNat ≤ 35184372088832) = true := decide_eq_true c6
    clear c6
    obtain ⟨y346, hy346⟩ : ∃ y_ : List Int, y_ = (List.replicate (ji4 : Int).toNat 0) := ⟨_, rfl⟩
    replace H : ((vernierref04_two.f k (Int.tmod a1 24)).bind fun t349 => ((vernierref04_times.f k l0 t349).bind fun t350 => (if y346.length + t350.length < 17592186044416 then (some (y346 ++ t350)) else (none)))) = some r := by first | (rw [hy346];with_reducible exact H) | (have H2_ := (Option.bind_some _ _).symm.trans H;rw [hy346];with_reducible exact H2_) | (have H2_ := (Option.bind_some _ _).symm.trans H;with_reducible exact H2_) | with_reducible exact H | (rw [hy346];exact H) | exact H
    have Ny346 := am_ hy346
    clear hy346
    replace H := Option.bind_eq_some_iff.mp H
    obtain ⟨t349, A70, H⟩ := H
    replace H : ((vernierref04_times.f k l0 t349).bind fun t350 => (if y346.length + t350.length < 17592186044416 then (some (y346 ++ t350)) else (none))) = some r := H
    have A7 := am_ A70
    clear A70
    replace H := Option.bind_eq_some_iff.mp H
    obtain ⟨t350, A80, H⟩ := H
    replace H : (if y346.length + t350.length < 17592186044416 then (some (y346 ++ t350)) else (none)) = some r := H
    have A8 := am_ A80
    clear A80
    by_cases c9 : y346.length + t350.length < 17592186044416
    ·rw [if_pos c9] at H
     have LMc9 := am_ c9
     clear c9
     obtain ⟨y353, hy353⟩ : ∃ y_ : List Int, y_ = (y346 ++ t350) := ⟨_, rfl⟩
     replace H : (some y353) = some r := by first | (rw [hy353];with_reducible exact H) | (have H2_ := (Option.bind_some _ _).symm.trans H;rw [hy353];with_reducible exact H2_) | (have H2_ := (Option.bind_some _ _).symm.trans H;with_reducible exact H2_) | with_reducible exact H | (rw [hy353];exact H) | exact H
     have Ny353 := am_ hy353
     clear hy353
     obtain rfl := Option.some.inj H
     go_enter Try.func43, Try.ntmps43
     go_wp2_with (first | ((with_reducible refine gate_dst (N := 11) rfl ?_);refine Kd.R_make (Kd.int .i64) _ 3 rfl (N := 11) rfl 58 _ _ rfl ji4 rfl rfl Try.underlying58 (.int .i64 0) 8 info3 rfl (by decide) (by omega) 0 (ok := fun _ => True) (okp := fun _ => True) rfl (fun _ hk => hk) trivial (of_decide_eq_true (by first | (with_reducible assumption) | assumption)) (Nat.le_trans (Nat.mul_le_mul_right _ (of_decide_eq_true (by first | (with_reducible assumption) | assumption) : ji4.toNat ≤ 35184372088832)) (by omega)) (Below.refl _ _) (Nat.le_refl _) ?_;intro v347 w10 ho11 hb hg_ hnew_;clear hg_ hnew_;(first | rw [← Ny346.out] at ho11 | (simp only [Int.reduceToNat] at ho11;rw [← Ny346.out] at ho11));have n0_ := am_ (Kd.R_lower ho11 (below_size (z3_ HB.out)));have n1_ := am_ (below_step (z3_ HB.out) hb);clear HB;have HO348 := n0_;have HB := n1_;clear n0_ n1_;clear hb ho11) | ((with_reducible refine gate_callee (f := 62) rfl ?_);refine goesL_ (some 16) rfl rfl Try.func62 (by kernel_rfl) rfl #[.int .i64 (Int.tmod a1 24)] rfl z5_ ?_;(with_reducible refine (vernierref04_two.calls k (Int.tmod a1 24) t349 _ A7.out).mono ?_);rintro e w' ⟨rfl, ⟨nd, rfl⟩⟩;refine ⟨_, rfl, ?_⟩) | ((with_reducible refine gate_callee (f := 61) rfl ?_);refine goesL_ (some 17) rfl rfl Try.func61 (by kernel_rfl) rfl #[.slice A0 l0.length c0,.int .i64 t349] rfl z5_ ?_;(with_reducible refine (vernierref04_times.calls k _ _ l0 t349 t350 _ ?side1 ?side2 A8.out).mono ?_);(case side1 => repeat (first | exact (Kd.C_below HR0.out (z3_ HB.out)) | (with_reducible refine Kd.C_alloc ?_ _) | (with_reducible refine Kd.C_drewN ?_ _) | (with_reducible refine Kd.C_drew ?_)));(case side2 => exact HC0.out);rintro e w12 ⟨v351, rfl, ho0, hb⟩;refine ⟨_, rfl, ?_⟩;have n0_ := am_ (Kd.R_elder' (by (with_reducible repeat (first | apply Kd.R_alloc | apply Kd.R_drewN | apply Kd.R_drew));exact HO348.out) (Kd.R_base ho0) hb);have n1_ := am_ (Kd.R_lower (Kd.R_new' ho0 (Kd.R_lt (by (with_reducible repeat (first | apply Kd.R_alloc | apply Kd.R_drewN | apply Kd.R_drew));exact HO348.out))) (below_size (z3_ HB.out)));have n2_ := am_ (below_step (z3_ HB.out) hb);clear HO348;clear HB;have HO348 := n0_;have HO352 := n1_;have HB := n2_;clear n0_ n1_ n2_;(try clear hb);(try clear ho0);obtain ⟨Ao14, co14, eo14⟩ := Kd.R_slice HO352.out;subst eo14) | ((with_reducible refine gate_builtin (b := .append) (xs := #[.tmp 12,.tmp 17]) rfl ?_);at_builtin;refine Kd.R_append_rows (Kd.int .i64) (w0 := w) w.heap.size rfl (.tmp 12) (.tmp 17) 58 3 (.int .i64 0) 8 rfl Try.underlying58 info3 rfl (by decide) (by omega) v347 y346 t350 _ _ _ (fun k_ => some k_ ≠ (.slice Ao14 t350.length co14 : Value).ownBlock) (fun _ => False) rfl rfl ?aO ?aR (fun _ _ h => h) (fun _ h => h.elim) ?aF ?aB ?aS ?aL ?_;(case aR => repeat (first | exact (Kd.R_reads' HO352.out).2.2 | (with_reducible refine Kd.C_alloc ?_ _) | (with_reducible refine Kd.C_drewN ?_ _) | (with_reducible refine Kd.C_drew ?_)));(case aB => exact (z3_ HB.out));(case aF => exact (fun k_ hk => Kd.fresh' (Kd.R_lt (by (with_reducible repeat (first | apply Kd.R_alloc | apply Kd.R_drewN | apply Kd.R_drew));exact HO352.out)) k_ hk));(case aO => exact (by (with_reducible repeat (first | apply Kd.R_alloc | apply Kd.R_drewN | apply Kd.R_drew));exact Kd.R_mono HO348.out (fun _ hk => hk.2)));(case aS => exact (below_size (z3_ HB.out)));(case aL => have := LMc9.out;omega);intro v354 w13 ho hb hg hat;rw [← Ny353.out] at ho;have n0_ := am_ (Kd.R_after (ok := (fun _ => True)) (by (with_reducible repeat (first | apply Kd.R_alloc | apply Kd.R_drewN | apply Kd.R_drew));exact HO352.out) hg hat);have n1_ := am_ (hb);have n2_ := am_ (ho);clear HO352;clear HB;clear HO348;have HO352 := n0_;have HB := n1_;have HO355 := n2_;clear n0_ n1_ n2_;clear ho hb hg hat))
     go_ret
     exact ⟨_, by first | rfl | (simp [errW_none, errW_some] <;> rfl) | (simp only [← hji4];first | rfl | (simp [errW_none, errW_some] <;> rfl)) | (simp [*, errW_none, errW_some] <;> rfl), by (with_reducible repeat (first | apply Kd.R_alloc | apply Kd.R_drewN | apply Kd.R_drew));exact Kd.R_mono HO355.out (fun _ hk => trivial), z3_ HB.out⟩
    ·rw [if_neg c9] at H
     exact absurd H (by simp)
   ·rw [if_neg c6] at H
    exact absurd H (by simp)
  ·rw [if_neg c5] at H
   exact absurd H (by simp)
mutual
def vernierref04_Low.l0 : Nat → List Int → Int → Int → Option (Bool)
 | 0, _, _, _ => none
 | k + 1, x0, x1, x5 => if x5 < (x0.length : Int) then (vernierref04_Low.j1 k x0 x1 x5 (decide ((wrap64 (24 * x5)) < x1))) else (vernierref04_Low.j1 k x0 x1 x5 false)
def vernierref04_Low.j1 : Nat → List Int → Int → Int → Bool → Option (Bool)
 | 0, _, _, _, _ => none
 | k + 1, x0, x1, x5, x16 => if x16 = true then (if (wrap64 (x1 - (wrap64 (24 * x5)))) < 24 then ((vernierref04_two.f k (wrap64 (x1 - (wrap64 (24 * x5))))).bind fun t356 => (if 0 ≤ x5 then (if x5 < (x0.length : Int) then (if t356 = 0 then (none) else (if (Int.tmod (rd x0 x5) t356) = 0 then (vernierref04_Low.l0 k x0 x1 (wrap64 (x5 + 1))) else (some true))) else (none)) else (none))) else (if 0 ≤ x5 then (if x5 < (x0.length : Int) then (if (Int.tmod (rd x0 x5) 16777216) = 0 then (vernierref04_Low.l0 k x0 x1 (wrap64 (x5 + 1))) else (some true)) else (none)) else (none))) else (some false)
end
def vernierref04_Low.f (k : Nat) (l0 : List Int) (a1 : Int) : Option (Bool) := vernierref04_Low.l0 k l0 a1 0
theorem vernierref04_Low.mono_l : ∀ k, (∀ y0 y1 y2, LeO (vernierref04_Low.l0 k y0 y1 y2) (vernierref04_Low.l0 (k + 1) y0 y1 y2)) ∧ (∀ y0 y1 y2 y3, LeO (vernierref04_Low.j1 k y0 y1 y2 y3) (vernierref04_Low.j1 (k + 1) y0 y1 y2 y3))
 | 0 => ⟨fun _ _ _ r h => by simp [vernierref04_Low.l0] at h, fun _ _ _ _ r h => by simp [vernierref04_Low.j1] at h⟩
 | k + 1 => by
  obtain ⟨ih0, ih1⟩ := vernierref04_Low.mono_l k
  refine ⟨?_, ?_⟩
  ·intro y0 y1 y2
   unfold vernierref04_Low.l0
   repeat' first
   | (with_reducible exact ih0 _ _ _)
   | (with_reducible exact ih1 _ _ _ _)
   | (with_reducible exact vernierref04_two.mono _ _)
   | (with_reducible exact LeO.refl _)
   | (with_reducible exact LeO.none _)
   | (with_reducible refine LeO.ite ?_ ?_)
   | (with_reducible refine LeO.bind ?_ (fun _ => ?_))
   | exact ih0 _ _ _
   | exact ih1 _ _ _ _
   | exact vernierref04_two.mono _ _
   | exact LeO.none _
   | refine LeO.ite ?_ ?_
   | refine LeO.bind ?_ (fun _ => ?_)
  ·intro y0 y1 y2 y3
   unfold vernierref04_Low.j1
   repeat' first
   | (with_reducible exact ih0 _ _ _)
   | (with_reducible exact ih1 _ _ _ _)
   | (with_reducible exact vernierref04_two.mono _ _)
   | (with_reducible exact LeO.refl _)
   | (with_reducible exact LeO.none _)
   | (with_reducible refine LeO.ite ?_ ?_)
   | (with_reducible refine LeO.bind ?_ (fun _ => ?_))
   | exact ih0 _ _ _
   | exact ih1 _ _ _ _
   | exact vernierref04_two.mono _ _
   | exact LeO.none _
   | refine LeO.ite ?_ ?_
   | refine LeO.bind ?_ (fun _ => ?_)
theorem vernierref04_Low.mono : ∀ a0 a1 k, LeO (vernierref04_Low.f k a0 a1) (vernierref04_Low.f (k + 1) a0 a1) := by
 intro a0 a1 k
 obtain ⟨ih0, ih1⟩ := vernierref04_Low.mono_l k
 unfold vernierref04_Low.f
 repeat' first
   | (with_reducible exact ih0 _ _ _)
   | (with_reducible exact ih1 _ _ _ _)
   | (with_reducible exact vernierref04_two.mono _ _)
   | (with_reducible exact LeO.refl _)
   | (with_reducible exact LeO.none _)
   | (with_reducible refine LeO.ite ?_ ?_)
   | (with_reducible refine LeO.bind ?_ (fun _ => ?_))
   | exact ih0 _ _ _
   | exact ih1 _ _ _ _
   | exact vernierref04_two.mono _ _
   | exact LeO.none _
   | refine LeO.ite ?_ ?_
   | refine LeO.bind ?_ (fun _ => ?_)
set_option maxHeartbeats 8000000 in
set_option maxRecDepth 100000 in
theorem vernierref04_Low.calls (k : Nat) (A0 : Option Addr) (c0 : Nat) (l0 : List Int) (a1 : Int) (r : Bool) (w : World) (hr0 : Kd.C (Kd.int .i64) w A0 l0.length l0) (hc0 : l0.length ≤ c0) (h : vernierref04_Low.f k l0 a1 = some r) :
  Calls Try.prog 44 #[.slice A0 l0.length c0,.int .i64 a1] w fun e w' => e = .returned (.bool r) ∧ Drawn0 w w' := by
 have HR0 := am_ hr0
 have HC0 := am_ hc0
 clear hr0 hc0
 have H : (vernierref04_Low.l0 k l0 a1 0) = some r := h
 clear h
 have H' := am_ H
 clear H
 go_enter Try.func44, Try.ntmps44
 go_wp2
 go_loopg [5] k (fun kq v5 w' => ∃ (x5_1 : Int), v5 = .int .i64 x5_1 ∧ Aside0 (vernierref04_Low.l0 kq l0 a1 x5_1 = some r) ∧ Aside0 (kq ≤ k) ∧ Drawn0 w w')
 case atStart => exact ⟨(0), (by first | rfl | (simp;done) | (simp [*];done)), H', ⟨Nat.le_refl _⟩, by repeat (first | exact Drawn0.refl _ | apply Drawn0.step)⟩
 case round =>
  clear H'
  obtain ⟨x5_1, rfl, HA, HK1, ⟨m1, rfl⟩⟩ := hrel
  cases gk with
  | zero => exact absurd HA.out (by simp [vernierref04_Low.l0])
  | succ k1 =>
   have H := HA.out
   clear HA
   simp only [vernierref04_Low.l0] at H
   have HC3 := am_ H
   clear H
   go_upto_region 2 with (fail)
   go_cut [16] (fun v16 wc => ∃ (kq : Nat) (x16_2 : Bool), v16 = .bool x16_2 ∧ Aside0 (vernierref04_Low.j1 kq l0 a1 x5_1 x16_2 = some r) ∧ Aside0 (kq ≤ k1) ∧ Drawn0 w wc)
   case first =>
    have H := HC3.out
    clear HC3
    by_cases c4 : x5_1 < (l0.length : Int)
    ·rw [if_pos c4] at H
     have c4b0 : decide (x5_1 < (l0.length : Int)) = true := decide_eq_true c4
     clear c4
     (first | rw [c4b0] | (simp only [i64_w, i32_w];rw [c4b0]) | skip)
     have H' := am_ H
     clear H
     go_wp2
     go_meet
     case rel => exact ⟨_, (decide ((wrap64 (24 * x5_1)) < a1)), (by first | rfl | (simp;done) | (simp [*];done)), H', ⟨by have := HK1.out;first | omega | exact Nat.le_refl _⟩, by repeat (first | exact Drawn0.refl _ | apply Drawn0.step)⟩
    ·rw [if_neg c4] at H
     have c4b0 : decide (x5_1 < (l0.length : Int)) = false := decide_eq_false c4
     clear c4
     (first | rw [c4b0] | (simp only [i64_w, i32_w];rw [c4b0]) | skip)
     have H' := am_ H
     clear H
     go_wp2
     go_meet
     case rel => exact ⟨_, (false), (by first | rfl | (simp;done) | (simp [*];done)), H', ⟨by have := HK1.out;first | omega | exact Nat.le_refl _⟩, by repeat (first | exact Drawn0.refl _ | apply Drawn0.step)⟩
   case rest =>
    clear HC3
    obtain ⟨kq, x16_2, rfl, HA, HJ2, ⟨mc2, rfl⟩⟩ := hcut
    cases kq with
    | zero => exact absurd HA.out (by simp [vernierref04_Low.j1])
    | succ kj2 =>
     have H := HA.out
     clear HA
     simp only [vernierref04_Low.j1] at H
     by_cases c5 : x16_2 = true
     ·subst c5
      have H1 : (if (wrap64 (a1 - (wrap64 (24 * x5_1)))) < 24 then ((vernierref04_two.f kj2 (wrap64 (a1 - (wrap64 (24 * x5_1))))).bind fun t356 => (if 0 ≤ x5_1 then (if x5_1 < (l0.length : Int) then (if t356 = 0 then (none) else (if (Int.tmod (rd l0 x5_1) t356) = 0 then (vernierref04_Low.l0 kj2 l0 a1 (wrap64 (x5_1 + 1))) else (some true))) else (none)) else (none))) else (if 0 ≤ x5_1 then (if x5_1 < (l0.length : Int) then (if (Int.tmod (rd l0 x5_1) 16777216) = 0 then (vernierref04_Low.l0 kj2 l0 a1 (wrap64 (x5_1 + 1))) else (some true)) else (none)) else (none))) = some r := by rw [if_pos rfl] at H;exact H
      clear H
      have H := H1
      clear H1
      by_cases c6 : (wrap64 (a1 - (wrap64 (24 * x5_1)))) < 24
      ·rw [if_pos c6] at H
       have c6b0 : decide ((wrap64 (a1 - (wrap64 (24 * x5_1)))) < 24) = true := decide_eq_true c6
       clear c6
       replace H := Option.bind_eq_some_iff.mp H
       obtain ⟨t356, A70, H⟩ := H
       replace H : (if 0 ≤ x5_1 then (if x5_1 < (l0.length : Int) then (if t356 = 0 then (none) else (if (Int.tmod (rd l0 x5_1) t356) = 0 then (vernierref04_Low.l0 kj2 l0 a1 (wrap64 (x5_1 + 1))) else (some true))) else (none)) else (none)) = some r := H
       have A7 := am_ A70
       clear A70
       by_cases c8 : 0 ≤ x5_1
       ·rw [if_pos c8] at H
        have c8b0 : decide (0 ≤ x5_1) = true := decide_eq_true c8
        clear c8
        by_cases c9 : x5_1 < (l0.length : Int)
        ·rw [if_pos c9] at H
         have c9b0 : decide (x5_1 < (l0.length : Int)) = true := decide_eq_true c9
         clear c9
         by_cases c10 : t356 = 0
         ·rw [if_pos c10] at H
          exact absurd H (by simp)
         ·rw [if_neg c10] at H
          have c10b0 : (t356 == 0) = false := beq_eq_false_iff_ne.mpr c10
          have c10b1 : (t356 != 0) = true := bne_iff_ne.mpr c10
          by_cases c11 : (Int.tmod (rd l0 x5_1) t356) = 0
          ·rw [if_pos c11] at H
           have c11b0 : ((Int.tmod (rd l0 x5_1) t356) == 0) = true := beq_iff_eq.mpr c11
           have c11b1 : ((Int.tmod (rd l0 x5_1) t356) != 0) = false := bne_eq_false_iff_eq.mpr c11
           clear c11
           have H' := am_ H
           clear H
           go_wp2_with (first | ((with_reducible refine gate_callee (f := 62) rfl ?_);refine goesL_ (some 28) rfl rfl Try.func62 (by kernel_rfl) rfl #[.int .i64 (wrap64 (a1 - (wrap64 (24 * x5_1))))] rfl z5_ ?_;(with_reducible refine (vernierref04_two.calls kj2 (wrap64 (a1 - (wrap64 (24 * x5_1)))) t356 _ A7.out).mono ?_);rintro e w' ⟨rfl, ⟨nd, rfl⟩⟩;refine ⟨_, rfl, ?_⟩;have p357 : 0 ≤ (x5_1 : Int) := of_decide_eq_true (by first | (with_reducible assumption) | assumption);have q357 : x5_1 < (l0.length : Int) := of_decide_eq_true (by first | (with_reducible assumption) | assumption);obtain ⟨ad357, e357, hx357_0⟩ := Kd.at_int HR0.out x5_1 p357 q357;cases e357;replace p357 := eq_true p357;replace q357 := eq_true q357))
           go_roundg kj2
           case measure => have := HK1.out;have := HJ2.out;omega
           case rel => exact ⟨(wrap64 (x5_1 + 1)), (by first | rfl | (simp;done) | (simp [*];done)), H', ⟨by have := HK1.out;have := HJ2.out;omega⟩, by repeat (first | exact Drawn0.refl _ | apply Drawn0.step)⟩
          ·rw [if_neg c11] at H
           have c11b0 : ((Int.tmod (rd l0 x5_1) t356) == 0) = false := beq_eq_false_iff_ne.mpr c11
           have c11b1 : ((Int.tmod (rd l0 x5_1) t356) != 0) = true := bne_iff_ne.mpr c11
           obtain rfl := Option.some.inj H
           go_wp2_with (first | ((with_reducible refine gate_callee (f := 62) rfl ?_);refine goesL_ (some 28) rfl rfl Try.func62 (by kernel_rfl) rfl #[.int .i64 (wrap64 (a1 - (wrap64 (24 * x5_1))))] rfl z5_ ?_;(with_reducible refine (vernierref04_two.calls kj2 (wrap64 (a1 - (wrap64 (24 * x5_1)))) t356 _ A7.out).mono ?_);rintro e w' ⟨rfl, ⟨nd, rfl⟩⟩;refine ⟨_, rfl, ?_⟩;have p357 : 0 ≤ (x5_1 : Int) := of_decide_eq_true (by first | (with_reducible assumption) | assumption);have q357 : x5_1 < (l0.length : Int) := of_decide_eq_true (by first | (with_reducible assumption) | assumption);obtain ⟨ad357, e357, hx357_0⟩ := Kd.at_int HR0.out x5_1 p357 q357;cases e357;replace p357 := eq_true p357;replace q357 := eq_true q357))
           go_ret
           exact ⟨by first | rfl | (simp;done) | (simp [*];done), by repeat (first | exact Drawn0.refl _ | apply Drawn0.step)⟩
        ·rw [if_neg c9] at H
         exact absurd H (by simp)
       ·rw [if_neg c8] at H
        exact absurd H (by simp)
      ·rw [if_neg c6] at H
       have c6b0 : decide ((wrap64 (a1 - (wrap64 (24 * x5_1)))) < 24) = false := decide_eq_false c6
       clear c6
       by_cases c12 : 0 ≤ x5_1
       ·rw [if_pos c12] at H
        have c12b0 : decide (0 ≤ x5_1) = true := decide_eq_true c12
        clear c12
        by_cases c13 : x5_1 < (l0.length : Int)
        ·rw [if_pos c13] at H
         have c13b0 : decide (x5_1 < (l0.length : Int)) = true := decide_eq_true c13
         clear c13
         by_cases c14 : (Int.tmod (rd l0 x5_1) 16777216) = 0
         ·rw [if_pos c14] at H
          have c14b0 : ((Int.tmod (rd l0 x5_1) 16777216) == 0) = true := beq_iff_eq.mpr c14
          have c14b1 : ((Int.tmod (rd l0 x5_1) 16777216) != 0) = false := bne_eq_false_iff_eq.mpr c14
          clear c14
          have H' := am_ H
          clear H
          have p358 : 0 ≤ (x5_1 : Int) := of_decide_eq_true (by first | (with_reducible assumption) | assumption)
          have q358 : x5_1 < (l0.length : Int) := of_decide_eq_true (by first | (with_reducible assumption) | assumption)
          obtain ⟨ad358, e358, hx358_0⟩ := Kd.at_int HR0.out x5_1 p358 q358
          cases e358
          replace p358 := eq_true p358
          replace q358 := eq_true q358
          go_wp2
          go_roundg kj2
          case measure => have := HK1.out;have := HJ2.out;omega
          case rel => exact ⟨(wrap64 (x5_1 + 1)), (by first | rfl | (simp;done) | (simp [*];done)), H', ⟨by have := HK1.out;have := HJ2.out;omega⟩, by repeat (first | exact Drawn0.refl _ | apply Drawn0.step)⟩
         ·rw [if_neg c14] at H
          have c14b0 : ((Int.tmod (rd l0 x5_1) 16777216) == 0) = false := beq_eq_false_iff_ne.mpr c14
          have c14b1 : ((Int.tmod (rd l0 x5_1) 16777216) != 0) = true := bne_iff_ne.mpr c14
          obtain rfl := Option.some.inj H
          have p358 : 0 ≤ (x5_1 : Int) := of_decide_eq_true (by first | (with_reducible assumption) | assumption)
          have q358 : x5_1 < (l0.length : Int) := of_decide_eq_true (by first | (with_reducible assumption) | assumption)
          obtain ⟨ad358, e358, hx358_0⟩ := Kd.at_int HR0.out x5_1 p358 q358
          cases e358
          replace p358 := eq_true p358
          replace q358 := eq_true q358
          go_wp2
          go_ret
          exact ⟨by first | rfl | (simp;done) | (simp [*];done), by repeat (first | exact Drawn0.refl _ | apply Drawn0.step)⟩
        ·rw [if_neg c13] at H
         exact absurd H (by simp)
       ·rw [if_neg c12] at H
        exact absurd H (by simp)
     ·replace c5 := Bool.eq_false_iff.mpr c5
      subst c5
      have H1 : (some false) = some r := by rw [if_neg (show ¬ (false = true) by decide)] at H;exact H
      clear H
      have H := H1
      clear H1
      obtain rfl := Option.some.inj H
      go_wp2
      go_ret
      exact ⟨by first | rfl | (simp;done) | (simp [*];done), by repeat (first | exact Drawn0.refl _ | apply Drawn0.step)⟩
def vernierref04_Shr.l0 : Nat → List Int → Int → List Int → Int → Option (List Int)
 | 0, _, _, _, _ => none
 | k + 1, x5, x6, x7, x8 => if x8 < (x5.length : Int) then (if 0 ≤ x8 then (if x6 = 0 then (none) else ((vernierref04_digit.f x5 (wrap64 (x8 + 1))).bind fun t368 => (if x8 < (x7.length : Int) then (vernierref04_Shr.l0 k x5 x6 (x7.set (x8 : Int).toNat (wrap64 ((wrap64 (Int.tdiv (rd x5 x8) x6)) + (wrap64 ((Int.tmod t368 x6) * (wrap64 (Int.tdiv (16777216 : Int) x6))))))) (wrap64 (x8 + 1))) else (none)))) else (none)) else ((vernierref04_Cut.f k x7).bind fun t370 => (some t370))
def vernierref04_Shr.f (k : Nat) (l0 : List Int) (a1 : Int) : Option (List Int) := if (wrap64 (Int.tdiv a1 24)) ≥ (l0.length : Int) then (some ([] : List Int)) else (if 0 ≤ (wrap64 (Int.tdiv a1 24)) then (if (wrap64 (Int.tdiv a1 24)) ≤ (l0.length : Int) then ((some (l0.drop ((wrap64 (Int.tdiv a1 24)) : Int).toNat : List Int)).bind fun y359 => ((vernierref04_two.f k (Int.tmod a1 24)).bind fun t363 => (if 0 ≤ (y359.length : Int) then (if ((y359.length : Int) : Int).toNat ≤ 35184372088832 then (vernierref04_Shr.l0 k y359 t363 (List.replicate ((y359.length : Int) : Int).toNat 0) 0) else (none)) else (none)))) else (none)) else (none))
theorem vernierref04_Shr.mono_l : ∀ k, (∀ y0 y1 y2 y3, LeO (vernierref04_Shr.l0 k y0 y1 y2 y3) (vernierref04_Shr.l0 (k + 1) y0 y1 y2 y3))
 | 0 => fun _ _ _ _ r h => by simp [vernierref04_Shr.l0] at h
 | k + 1 => by
  have ih0 := vernierref04_Shr.mono_l k
  ·intro y0 y1 y2 y3
   unfold vernierref04_Shr.l0
   repeat' first
   | (with_reducible exact ih0 _ _ _ _)
   | (with_reducible exact vernierref04_Cut.mono _ _)
   | (with_reducible exact vernierref04_two.mono _ _)
   | (with_reducible exact LeO.refl _)
   | (with_reducible exact LeO.none _)
   | (with_reducible refine LeO.ite ?_ ?_)
   | (with_reducible refine LeO.bind ?_ (fun _ => ?_))
   | exact ih0 _ _ _ _
   | exact vernierref04_Cut.mono _ _
   | exact vernierref04_two.mono _ _
   | exact LeO.none _
   | refine LeO.ite ?_ ?_
   | refine LeO.bind ?_ (fun _ => ?_)
theorem vernierref04_Shr.mono : ∀ a0 a1 k, LeO (vernierref04_Shr.f k a0 a1) (vernierref04_Shr.f (k + 1) a0 a1) := by
 intro a0 a1 k
 have ih0 := vernierref04_Shr.mono_l k
 unfold vernierref04_Shr.f
 repeat' first
   | (with_reducible exact ih0 _ _ _ _)
   | (with_reducible exact vernierref04_Cut.mono _ _)
   | (with_reducible exact vernierref04_two.mono _ _)
   | (with_reducible exact LeO.refl _)
   | (with_reducible exact LeO.none _)
   | (with_reducible refine LeO.ite ?_ ?_)
   | (with_reducible refine LeO.bind ?_ (fun _ => ?_))
   | exact ih0 _ _ _ _
   | exact vernierref04_Cut.mono _ _
   | exact vernierref04_two.mono _ _
   | exact LeO.none _
   | refine LeO.ite ?_ ?_
   | refine LeO.bind ?_ (fun _ => ?_)
def vernierref04_Shr.T9 : Bool × List (List Nat × List Nat) := (true,[([], []), ([], []), ([], []), ([], []), ([2, 3], [2, 3]), ([4], [4]), ([], []), ([5, 6], [5, 6]), ([], []), ([], []), ([9], [9]), ([8, 10], [8, 10]), ([], []), ([11, 12], [11, 12]), ([], []), ([14], [14]), ([13, 15], [13, 15]), ([7, 16], [7, 16]), ([0, 1, 0, 1, 2, 3, 4, 5, 6, 7, 8, 9, 10, 11, 12, 13, 14, 15, 16, 17], [0, 1]), ([18, 17, 11, 0, 1, 2, 3, 4, 5, 6, 7, 8, 9, 10, 11, 12, 13, 14, 15, 16, 17], [17, 18])])
def vernierref04_Shr.B9 : List Nat := [0, 0, 0, 0, 12, 28, 0, 124, 0, 0, 512, 1792, 0, 7936, 0, 16384, 65280, 131068, 262143, 524287]
theorem vernierref04_Shr.tab9 : rtab .any (opsOf Try.f45 9) = vernierref04_Shr.T9 := by kernel_rfl
theorem vernierref04_Shr.bits9 : waitsOk vernierref04_Shr.T9.2 vernierref04_Shr.B9 = true := by kernel_rfl
set_option maxHeartbeats 8000000 in
set_option maxRecDepth 100000 in
theorem vernierref04_Shr.calls (k : Nat) (A0 : Option Addr) (c0 : Nat) (l0 : List Int) (a1 : Int) (r : List Int) (w : World) (hr0 : Kd.C (Kd.int .i64) w A0 l0.length l0) (hc0 : l0.length ≤ c0) (h : vernierref04_Shr.f k l0 a1 = some r) :
  Calls Try.prog 45 #[.slice A0 l0.length c0,.int .i64 a1] w fun e w' => ∃ v0_ : Value, e = .returned (v0_) ∧ Kd.R (Kd.int .i64) 3 w' w.heap.size (fun _ => True) v0_ r ∧ Below w.heap.size w w' := by
 have HR0 := am_ hr0
 have HC0 := am_ hc0
 clear hr0 hc0
 have HB := am_ (Below.refl w.heap.size w)
 have H : (if (wrap64 (Int.tdiv a1 24)) ≥ (l0.length : Int) then (some ([] : List Int)) else (if 0 ≤ (wrap64 (Int.tdiv a1 24)) then (if (wrap64 (Int.tdiv a1 24)) ≤ (l0.length : Int) then ((some (l0.drop ((wrap64 (Int.tdiv a1 24)) : Int).toNat : List Int)).bind fun y359 => ((vernierref04_two.f k (Int.tmod a1 24)).bind fun t363 => (if 0 ≤ (y359.length : Int) then (if ((y359.length : Int) : Int).toNat ≤ 35184372088832 then (vernierref04_Shr.l0 k y359 t363 (List.replicate ((y359.length : Int) : Int).toNat 0) 0) else (none)) else (none)))) else (none)) else (none))) = some r := h
 clear h
 by_cases c3 : (wrap64 (Int.tdiv a1 24)) ≥ (l0.length : Int)
 ·rw [if_pos c3] at H
  have c3b0 : decide ((l0.length : Int) ≤ (wrap64 (Int.tdiv a1 24))) = true := decide_eq_true c3
  clear c3
  obtain rfl := Option.some.inj H
  go_enter Try.func45, Try.ntmps45
  go_wp2
  go_ret
  exact ⟨_, by first | rfl | (simp [errW_none, errW_some] <;> rfl) | (simp [*, errW_none, errW_some] <;> rfl), by first | exact Kd.R_nil _ _ _ _ _ | exact Kd.N_nil _ _ _ _ _ | exact Kd.V_nil _ _ _ _ _ | exact Kd.Q_nil _ _ _ _ _ | exact Kd.S_nil _ _ _ _ _, z3_ HB.out⟩
 ·rw [if_neg c3] at H
  have c3b0 : decide ((l0.length : Int) ≤ (wrap64 (Int.tdiv a1 24))) = false := decide_eq_false c3
  clear c3
  obtain ⟨ji4, hji4⟩ : ∃ j_ : Int, (wrap64 (Int.tdiv a1 24)) = j_ := ⟨_, rfl⟩
  replace H : (if 0 ≤ (ji4) then (if (ji4) ≤ (l0.length : Int) then ((some (l0.drop ((ji4) : Int).toNat : List Int)).bind fun y359 => ((vernierref04_two.f k (Int.tmod a1 24)).bind fun t363 => (if 0 ≤ (y359.length : Int) then (if ((y359.length : Int) : Int).toNat ≤ 35184372088832 then (vernierref04_Shr.l0 k y359 t363 (List.replicate ((y359.length : Int) : Int).toNat 0) 0) else (none)) else (none)))) else (none)) else (none)) = some r := by first | (rw [hji4] at H;exact H) | (simp only [hji4] at H ⊢;exact H)
  (try rw [hji4] at c3b0)
  have hji4w : (IntKind.i64.wrap (Int.tdiv a1 24)) = ji4 := (i64_w _).trans hji4
  by_cases c5 : 0 ≤ (ji4)
  ·rw [if_pos c5] at H
   have c5b0 := eq_true c5
   have c5b1 : decide (0 ≤ (ji4)) = true := decide_eq_true c5
   clear c5
   by_cases c6 : (ji4) ≤ (l0.length : Int)
   ·rw [if_pos c6] at H
    have c6b0 := eq_true c6
    have c6b1 : decide ((ji4) ≤ (l0.length : Int)) = true := decide_eq_true c6
    clear c6
    obtain ⟨y359, hy359⟩ : ∃ y_ : List Int, y_ = (l0.drop ((ji4) : Int).toNat) := ⟨_, rfl⟩
    replace H : ((vernierref04_two.f k (Int.tmod a1 24)).bind fun t363 => (if 0 ≤ (y359.length : Int) then (if ((y359.length : Int) : Int).toNat ≤ 35184372088832 then (vernierref04_Shr.l0 k y359 t363 (List.replicate ((y359.length : Int) : Int).toNat 0) 0) else (none)) else (none))) = some r := by first | (rw [hy359];with_reducible exact H) | (have H2_ := (Option.bind_some _ _).symm.trans H;rw [hy359];with_reducible exact H2_) | (have H2_ := (Option.bind_some _ _).symm.trans H;with_reducible exact H2_) | with_reducible exact H | (rw [hy359];exact H) | exact H
    have Ny359 := am_ hy359
    clear hy359
    replace H := Option.bind_eq_some_iff.mp H
    obtain ⟨t363, A70, H⟩ := H
    replace H : (if 0 ≤ (y359.length : Int) then (if ((y359.length : Int) : Int).toNat ≤ 35184372088832 then (vernierref04_Shr.l0 k y359 t363 (List.replicate ((y359.length : Int) : Int).toNat 0) 0) else (none)) else (none)) = some r := H
    have A7 := am_ A70
    clear A70
    by_cases c8 : 0 ≤ (y359.length : Int)
    ·rw [if_pos c8] at H
     have c8b0 := eq_true c8
     have c8b1 : decide (0 ≤ (y359.length : Int)) = true := decide_eq_true c8
     clear c8
     by_cases c9 : ((y359.length : Int) : Int).toNat ≤ 35184372088832
     ·rw [if_pos c9] at H
      have c9b0 := eq_true c9
      have c9b1 : decide (((y359.length : Int) : Int).toNat ≤ 35184372088832) = true := decide_eq_true c9
      clear c9
      obtain ⟨y364, hy364⟩ : ∃ y_ : List Int, y_ = (List.replicate ((y359.length : Int) : Int).toNat 0) := ⟨_, rfl⟩
      replace H : (vernierref04_Shr.l0 k y359 t363 y364 0) = some r := by first | (rw [hy364];with_reducible exact H) | (have H2_ := (Option.bind_some _ _).symm.trans H;rw [hy364];with_reducible exact H2_) | (have H2_ := (Option.bind_some _ _).symm.trans H;with_reducible exact H2_) | with_reducible exact H | (rw [hy364];exact H) | exact H
      have Ny364 := am_ hy364
      clear hy364
      have H' := am_ H
      clear H
      have q10 : ((ji4) : Int) ≤ ((l0.length : Int) : Int) := of_decide_eq_true (by first | (with_reducible assumption) | assumption)
      obtain ⟨i010, hi010, _, hsz10, _⟩ := info_parts info3
      have hroom10 : l0.length ≤ c0 := HC0.out
      have hC10 : Kd.C (Kd.int .i64) _ A0 l0.length l0 := HR0.out
      have q010 : (0 : Int) ≤ ((ji4) : Int) := of_decide_eq_true (by first | (with_reducible assumption) | assumption)
      have hcut10 := cut_from (P := Try.prog) 58 3 .i64 Try.underlying58 hi010 1 hsz10 A0 l0.length c0 (ji4) q010 q10
      have hr10 := Kd.C_drop (m := ((ji4) : Int).toNat) (c := c0) hC10 (by omega) hroom10
      obtain ⟨A10, hA10⟩ : ∃ A1, A1 = (if c0 = ((ji4) : Int).toNat then A0 else (A0 : Option Addr).map (·.add (((ji4) : Int).toNat * 1))) := ⟨_, rfl⟩
      obtain ⟨c10, hc10⟩ : ∃ c1, c1 = c0 - ((ji4) : Int).toNat := ⟨_, rfl⟩
      have hy10 : y359.length = l0.length - ((ji4) : Int).toNat := (by rw [Ny359.out, List.length_drop] <;> omega)
      rw [show (l0).drop ((ji4) : Int).toNat = y359 from Ny359.out.symm] at hr10
      replace hr10 : Kd.C (Kd.int .i64) _ A10 y359.length y359 := (by rw [hA10];exact hr10)
      rw [← hy10, ← hA10, ← hc10] at hcut10
      have HR362 := am_ hr10
      have HC362 := am_ (show y359.length ≤ c10 from by rw [hy10, hc10];exact Nat.sub_le_sub_right hroom10 _)
      clear hr10 hC10 hroom10 hi010 hsz10 hc10
      have KY10 := am_ hy10
      have KA10 := am_ hA10
      clear hy10 hA10
      replace q10 := eq_true q10
      go_enter Try.func45, Try.ntmps45
      go_wp2_with (first | ((with_reducible refine gate_callee (f := 62) rfl ?_);refine goesL_ (some 20) rfl rfl Try.func62 (by kernel_rfl) rfl #[.int .i64 (Int.tmod a1 24)] rfl z5_ ?_;(with_reducible refine (vernierref04_two.calls k (Int.tmod a1 24) t363 _ A7.out).mono ?_);rintro e w' ⟨rfl, ⟨nd, rfl⟩⟩;refine ⟨_, rfl, ?_⟩) | ((with_reducible refine gate_dst (N := 23) rfl ?_);refine Kd.R_make (Kd.int .i64) _ 3 rfl (N := 23) rfl 58 _ _ rfl (y359.length : Int) rfl rfl Try.underlying58 (.int .i64 0) 8 info3 rfl (by decide) (by omega) 0 (ok := fun _ => True) (okp := fun _ => True) rfl (fun _ hk => hk) trivial (of_decide_eq_true (by first | (with_reducible assumption) | assumption)) (Nat.le_trans (Nat.mul_le_mul_right _ (of_decide_eq_true (by first | (with_reducible assumption) | assumption) : (y359.length : Int).toNat ≤ 35184372088832)) (by omega)) (Below.refl _ _) (Nat.le_refl _) ?_;intro v365 w11 ho12 hb hg_ hnew_;clear hg_ hnew_;(first | rw [← Ny364.out] at ho12 | (simp only [Int.reduceToNat] at ho12;rw [← Ny364.out] at ho12));have n0_ := am_ (Kd.R_lower ho12 (below_size (z3_ HB.out)));have n1_ := am_ (below_step (z3_ HB.out) hb);clear HB;have HO366 := n0_;have HB := n1_;clear n0_ n1_;clear hb ho12))
      go_loopg [8] k (fun kq v8 w' => ∃ (x7_1 : List Int) (x8_1 : Int), v8 = .int .i64 x8_1 ∧ Aside0 (vernierref04_Shr.l0 kq y359 t363 x7_1 x8_1 = some r) ∧ Aside0 (kq ≤ k) ∧ Aside0 (Kd.R (Kd.int .i64) 3 w' w.heap.size (fun _ => True) v365 x7_1) ∧ Aside0 (Below w.heap.size w w'))
      case atStart => exact ⟨(y364), (0), (by first | rfl | (simp;done) | (simp [*];done)), H', ⟨Nat.le_refl _⟩, ⟨by (with_reducible repeat (first | apply Kd.R_alloc | apply Kd.R_drewN | apply Kd.R_drew));exact HO366.out⟩, ⟨z3_ HB.out⟩⟩
      case round =>
       clear H'
       try clear c1
       try clear c3
       try clear c3b0
       try clear c5
       try clear c5b0
       try clear c5b1
       try clear c6
       try clear c6b0
       try clear c6b1
       try clear c8
       try clear c8b0
       try clear c8b1
       try clear c9
       try clear c9b0
       try clear c9b1
       try clear c10
       try clear q10
       try clear q010
       try clear q10
       obtain ⟨x7_1, x8_1, rfl, HA, HK1, HO_7, HB⟩ := hrel
       cases gk with
       | zero => exact absurd HA.out (by simp [vernierref04_Shr.l0])
       | succ k1 =>
        have H := HA.out
        clear HA
        simp only [vernierref04_Shr.l0] at H
        by_cases c13 : x8_1 < (y359.length : Int)
        ·rw [if_pos c13] at H
         have c13b0 : decide (x8_1 < (y359.length : Int)) = true := decide_eq_true c13
         clear c13
         by_cases c14 : 0 ≤ x8_1
         ·rw [if_pos c14] at H
          have c14b0 : decide (0 ≤ x8_1) = true := decide_eq_true c14
          clear c14
          by_cases c15 : t363 = 0
          ·rw [if_pos c15] at H
           exact absurd H (by simp)
          ·rw [if_neg c15] at H
           have c15b0 : (t363 == 0) = false := beq_eq_false_iff_ne.mpr c15
           have c15b1 : (t363 != 0) = true := bne_iff_ne.mpr c15
           replace H := Option.bind_eq_some_iff.mp H
           obtain ⟨t368, A160, H⟩ := H
           replace H : (if x8_1 < (x7_1.length : Int) then (vernierref04_Shr.l0 k1 y359 t363 (x7_1.set (x8_1 : Int).toNat (wrap64 ((wrap64 (Int.tdiv (rd y359 x8_1) t363)) + (wrap64 ((Int.tmod t368 t363) * (wrap64 (Int.tdiv (16777216 : Int) t363))))))) (wrap64 (x8_1 + 1))) else (none)) = some r := H
           have A16 := am_ A160
           clear A160
           by_cases c17 : x8_1 < (x7_1.length : Int)
           ·rw [if_pos c17] at H
            have c17b0 : decide (x8_1 < (x7_1.length : Int)) = true := decide_eq_true c17
            clear c17
            obtain ⟨y369, hy369⟩ : ∃ y_ : List Int, y_ = (x7_1.set (x8_1 : Int).toNat (wrap64 ((wrap64 (Int.tdiv (rd y359 x8_1) t363)) + (wrap64 ((Int.tmod t368 t363) * (wrap64 (Int.tdiv (16777216 : Int) t363))))))) := ⟨_, rfl⟩
            replace H : (vernierref04_Shr.l0 k1 y359 t363 y369 (wrap64 (x8_1 + 1))) = some r := by first | (rw [hy369];with_reducible exact H) | (have H2_ := (Option.bind_some _ _).symm.trans H;rw [hy369];with_reducible exact H2_) | (have H2_ := (Option.bind_some _ _).symm.trans H;with_reducible exact H2_) | with_reducible exact H | (rw [hy369];exact H) | exact H
            have Ny369 := am_ hy369
            clear hy369
            have H' := am_ H
            clear H
            try go_wp2
            have n0_ := am_ (Kd.R_drew HO_7.out)
            have n1_ := am_ (below_drew1 HB.out)
            clear HO_7
            clear HB
            have HO_7 := n0_
            have HB := n1_
            clear n0_ n1_
            have p367 : 0 ≤ (x8_1 : Int) := of_decide_eq_true (by first | (with_reducible assumption) | assumption)
            have q367 : x8_1 < (y359.length : Int) := of_decide_eq_true (by first | (with_reducible assumption) | assumption)
            obtain ⟨ad367, e367, hx367_0⟩ := Kd.at_int HR362.out x8_1 p367 q367
            have hw367_0 := hx367_0
            cases e367
            replace hx367_0 := (HB.out.cell (World.block_lt_of_cell? w _ hx367_0)).trans hx367_0
            replace p367 := eq_true p367
            replace q367 := eq_true q367
            refine start_ (n := 20) (S := fun w' => w'.cell? (ad367.add (x8_1).toNat) = some (.int .i64 (rd y359 x8_1))) (ds := [19]) #[false,false,false,false,false,false,false,false,false,false,false,false,false,false,false,false,false,false,false,false] (by kernel_rfl) rfl rfl (((HB.out.cell (World.block_lt_of_cell? w _ hw367_0)).trans hw367_0)) (fun hHeld => ?_);refine with_tabW vernierref04_Shr.tab9 vernierref04_Shr.bits9 (fun HT_ HW_ => ?_)
            generalize wr.drew = w19 at HO_7 HB hx367_0 hHeld ⊢
            refine pure_ (i := 0) (N := some 30) (v := ?_) (a' := ?_) #[true,false,false,false,false,false,false,false,false,false,false,false,false,false,false,false,false,false,false,false] rfl rfl (any_of HT_.out (by kernel_rfl)) (fun _ _ _ h => h) (Or.inl ⟨by rfl, ?_⟩) ?_ ?_
            rotate_left
            ·intro w'
             go_simp
             with_reducible rfl
            rotate_left
            ·simp only [Act.put, List.setIfInBounds_toArray, List.set_cons_zero, List.set_cons_succ, i64_w, i32_w]
             rfl
            refine pure_ (i := 1) (N := some 31) (v := ?_) (a' := ?_) #[true,true,false,false,false,false,false,false,false,false,false,false,false,false,false,false,false,false,false,false] rfl rfl (any_of HT_.out (by kernel_rfl)) (fun _ _ _ h => h) (Or.inl ⟨by rfl, ?_⟩) ?_ ?_
            rotate_left
            ·intro w'
             go_simp
             with_reducible rfl
            rotate_left
            ·simp only [Act.put, List.setIfInBounds_toArray, List.set_cons_zero, List.set_cons_succ, i64_w, i32_w]
             rfl
            refine pure_ (i := 2) (N := some 32) (v := ?_) (a' := ?_) #[true,true,true,false,false,false,false,false,false,false,false,false,false,false,false,false,false,false,false,false] rfl rfl (any_of HT_.out (by kernel_rfl)) (fun _ _ _ h => h) (Or.inl ⟨by rfl, ?_⟩) ?_ ?_
            rotate_left
            ·intro w'
             go_simp
             with_reducible rfl
            rotate_left
            ·simp only [Act.put, List.setIfInBounds_toArray, List.set_cons_zero, List.set_cons_succ, i64_w, i32_w]
             rfl
            refine pure_ (i := 3) (N := some 33) (v := ?_) (a' := ?_) #[true,true,true,true,false,false,false,false,false,false,false,false,false,false,false,false,false,false,false,false] rfl rfl (any_of HT_.out (by kernel_rfl)) (fun _ _ _ h => h) (Or.inl ⟨by rfl, ?_⟩) ?_ ?_
            rotate_left
            ·intro w'
             go_simp
             with_reducible rfl
            rotate_left
            ·simp only [Act.put, List.setIfInBounds_toArray, List.set_cons_zero, List.set_cons_succ, i64_w, i32_w]
             rfl
            refine pure_ (i := 4) (N := some 34) (v := ?_) (a' := ?_) #[true,true,true,true,true,false,false,false,false,false,false,false,false,false,false,false,false,false,false,false] rfl rfl (any_of HT_.out (by kernel_rfl)) (fun _ _ _ h => h) (Or.inl ⟨by rfl, ?_⟩) ?_ ?_
            rotate_left
            ·intro w'
             go_simp
             with_reducible rfl
            rotate_left
            ·simp only [Act.put, List.setIfInBounds_toArray, List.set_cons_zero, List.set_cons_succ, i64_w, i32_w]
             rfl
            refine pure_ (i := 6) (N := some 36) (v := ?_) (a' := ?_) #[true,true,true,true,true,false,true,false,false,false,false,false,false,false,false,false,false,false,false,false] rfl rfl (any_of HT_.out (by kernel_rfl)) (fun _ _ _ h => h) (Or.inl ⟨by rfl, ?_⟩) ?_ ?_
            rotate_left
            ·intro w'
             go_simp
             with_reducible rfl
            rotate_left
            ·simp only [Act.put, List.setIfInBounds_toArray, List.set_cons_zero, List.set_cons_succ, i64_w, i32_w]
             rfl
            refine pure_ (i := 8) (N := some 38) (v := ?_) (a' := ?_) #[true,true,true,true,true,false,true,false,true,false,false,false,false,false,false,false,false,false,false,false] rfl rfl (any_of HT_.out (by kernel_rfl)) (fun _ _ _ h => h) (Or.inl ⟨by rfl, ?_⟩) ?_ ?_
            rotate_left
            ·intro w'
             go_simp
             with_reducible rfl
            rotate_left
            ·simp only [Act.put, List.setIfInBounds_toArray, List.set_cons_zero, List.set_cons_succ, i64_w, i32_w]
             rfl
            refine pure_ (i := 9) (N := some 39) (v := ?_) (a' := ?_) #[true,true,true,true,true,false,true,false,true,true,false,false,false,false,false,false,false,false,false,false] rfl rfl (any_of HT_.out (by kernel_rfl)) (fun _ _ _ h => h) (Or.inl ⟨by rfl, ?_⟩) ?_ ?_
            rotate_left
            ·intro w'
             go_simp
             with_reducible rfl
            rotate_left
            ·simp only [Act.put, List.setIfInBounds_toArray, List.set_cons_zero, List.set_cons_succ, i64_w, i32_w]
             rfl
            refine pure_ (i := 10) (N := some 40) (v := ?_) (a' := ?_) #[true,true,true,true,true,false,true,false,true,true,true,false,false,false,false,false,false,false,false,false] rfl rfl (any_of HT_.out (by kernel_rfl)) (fun _ _ _ h => h) (Or.inl ⟨by rfl, ?_⟩) ?_ ?_
            rotate_left
            ·intro w'
             go_simp
             with_reducible rfl
            rotate_left
            ·simp only [Act.put, List.setIfInBounds_toArray, List.set_cons_zero, List.set_cons_succ, i64_w, i32_w]
             rfl
            refine pure_ (i := 12) (N := some 42) (v := ?_) (a' := ?_) #[true,true,true,true,true,false,true,false,true,true,true,false,true,false,false,false,false,false,false,false] rfl rfl (any_of HT_.out (by kernel_rfl)) (fun _ _ _ h => h) (Or.inl ⟨by rfl, ?_⟩) ?_ ?_
            rotate_left
            ·intro w'
             go_simp
             with_reducible rfl
            rotate_left
            ·simp only [Act.put, List.setIfInBounds_toArray, List.set_cons_zero, List.set_cons_succ, i64_w, i32_w]
             rfl
            refine pure_ (i := 14) (N := some 44) (v := ?_) (a' := ?_) #[true,true,true,true,true,false,true,false,true,true,true,false,true,false,true,false,false,false,false,false] rfl rfl (any_of HT_.out (by kernel_rfl)) (fun _ _ _ h => h) (Or.inl ⟨by rfl, ?_⟩) ?_ ?_
            rotate_left
            ·intro w'
             go_simp
             with_reducible rfl
            rotate_left
            ·simp only [Act.put, List.setIfInBounds_toArray, List.set_cons_zero, List.set_cons_succ, i64_w, i32_w]
             rfl
            refine pure_ (i := 15) (N := some 45) (v := ?_) (a' := ?_) #[true,true,true,true,true,false,true,false,true,true,true,false,true,false,true,true,false,false,false,false] rfl rfl (any_of HT_.out (by kernel_rfl)) (fun _ _ _ h => h) (Or.inl ⟨by rfl, ?_⟩) ?_ ?_
            rotate_left
            ·intro w'
             go_simp
             with_reducible rfl
            rotate_left
            ·simp only [Act.put, List.setIfInBounds_toArray, List.set_cons_zero, List.set_cons_succ, i64_w, i32_w]
             rfl
            refine take_ (i := 5) (N := some 35) (v := ?_) (a' := ?_) #[true,true,true,true,true,true,true,false,true,true,true,false,true,false,true,true,false,false,false,false] rfl rfl (take_ofW HT_.out HW_.out (by kernel_rfl)) (fun _ _ _ h => h) (Or.inl ⟨by rfl, ?_⟩) hHeld ?_ ?_
            rotate_left
            ·intro w' s0
             go_simp
             with_reducible rfl
            rotate_left
            ·simp only [Act.put, List.setIfInBounds_toArray, List.set_cons_zero, List.set_cons_succ, i64_w, i32_w]
             rfl
            refine pure_ (i := 7) (N := some 37) (v := ?_) (a' := ?_) #[true,true,true,true,true,true,true,true,true,true,true,false,true,false,true,true,false,false,false,false] rfl rfl (any_of HT_.out (by kernel_rfl)) (fun _ _ _ h => h) (Or.inl ⟨by rfl, ?_⟩) ?_ ?_
            rotate_left
            ·intro w'
             go_simp
             with_reducible rfl
            rotate_left
            ·simp only [Act.put, List.setIfInBounds_toArray, List.set_cons_zero, List.set_cons_succ, i64_w, i32_w]
             rfl
            refine one_ (i := 11) (N := some 41) #[true,true,true,true,true,true,true,true,true,true,true,true,true,false,true,true,false,false,false,false] rfl rfl (one_of HT_.out (by kernel_rfl)) (by decide) (fun K hK => ?_)
            refine goes_ Try.func63 (by kernel_rfl) rfl #[.slice (some ad367) y359.length c10,.int .i64 (wrap64 (x8_1 + 1))] (by rfl) rfl rfl z5_ ?_
            with_reducible refine (vernierref04_digit.calls _ _ y359 (wrap64 (x8_1 + 1)) t368 _ ?side1 ?side2 A16.out).mono ?_
            (case side1 => repeat (first | exact (Kd.C_below HR362.out HB.out) | (with_reducible refine Kd.C_alloc ?_ _) | (with_reducible refine Kd.C_drewN ?_ _) | (with_reducible refine Kd.C_drew ?_)))
            (case side2 => exact HC362.out)
            rintro e w' ⟨rfl, ⟨nd, rfl⟩⟩
            refine ⟨_, rfl, ?_⟩
            have p18 : 0 ≤ (x8_1 : Int) := of_decide_eq_true (by first | (with_reducible assumption) | assumption)
            have q18 : (x8_1 : Int) < ((x7_1.length : Int) : Int) := of_decide_eq_true (by first | (with_reducible assumption) | assumption)
            obtain ⟨go18, co18, eo18, gb18, gl18, cl18, HG18⟩ := Kd.R_form HO_7.out (by omega)
            (first | cases eo18 | (injection eo18 with ea_ en_ ec_;(first | subst ea_ | (injection ea_ with ea_;subst ea_));subst ec_;clear en_))
            have GB18 := am_ gb18
            have GG18 := am_ HG18
            clear gb18 gl18 HG18
            obtain ⟨hx18_0, hf18_0⟩ := Kd.R_celln 0 HO_7.out (x8_1 : Int) p18 q18
            replace p18 := eq_true p18
            replace q18 := eq_true q18
            have HP20 := Kd.R_putn HO_7.out (x8_1 : Int) (wrap64 ((wrap64 (Int.tdiv (rd y359 x8_1) t363)) + (wrap64 ((Int.tmod t368 t363) * (wrap64 (Int.tdiv (16777216 : Int) t363))))))
            rw [← Ny369.out] at HP20
            have HQ20 := am_ HP20
            clear HP20
            refine hK.out _ _ (((HB.out.cell (World.block_lt_of_cell? w _ hw367_0)).trans hw367_0)) (fun hHeld => ?_)
            clear hK K
            refine norm_ (a' := ?_) ?_ ?_
            rotate_left
            ·show Act.put _ (some 41) _ = _
             simp only [Act.put, List.setIfInBounds_toArray, List.set_cons_zero, List.set_cons_succ, i64_w, i32_w]
             rfl
            refine pure_ (i := 13) (N := some 43) (v := ?_) (a' := ?_) #[true,true,true,true,true,true,true,true,true,true,true,true,true,true,true,true,false,false,false,false] rfl rfl (any_of HT_.out (by kernel_rfl)) (fun _ _ _ h => h) (Or.inl ⟨by rfl, ?_⟩) ?_ ?_
            rotate_left
            ·intro w'
             go_simp
             with_reducible rfl
            rotate_left
            ·simp only [Act.put, List.setIfInBounds_toArray, List.set_cons_zero, List.set_cons_succ, i64_w, i32_w]
             rfl
            refine pure_ (i := 16) (N := some 46) (v := ?_) (a' := ?_) #[true,true,true,true,true,true,true,true,true,true,true,true,true,true,true,true,true,false,false,false] rfl rfl (any_of HT_.out (by kernel_rfl)) (fun _ _ _ h => h) (Or.inl ⟨by rfl, ?_⟩) ?_ ?_
            rotate_left
            ·intro w'
             go_simp
             with_reducible rfl
            rotate_left
            ·simp only [Act.put, List.setIfInBounds_toArray, List.set_cons_zero, List.set_cons_succ, i64_w, i32_w]
             rfl
            refine pure_ (i := 17) (N := some 47) (v := ?_) (a' := ?_) #[true,true,true,true,true,true,true,true,true,true,true,true,true,true,true,true,true,true,false,false] rfl rfl (any_of HT_.out (by kernel_rfl)) (fun _ _ _ h => h) (Or.inl ⟨by rfl, ?_⟩) ?_ ?_
            rotate_left
            ·intro w'
             go_simp
             with_reducible rfl
            rotate_left
            ·simp only [Act.put, List.setIfInBounds_toArray, List.set_cons_zero, List.set_cons_succ, i64_w, i32_w]
             rfl
            refine pure_ (i := 18) (N := some 48) (v := ?_) (a' := ?_) #[true,true,true,true,true,true,true,true,true,true,true,true,true,true,true,true,true,true,true,false] rfl rfl (any_of HT_.out (by kernel_rfl)) (fun _ _ _ h => h) (Or.inl ⟨by rfl, ?_⟩) ?_ ?_
            rotate_left
            ·intro w'
             go_simp
             with_reducible rfl
            rotate_left
            ·simp only [Act.put, List.setIfInBounds_toArray, List.set_cons_zero, List.set_cons_succ, i64_w, i32_w]
             rfl
            refine last_ (i := 19) (N := none) #[true,true,true,true,true,true,true,true,true,true,true,true,true,true,true,true,true,true,true,true] rfl rfl (one_of HT_.out (by kernel_rfl)) (by decide) (fun K hK => ?_)
            refine skip_ (w1 := ?_) (by rfl) rfl ?_ ?_
            rotate_left
            ·go_simp
             rfl
            refine hK.out _ _ ?_
            clear hK K
            refine done_ (done_of HT_.out (by kernel_rfl)) ?_
            try go_wp2
            go_roundg k1
            case measure => have := HK1.out;omega
            case rel => exact ⟨(y369), (wrap64 (x8_1 + 1)), (by first | rfl | (simp;done) | (simp [*];done)), H', ⟨by have := HK1.out;omega⟩, ⟨by (with_reducible repeat (first | apply Kd.R_alloc | apply Kd.R_drewN | apply Kd.R_drew));exact HQ20.out⟩, ⟨by repeat (first | (with_reducible first | exact HB.out | apply below_alloc | apply pw_below_drewN | apply below_drew1 | refine below_set ?_ GB18.out) | exact HB.out)⟩⟩
           ·rw [if_neg c17] at H
            exact absurd H (by simp)
         ·rw [if_neg c14] at H
          exact absurd H (by simp)
        ·rw [if_neg c13] at H
         have c13b0 : decide (x8_1 < (y359.length : Int)) = false := decide_eq_false c13
         clear c13
         replace H := Option.bind_eq_some_iff.mp H
         obtain ⟨t370, A210, H⟩ := H
         replace H : (some t370) = some r := H
         have A21 := am_ A210
         clear A210
         obtain rfl := Option.some.inj H
         obtain ⟨Ao22, co22, eo22⟩ := Kd.R_slice HO_7.out
         subst eo22
         go_wp2_with (first | ((with_reducible refine gate_callee (f := 40) rfl ?_);refine goesL_ (some 50) rfl rfl Try.func40 (by kernel_rfl) rfl #[.slice Ao22 x7_1.length co22] rfl z5_ ?_;(with_reducible refine (vernierref04_Cut.calls k1 (fun k_ => some k_ = (.slice Ao22 x7_1.length co22 : Value).ownBlock) (.slice Ao22 x7_1.length co22) x7_1 t370 w _ ?side1 ?side2 A21.out).mono ?_);(case side1 => repeat (first | (with_reducible first | exact HB.out | apply below_alloc | apply pw_below_drewN | apply below_drew1) | exact HB.out));(case side2 => exact Kd.R_tight rfl HO_7.out);rintro e w23 ⟨v371, rfl, ho0, hb, hkp⟩;refine ⟨_, rfl, ?_⟩;have n0_ := am_ (Kd.R_mono (ok' := fun k_ => True) ho0 (fun k_ hk_ => trivial));have n1_ := am_ (hb);clear HB;clear HO_7;have HO372 := n0_;have HB := n1_;clear n0_ n1_;(try clear hb);(try clear hkp);(try clear ho0)))
         go_ret
         exact ⟨_, by first | rfl | (simp [errW_none, errW_some] <;> rfl) | (simp only [← hji4];first | rfl | (simp [errW_none, errW_some] <;> rfl)) | (simp [*, errW_none, errW_some] <;> rfl), by (with_reducible repeat (first | apply Kd.R_alloc | apply Kd.R_drewN | apply Kd.R_drew));exact HO372.out, z3_ HB.out⟩
     ·rw [if_neg c9] at H
      exact absurd H (by simp)
    ·rw [if_neg c8] at H
     exact absurd H (by simp)
   ·rw [if_neg c6] at H
    exact absurd H (by simp)
  ·rw [if_neg c5] at H
   exact absurd H (by simp)
def vernierref04_Word.l0 : Nat → List Int → Int → Int → Option (Int)
 | 0, _, _, _ => none
 | k + 1, x0, x3, x4 => if x4 ≥ 0 then ((vernierref04_digit.f x0 x4).bind fun t373 => (vernierref04_Word.l0 k x0 (IntKind.u64.wrap ((IntKind.u64.wrap (x3 * 16777216)) + (IntKind.u64.wrap (t373)))) (wrap64 (x4 - 1)))) else (some x3)
def vernierref04_Word.f (k : Nat) (l0 : List Int) : Option (Int) := vernierref04_Word.l0 k l0 0 2
theorem vernierref04_Word.mono_l : ∀ k, (∀ y0 y1 y2, LeO (vernierref04_Word.l0 k y0 y1 y2) (vernierref04_Word.l0 (k + 1) y0 y1 y2))
 | 0 => fun _ _ _ r h => by simp [vernierref04_Word.l0] at h
 | k + 1 => by
  have ih0 := vernierref04_Word.mono_l k
  ·intro y0 y1 y2
   unfold vernierref04_Word.l0
   repeat' first
   | (with_reducible exact ih0 _ _ _)
   | (with_reducible exact LeO.refl _)
   | (with_reducible exact LeO.none _)
   | (with_reducible refine LeO.ite ?_ ?_)
   | (with_reducible refine LeO.bind ?_ (fun _ => ?_))
   | exact ih0 _ _ _
   | exact LeO.none _
   | refine LeO.ite ?_ ?_
   | refine LeO.bind ?_ (fun _ => ?_)
theorem vernierref04_Word.mono : ∀ a0 k, LeO (vernierref04_Word.f k a0) (vernierref04_Word.f (k + 1) a0) := by
 intro a0 k
 have ih0 := vernierref04_Word.mono_l k
 unfold vernierref04_Word.f
 repeat' first
   | (with_reducible exact ih0 _ _ _)
   | (with_reducible exact LeO.refl _)
   | (with_reducible exact LeO.none _)
   | (with_reducible refine LeO.ite ?_ ?_)
   | (with_reducible refine LeO.bind ?_ (fun _ => ?_))
   | exact ih0 _ _ _
   | exact LeO.none _
   | refine LeO.ite ?_ ?_
   | refine LeO.bind ?_ (fun _ => ?_)
set_option maxHeartbeats 8000000 in
set_option maxRecDepth 100000 in
theorem vernierref04_Word.calls (k : Nat) (A0 : Option Addr) (c0 : Nat) (l0 : List Int) (r : Int) (w : World) (hr0 : Kd.C (Kd.int .i64) w A0 l0.length l0) (hc0 : l0.length ≤ c0) (h : vernierref04_Word.f k l0 = some r) :
  Calls Try.prog 46 #[.slice A0 l0.length c0] w fun e w' => e = .returned (.int .u64 r) ∧ Drawn0 w w' := by
 have HR0 := am_ hr0
 have HC0 := am_ hc0
 clear hr0 hc0
 have H : (vernierref04_Word.l0 k l0 0 2) = some r := h
 clear h
 have H' := am_ H
 clear H
 go_enter Try.func46, Try.ntmps46
 go_wp2
 go_loopg [3, 4] k (fun kq v3 v4 w' => ∃ (x3_1 : Int) (x4_1 : Int), v3 = .int .u64 x3_1 ∧ v4 = .int .i64 x4_1 ∧ Aside0 (vernierref04_Word.l0 kq l0 x3_1 x4_1 = some r) ∧ Aside0 (kq ≤ k) ∧ Drawn0 w w')
 case atStart => exact ⟨(0), (2), (by first | rfl | (simp;done) | (simp [*];done)), (by first | rfl | (simp;done) | (simp [*];done)), H', ⟨Nat.le_refl _⟩, by repeat (first | exact Drawn0.refl _ | apply Drawn0.step)⟩
 case round =>
  clear H'
  obtain ⟨x3_1, x4_1, rfl, rfl, HA, HK1, ⟨m1, rfl⟩⟩ := hrel
  cases gk with
  | zero => exact absurd HA.out (by simp [vernierref04_Word.l0])
  | succ k1 =>
   have H := HA.out
   clear HA
   simp only [vernierref04_Word.l0] at H
   by_cases c2 : x4_1 ≥ 0
   ·rw [if_pos c2] at H
    have c2b0 : decide (0 ≤ x4_1) = true := decide_eq_true c2
    clear c2
    replace H := Option.bind_eq_some_iff.mp H
    obtain ⟨t373, A30, H⟩ := H
    replace H : (vernierref04_Word.l0 k1 l0 (IntKind.u64.wrap ((IntKind.u64.wrap (x3_1 * 16777216)) + (IntKind.u64.wrap (t373)))) (wrap64 (x4_1 - 1))) = some r := H
    have A3 := am_ A30
    clear A30
    have H' := am_ H
    clear H
    go_wp2_with (first | ((with_reducible refine gate_callee (f := 63) rfl ?_);refine goesL_ (some 13) rfl rfl Try.func63 (by kernel_rfl) rfl #[.slice A0 l0.length c0,.int .i64 x4_1] rfl z5_ ?_;(with_reducible refine (vernierref04_digit.calls _ _ l0 x4_1 t373 _ ?side1 ?side2 A3.out).mono ?_);(case side1 => repeat (first | exact HR0.out | (with_reducible refine Kd.C_alloc ?_ _) | (with_reducible refine Kd.C_drewN ?_ _) | (with_reducible refine Kd.C_drew ?_)));(case side2 => exact HC0.out);rintro e w' ⟨rfl, ⟨nd, rfl⟩⟩;refine ⟨_, rfl, ?_⟩))
    go_roundg k1
    case measure => have := HK1.out;omega
    case rel => exact ⟨(IntKind.u64.wrap ((IntKind.u64.wrap (x3_1 * 16777216)) + (IntKind.u64.wrap (t373)))), (wrap64 (x4_1 - 1)), (by first | rfl | (simp;done) | (simp [*];done)), (by first | rfl | (simp;done) | (simp [*];done)), H', ⟨by have := HK1.out;omega⟩, by repeat (first | exact Drawn0.refl _ | apply Drawn0.step)⟩
   ·rw [if_neg c2] at H
    have c2b0 : decide (0 ≤ x4_1) = false := decide_eq_false c2
    clear c2
    obtain rfl := Option.some.inj H
    go_wp2
    go_ret
    exact ⟨by first | rfl | (simp;done) | (simp [*];done), by repeat (first | exact Drawn0.refl _ | apply Drawn0.step)⟩
mutual
def vernierref07_Exactly.j0 : Nat → List Int → Bool → Int → Int → Bool → Int → Int → Int → Bool → Option (Int × Bool × Int × Int × Int × Bool)
 | 0, _, _, _, _, _, _, _, _, _ => none
 | k + 1, x1, x3, x9, x378000, x378001, x378002, x378003, x378004, x378005 => if x9 > 128 then ((vernierref04_Low.f k x1 (wrap64 (x9 - 128))).bind fun t381 => (if x3 = true then (vernierref07_Exactly.j1 k x1 x9 x378000 x378001 x378002 x378003 x378004 true) else (vernierref07_Exactly.j1 k x1 x9 x378000 x378001 x378002 x378003 x378004 t381))) else ((vernierref04_Word.f k x1).bind fun t390 => ((vernierref04_Shr.f k x1 64).bind fun t391 => ((vernierref04_Word.f k t391).bind fun t394 => (some (x378000, x378001, x378002, t394, t390, x378005)))))
def vernierref07_Exactly.j1 : Nat → List Int → Int → Int → Bool → Int → Int → Int → Bool → Option (Int × Bool × Int × Int × Int × Bool)
 | 0, _, _, _, _, _, _, _, _ => none
 | k + 1, x1, x9, x378000, x378001, x378002, x378003, x378004, x378005 => (vernierref04_Shr.f k x1 (wrap64 (x9 - 128))).bind fun t382 => ((vernierref04_Word.f k t382).bind fun t385 => ((vernierref04_Shr.f k t382 64).bind fun t386 => ((vernierref04_Word.f k t386).bind fun t389 => (some (x378000, x378001, x378002, t389, t385, x378005)))))
end
def vernierref07_Exactly.f (k : Nat) (a0 : Bool) (l1 : List Int) (a2 : Int) (a3 : Bool) : Option (Int × Bool × Int × Int × Int × Bool) := (vernierref04_Bits.f k l1).bind fun t375 => (if t375 = 0 then (some (0, false,0, 0, 0, false)) else ((vernierref07_Held.f (wrap64 ((wrap64 (a2 + t375)) - 1))).bind fun t376 => (if t375 < 128 then ((vernierref04_Shl.f k l1 (wrap64 (128 - t375))).bind fun t378 => (vernierref07_Exactly.j0 k t378 a3 t375 1 a0 t376 0 0 a3)) else (vernierref07_Exactly.j0 k l1 a3 t375 1 a0 t376 0 0 a3))))
theorem vernierref07_Exactly.mono_l : ∀ k, (∀ y0 y1 y2 y3 y4 y5 y6 y7 y8, LeO (vernierref07_Exactly.j0 k y0 y1 y2 y3 y4 y5 y6 y7 y8) (vernierref07_Exactly.j0 (k + 1) y0 y1 y2 y3 y4 y5 y6 y7 y8)) ∧ (∀ y0 y1 y2 y3 y4 y5 y6 y7, LeO (vernierref07_Exactly.j1 k y0 y1 y2 y3 y4 y5 y6 y7) (vernierref07_Exactly.j1 (k + 1) y0 y1 y2 y3 y4 y5 y6 y7))
 | 0 => ⟨fun _ _ _ _ _ _ _ _ _ r h => by simp [vernierref07_Exactly.j0] at h, fun _ _ _ _ _ _ _ _ r h => by simp [vernierref07_Exactly.j1] at h⟩
 | k + 1 => by
  obtain ⟨ih0, ih1⟩ := vernierref07_Exactly.mono_l k
  refine ⟨?_, ?_⟩
  ·intro y0 y1 y2 y3 y4 y5 y6 y7 y8
   unfold vernierref07_Exactly.j0
   repeat' first
   | (with_reducible exact ih0 _ _ _ _ _ _ _ _ _)
   | (with_reducible exact ih1 _ _ _ _ _ _ _ _)
   | (with_reducible exact vernierref04_Bits.mono _ _)
   | (with_reducible exact vernierref04_Low.mono _ _ _)
   | (with_reducible exact vernierref04_Shl.mono _ _ _)
   | (with_reducible exact vernierref04_Shr.mono _ _ _)
   | (with_reducible exact vernierref04_Word.mono _ _)
   | (with_reducible exact LeO.refl _)
   | (with_reducible exact LeO.none _)
   | (with_reducible refine LeO.ite ?_ ?_)
   | (with_reducible refine LeO.bind ?_ (fun _ => ?_))
   | exact ih0 _ _ _ _ _ _ _ _ _
   | exact ih1 _ _ _ _ _ _ _ _
   | exact vernierref04_Bits.mono _ _
   | exact vernierref04_Low.mono _ _ _
   | exact vernierref04_Shl.mono _ _ _
   | exact vernierref04_Shr.mono _ _ _
   | exact vernierref04_Word.mono _ _
   | exact LeO.none _
   | refine LeO.ite ?_ ?_
   | refine LeO.bind ?_ (fun _ => ?_)
  ·intro y0 y1 y2 y3 y4 y5 y6 y7
   unfold vernierref07_Exactly.j1
   repeat' first
   | (with_reducible exact ih0 _ _ _ _ _ _ _ _ _)
   | (with_reducible exact ih1 _ _ _ _ _ _ _ _)
   | (with_reducible exact vernierref04_Bits.mono _ _)
   | (with_reducible exact vernierref04_Low.mono _ _ _)
   | (with_reducible exact vernierref04_Shl.mono _ _ _)
   | (with_reducible exact vernierref04_Shr.mono _ _ _)
   | (with_reducible exact vernierref04_Word.mono _ _)
   | (with_reducible exact LeO.refl _)
   | (with_reducible exact LeO.none _)
   | (with_reducible refine LeO.ite ?_ ?_)
   | (with_reducible refine LeO.bind ?_ (fun _ => ?_))
   | exact ih0 _ _ _ _ _ _ _ _ _
   | exact ih1 _ _ _ _ _ _ _ _
   | exact vernierref04_Bits.mono _ _
   | exact vernierref04_Low.mono _ _ _
   | exact vernierref04_Shl.mono _ _ _
   | exact vernierref04_Shr.mono _ _ _
   | exact vernierref04_Word.mono _ _
   | exact LeO.none _
   | refine LeO.ite ?_ ?_
   | refine LeO.bind ?_ (fun _ => ?_)
theorem vernierref07_Exactly.mono : ∀ a0 a1 a2 a3 k, LeO (vernierref07_Exactly.f k a0 a1 a2 a3) (vernierref07_Exactly.f (k + 1) a0 a1 a2 a3) := by
 intro a0 a1 a2 a3 k
 obtain ⟨ih0, ih1⟩ := vernierref07_Exactly.mono_l k
 unfold vernierref07_Exactly.f
 repeat' first
   | (with_reducible exact ih0 _ _ _ _ _ _ _ _ _)
   | (with_reducible exact ih1 _ _ _ _ _ _ _ _)
   | (with_reducible exact vernierref04_Bits.mono _ _)
   | (with_reducible exact vernierref04_Low.mono _ _ _)
   | (with_reducible exact vernierref04_Shl.mono _ _ _)
   | (with_reducible exact vernierref04_Shr.mono _ _ _)
   | (with_reducible exact vernierref04_Word.mono _ _)
   | (with_reducible exact LeO.refl _)
   | (with_reducible exact LeO.none _)
   | (with_reducible refine LeO.ite ?_ ?_)
   | (with_reducible refine LeO.bind ?_ (fun _ => ?_))
   | exact ih0 _ _ _ _ _ _ _ _ _
   | exact ih1 _ _ _ _ _ _ _ _
   | exact vernierref04_Bits.mono _ _
   | exact vernierref04_Low.mono _ _ _
   | exact vernierref04_Shl.mono _ _ _
   | exact vernierref04_Shr.mono _ _ _
   | exact vernierref04_Word.mono _ _
   | exact LeO.none _
   | refine LeO.ite ?_ ?_
   | refine LeO.bind ?_ (fun _ => ?_)
set_option maxHeartbeats 8000000 in
set_option maxRecDepth 100000 in
theorem vernierref07_Exactly.calls (k : Nat) (a0 : Bool) (P1_ : Nat → Prop) (u9000_ : Value) (l1 : List Int) (a2 : Int) (a3 : Bool) (r1 : Int) (r2 : Bool) (r3 : Int) (r4 : Int) (r5 : Int) (r6 : Bool) (w0 w : World) (hB : Below w0.heap.size w0 w) (ho1 : Kd.R (Kd.int .i64) 3 w w0.heap.size P1_ u9000_ l1) (h : vernierref07_Exactly.f k a0 l1 a2 a3 = some (r1, r2, r3, r4, r5, r6)) :
  Calls Try.prog 27 #[.bool a0, u9000_,.int .i64 a2,.bool a3] w fun e w' => e = .returned (.agg #[.int .i64 r1,.bool r2,.int .i64 r3,.int .u64 r4,.int .u64 r5,.bool r6]) ∧ Below w0.heap.size w0 w' ∧ Kept w w' (fun k_ => P1_ k_) := by
 have hu27 := Try.underlying27
 have HO1 := am_ (show Kd.R (Kd.int .i64) 3 w w0.heap.size (fun k_ => (P1_ k_ ∨ w.heap.size ≤ k_)) u9000_ l1 from Kd.R_mono ho1 (fun k_ hk => (.inl hk)))
 have HK := am_ (Kept.refl w (fun k_ => P1_ k_))
 have HW0 := am_ hB.size
 have HB := am_ hB
 clear hB
 have H : ((vernierref04_Bits.f k l1).bind fun t375 => (if t375 = 0 then (some (0, false,0, 0, 0, false)) else ((vernierref07_Held.f (wrap64 ((wrap64 (a2 + t375)) - 1))).bind fun t376 => (if t375 < 128 then ((vernierref04_Shl.f k l1 (wrap64 (128 - t375))).bind fun t378 => (vernierref07_Exactly.j0 k t378 a3 t375 1 a0 t376 0 0 a3)) else (vernierref07_Exactly.j0 k l1 a3 t375 1 a0 t376 0 0 a3))))) = some (r1, r2, r3, r4, r5, r6) := h
 clear h
 replace H := Option.bind_eq_some_iff.mp H
 obtain ⟨t375, A50, H⟩ := H
 replace H : (if t375 = 0 then (some (0, false,0, 0, 0, false)) else ((vernierref07_Held.f (wrap64 ((wrap64 (a2 + t375)) - 1))).bind fun t376 => (if t375 < 128 then ((vernierref04_Shl.f k l1 (wrap64 (128 - t375))).bind fun t378 => (vernierref07_Exactly.j0 k t378 a3 t375 1 a0 t376 0 0 a3)) else (vernierref07_Exactly.j0 k l1 a3 t375 1 a0 t376 0 0 a3)))) = some (r1, r2, r3, r4, r5, r6) := H
 have A5 := am_ A50
 clear A50
 by_cases c6 : t375 = 0
 ·rw [if_pos c6] at H
  have c6b0 : (t375 == 0) = true := beq_iff_eq.mpr c6
  have c6b1 : (t375 != 0) = false := bne_eq_false_iff_eq.mpr c6
  clear c6
  simp only [Option.some.injEq, Prod.mk.injEq] at H
  obtain ⟨rfl, rfl, rfl, rfl, rfl, rfl⟩ := H
  go_enter Try.func27, Try.ntmps27
  go_wp2_with (first | ((with_reducible refine gate_dst (N := 8) rfl ?_);refine box_event ?hg (N := 8) ?hd (cs := #[.int .i64 0,.bool false,.int .i64 0,.int .u64 0,.int .u64 0,.bool false]) (t := 27) ?hr ?_;(case hd => rfl);(case hg => rfl);(case hr => first | (go_simp;done) | (go_simp;rfl));intro gb374 hg w7 hbox hb;have n0_ := am_ (Kd.R_below (by (with_reducible repeat (first | apply Kd.R_alloc | apply Kd.R_drewN | apply Kd.R_drew));exact HO1.out) hb);have n1_ := am_ (Kept.below (S := (fun k_ => P1_ k_)) (by repeat (first | (with_reducible first | exact HK.out | apply Kept.alloc | apply Kept.drewN | apply Kept.drew) | exact HK.out)) hb);have n2_ := am_ (below_step (z3_ HB.out) hb);have n3_ := am_ (hbox);have n4_ := am_ ((by rw [hg];exact (by first | exact HK.out.1 | exact (show Kept w _ (fun k_ => P1_ k_) from by repeat (first | (with_reducible first | exact HK.out | apply Kept.alloc | apply Kept.drewN | apply Kept.drew) | exact HK.out)).1) : w.heap.size ≤ gb374));have n5_ := am_ ((by rw [hg];exact (below_size (z3_ HB.out)) : w0.heap.size ≤ gb374));clear HO1;clear HK;clear HB;have HO1 := n0_;have HK := n1_;have HB := n2_;have BK374 := n3_;have GW374 := n4_;have GE374 := n5_;clear n0_ n1_ n2_ n3_ n4_ n5_;clear hb hbox hg;obtain ⟨Ao8, co8, eo8⟩ := Kd.R_slice HO1.out;subst eo8) | ((with_reducible refine gate_callee (f := 41) rfl ?_);refine goesL_ (some 13) rfl rfl Try.func41 (by kernel_rfl) rfl #[.slice Ao8 l1.length co8] rfl z5_ ?_;(with_reducible refine (vernierref04_Bits.calls k _ _ l1 t375 _ ?side1 ?side2 A5.out).mono ?_);(case side1 => repeat (first | exact (Kd.R_reads' HO1.out).2.2 | (with_reducible refine Kd.C_alloc ?_ _) | (with_reducible refine Kd.C_drewN ?_ _) | (with_reducible refine Kd.C_drew ?_)));(case side2 => exact (Kd.R_reads' HO1.out).2.1);rintro e w' ⟨rfl, ⟨nd, rfl⟩⟩;refine ⟨_, rfl, ?_⟩;(try (rw [drewN_self w7];generalize hq_ : World.drewN w7 _ = w7;have n0_ : Aside0 (Kd.R (Kd.int .i64) 3 w7 w0.heap.size (fun k_ => (P1_ k_ ∨ w.heap.size ≤ k_)) (.slice Ao8 l1.length co8) l1) := ⟨by rw [← hq_];exact (by (with_reducible repeat (first | apply Kd.R_alloc | apply Kd.R_drewN | apply Kd.R_drew));exact HO1.out)⟩;have n1_ : Aside0 (w7.heap[gb374]? = some (.cells #[.int .i64 0,.bool false,.int .i64 0,.int .u64 0,.int .u64 0,.bool false] 27 (0, 0))) := ⟨by rw [← hq_];exact (z1_ BK374.out)⟩;have n2_ : Aside0 (Kept w w7 (fun k_ => P1_ k_)) := ⟨by rw [← hq_];exact (by repeat (first | (with_reducible first | exact HK.out | apply Kept.alloc | apply Kept.drewN | apply Kept.drew | refine Kept.setCell ?_ (.inr GW374.out) _) | exact HK.out))⟩;have n3_ : Aside0 (Below w0.heap.size w0 w7) := ⟨by rw [← hq_];exact (z3_ HB.out)⟩;clear HO1 BK374 HK HB hq_;have HO1 := n0_;have BK374 := n1_;have HK := n2_;have HB := n3_;clear n0_ n1_ n2_ n3_));obtain ⟨hcz9_0, hcz9_1, hcz9_2, hcz9_3, hcz9_4, hcz9_5, hfz9_0⟩ := zc6_ BK374.out))
  refine bodyPost_ret (results_cell_row rfl _ _ gb374 27 #[.int .i64 0,.bool false,.int .i64 0,.int .u64 0,.int .u64 0,.bool false] (0, 0) _ rfl (by refine z2_ ?_;refine blk_put (cs := #[.int .i64 0,.bool false,.int .i64 0,.int .u64 0,.int .u64 0,.bool false]) ?_ 5 _ rfl;refine z2_ ?_;refine blk_put (cs := #[.int .i64 0,.bool false,.int .i64 0,.int .u64 0,.int .u64 0,.bool false]) ?_ 4 _ rfl;refine z2_ ?_;refine blk_put (cs := #[.int .i64 0,.bool false,.int .i64 0,.int .u64 0,.int .u64 0,.bool false]) ?_ 3 _ rfl;refine z2_ ?_;refine blk_put (cs := #[.int .i64 0,.bool false,.int .i64 0,.int .u64 0,.int .u64 0,.bool false]) ?_ 2 _ rfl;refine z2_ ?_;refine blk_put (cs := #[.int .i64 0,.bool false,.int .i64 0,.int .u64 0,.int .u64 0,.bool false]) ?_ 1 _ rfl;refine z2_ ?_;refine blk_put (cs := #[.int .i64 0,.bool false,.int .i64 0,.int .u64 0,.int .u64 0,.bool false]) ?_ 0 _ rfl;refine z2_ ?_;exact BK374.out) Try.underlying27 rfl (by kernel_rfl)) rfl ?_
  exact ⟨z6_, z3_ HB.out, by repeat (first | (with_reducible first | exact HK.out | apply Kept.alloc | apply Kept.drewN | apply Kept.drew | refine Kept.setCell ?_ (.inr GW374.out) _) | exact HK.out)⟩
 ·rw [if_neg c6] at H
  have c6b0 : (t375 == 0) = false := beq_eq_false_iff_ne.mpr c6
  have c6b1 : (t375 != 0) = true := bne_iff_ne.mpr c6
  replace H := Option.bind_eq_some_iff.mp H
  obtain ⟨t376, A100, H⟩ := H
  replace H : (if t375 < 128 then ((vernierref04_Shl.f k l1 (wrap64 (128 - t375))).bind fun t378 => (vernierref07_Exactly.j0 k t378 a3 t375 1 a0 t376 0 0 a3)) else (vernierref07_Exactly.j0 k l1 a3 t375 1 a0 t376 0 0 a3)) = some (r1, r2, r3, r4, r5, r6) := H
  have A10 := am_ A100
  clear A100
  have HC11 := am_ H
  clear H
  go_enter Try.func27, Try.ntmps27
  go_upto_if 26 with (first | ((with_reducible refine gate_dst (N := 8) rfl ?_);refine box_event ?hg (N := 8) ?hd (cs := #[.int .i64 0,.bool false,.int .i64 0,.int .u64 0,.int .u64 0,.bool false]) (t := 27) ?hr ?_;(case hd => rfl);(case hg => rfl);(case hr => first | (go_simp;done) | (go_simp;rfl));intro gb374 hg w12 hbox hb;have n0_ := am_ (Kd.R_below (by (with_reducible repeat (first | apply Kd.R_alloc | apply Kd.R_drewN | apply Kd.R_drew));exact HO1.out) hb);have n1_ := am_ (Kept.below (S := (fun k_ => P1_ k_)) (by repeat (first | (with_reducible first | exact HK.out | apply Kept.alloc | apply Kept.drewN | apply Kept.drew) | exact HK.out)) hb);have n2_ := am_ (below_step (z3_ HB.out) hb);have n3_ := am_ (hbox);have n4_ := am_ ((by rw [hg];exact (by first | exact HK.out.1 | exact (show Kept w _ (fun k_ => P1_ k_) from by repeat (first | (with_reducible first | exact HK.out | apply Kept.alloc | apply Kept.drewN | apply Kept.drew) | exact HK.out)).1) : w.heap.size ≤ gb374));have n5_ := am_ ((by rw [hg];exact (below_size (z3_ HB.out)) : w0.heap.size ≤ gb374));clear HO1;clear HK;clear HB;have HO1 := n0_;have HK := n1_;have HB := n2_;have BK374 := n3_;have GW374 := n4_;have GE374 := n5_;clear n0_ n1_ n2_ n3_ n4_ n5_;clear hb hbox hg;obtain ⟨Ao13, co13, eo13⟩ := Kd.R_slice HO1.out;subst eo13) | ((with_reducible refine gate_callee (f := 41) rfl ?_);refine goesL_ (some 13) rfl rfl Try.func41 (by kernel_rfl) rfl #[.slice Ao13 l1.length co13] rfl z5_ ?_;(with_reducible refine (vernierref04_Bits.calls k _ _ l1 t375 _ ?side1 ?side2 A5.out).mono ?_);(case side1 => repeat (first | exact (Kd.R_reads' HO1.out).2.2 | (with_reducible refine Kd.C_alloc ?_ _) | (with_reducible refine Kd.C_drewN ?_ _) | (with_reducible refine Kd.C_drew ?_)));(case side2 => exact (Kd.R_reads' HO1.out).2.1);rintro e w' ⟨rfl, ⟨nd, rfl⟩⟩;refine ⟨_, rfl, ?_⟩;(try (rw [drewN_self w12];generalize hq_ : World.drewN w12 _ = w12;have n0_ : Aside0 (Kd.R (Kd.int .i64) 3 w12 w0.heap.size (fun k_ => (P1_ k_ ∨ w.heap.size ≤ k_)) (.slice Ao13 l1.length co13) l1) := ⟨by rw [← hq_];exact (by (with_reducible repeat (first | apply Kd.R_alloc | apply Kd.R_drewN | apply Kd.R_drew));exact HO1.out)⟩;have n1_ : Aside0 (w12.heap[gb374]? = some (.cells #[.int .i64 0,.bool false,.int .i64 0,.int .u64 0,.int .u64 0,.bool false] 27 (0, 0))) := ⟨by rw [← hq_];exact (z1_ BK374.out)⟩;have n2_ : Aside0 (Kept w w12 (fun k_ => P1_ k_)) := ⟨by rw [← hq_];exact (by repeat (first | (with_reducible first | exact HK.out | apply Kept.alloc | apply Kept.drewN | apply Kept.drew | refine Kept.setCell ?_ (.inr GW374.out) _) | exact HK.out))⟩;have n3_ : Aside0 (Below w0.heap.size w0 w12) := ⟨by rw [← hq_];exact (z3_ HB.out)⟩;clear HO1 BK374 HK HB hq_;have HO1 := n0_;have BK374 := n1_;have HK := n2_;have HB := n3_;clear n0_ n1_ n2_ n3_))) | ((with_reducible refine gate_callee (f := 42) rfl ?_);refine goesL_ (some 22) rfl rfl Try.func42 (by kernel_rfl) rfl #[.int .i64 (wrap64 ((wrap64 (a2 + t375)) - 1))] rfl z5_ ?_;(with_reducible refine (vernierref07_Held.calls (wrap64 ((wrap64 (a2 + t375)) - 1)) t376 _ A10.out).mono ?_);rintro e w' ⟨rfl, ⟨nd, rfl⟩⟩;refine ⟨_, rfl, ?_⟩;(try (rw [drewN_self w12];generalize hq_ : World.drewN w12 _ = w12;have n0_ : Aside0 (Kd.R (Kd.int .i64) 3 w12 w0.heap.size (fun k_ => (P1_ k_ ∨ w.heap.size ≤ k_)) (.slice Ao13 l1.length co13) l1) := ⟨by rw [← hq_];exact (by (with_reducible repeat (first | apply Kd.R_alloc | apply Kd.R_drewN | apply Kd.R_drew));exact HO1.out)⟩;have n1_ : Aside0 (w12.heap[gb374]? = some (.cells #[.int .i64 0,.bool false,.int .i64 0,.int .u64 0,.int .u64 0,.bool false] 27 (0, 0))) := ⟨by rw [← hq_];exact (z1_ BK374.out)⟩;have n2_ : Aside0 (Kept w w12 (fun k_ => P1_ k_)) := ⟨by rw [← hq_];exact (by repeat (first | (with_reducible first | exact HK.out | apply Kept.alloc | apply Kept.drewN | apply Kept.drew | refine Kept.setCell ?_ (.inr GW374.out) _) | exact HK.out))⟩;have n3_ : Aside0 (Below w0.heap.size w0 w12) := ⟨by rw [← hq_];exact (z3_ HB.out)⟩;clear HO1 BK374 HK HB hq_;have HO1 := n0_;have BK374 := n1_;have HK := n2_;have HB := n3_;clear n0_ n1_ n2_ n3_))) | ((with_reducible refine gate_dst (N := 10) rfl ?_);refine box_event ?hg (N := 10) ?hd (cs := #[.int .i64 0,.bool false,.int .i64 0,.int .u64 0,.int .u64 0,.bool false]) (t := 27) ?hr ?_;(case hd => rfl);(case hg => rfl);(case hr => first | (go_simp;done) | (go_simp;rfl));intro gb377 hg w14 hbox hb;have n0_ := am_ (Kd.R_below (by (with_reducible repeat (first | apply Kd.R_alloc | apply Kd.R_drewN | apply Kd.R_drew));exact HO1.out) hb);have n1_ := am_ (blk_below (g := gb374) (z1_ BK374.out) hb);have n2_ := am_ (Kept.below (S := (fun k_ => P1_ k_)) (by repeat (first | (with_reducible first | exact HK.out | apply Kept.alloc | apply Kept.drewN | apply Kept.drew | refine Kept.setCell ?_ (.inr GW374.out) _) | exact HK.out)) hb);have n3_ := am_ (below_step (z3_ HB.out) hb);have n4_ := am_ (hbox);have n5_ := am_ ((by rw [hg];exact (by first | exact HK.out.1 | exact (show Kept w _ (fun k_ => P1_ k_) from by repeat (first | (with_reducible first | exact HK.out | apply Kept.alloc | apply Kept.drewN | apply Kept.drew | refine Kept.setCell ?_ (.inr GW374.out) _) | exact HK.out)).1) : w.heap.size ≤ gb377));have n6_ := am_ ((by rw [hg];exact (below_size (z3_ HB.out)) : w0.heap.size ≤ gb377));have n7_ := am_ ((by rw [hg];exact Nat.ne_of_lt (blk_lt (g := gb374) (o := .cells #[.int .i64 0,.bool false,.int .i64 0,.int .u64 0,.int .u64 0,.bool false] 27 (0, 0)) (z1_ BK374.out)) : gb374 ≠ gb377));have n8_ := am_ ((by rw [hg];exact Nat.ne_of_gt (blk_lt (g := gb374) (o := .cells #[.int .i64 0,.bool false,.int .i64 0,.int .u64 0,.int .u64 0,.bool false] 27 (0, 0)) (z1_ BK374.out)) : gb377 ≠ gb374));clear HO1;clear BK374;clear HK;clear HB;have HO1 := n0_;have BK374 := n1_;have HK := n2_;have HB := n3_;have BK377 := n4_;have GW377 := n5_;have GE377 := n6_;have NB374_377 := n7_;have NB377_374 := n8_;clear n0_ n1_ n2_ n3_ n4_ n5_ n6_ n7_ n8_;clear hb hbox hg;have hnb15 := NB377_374.out;have hnc15 := NB374_377.out;obtain ⟨hcz16_0, hcz16_1, hcz16_2, hcz16_3, hcz16_4, hcz16_5, hfz16_0⟩ := zc6_ BK377.out))
  (try simp only [Act.put, List.setIfInBounds_toArray, List.set_cons_zero, List.set_cons_succ])
  go_cut [1] (fun v1 wc => ∃ (kq : Nat) (x1_10 : List Int), Aside0 (vernierref07_Exactly.j0 kq x1_10 a3 t375 1 a0 t376 0 0 a3 = some (r1, r2, r3, r4, r5, r6)) ∧ Aside0 (kq ≤ k) ∧ Aside0 (Kd.R (Kd.int .i64) 3 wc w0.heap.size (fun k_ => (P1_ k_ ∨ w.heap.size ≤ k_)) v1 x1_10) ∧ Aside0 (wc.heap[gb374]? = some (.cells #[.int .i64 0,.bool false,.int .i64 0,.int .u64 0,.int .u64 0,.bool false] 27 (0, 0))) ∧ Aside0 (wc.heap[gb377]? = some (.cells #[.int .i64 1,.bool a0,.int .i64 t376,.int .u64 0,.int .u64 0,.bool a3] 27 (0, 0))) ∧ Aside0 (Kept w wc (fun k_ => P1_ k_)) ∧ Aside0 (Below w0.heap.size w0 wc))
  case first =>
   have H := HC11.out
   clear HC11
   by_cases c17 : t375 < 128
   ·rw [if_pos c17] at H
    have c17b0 : decide (t375 < 128) = true := decide_eq_true c17
    clear c17
    (first | rw [c17b0] | (simp only [i64_w, i32_w];rw [c17b0]) | skip)
    replace H := Option.bind_eq_some_iff.mp H
    obtain ⟨t378, A180, H⟩ := H
    replace H : (vernierref07_Exactly.j0 k t378 a3 t375 1 a0 t376 0 0 a3) = some (r1, r2, r3, r4, r5, r6) := H
    have A18 := am_ A180
    clear A180
    have H' := am_ H
    clear H
    go_wp2_with (first | ((with_reducible refine gate_callee (f := 43) rfl ?_);refine goesL_ (some 30) rfl rfl Try.func43 (by kernel_rfl) rfl #[.slice Ao13 l1.length co13,.int .i64 (wrap64 (128 - t375))] rfl z5_ ?_;(with_reducible refine (vernierref04_Shl.calls k _ _ l1 (wrap64 (128 - t375)) t378 _ ?side1 ?side2 A18.out).mono ?_);(case side1 => refine (Kd.R_reads' (e := 3) (base := w0.heap.size) (ok := fun k_ => (P1_ k_ ∨ w.heap.size ≤ k_)) (n := l1.length) (c := co13) ?_).2.2;exact (by (with_reducible repeat (first | apply Kd.R_alloc | apply Kd.R_drewN | apply Kd.R_drew));exact (Kd.R_mono (Kd.R_far (p := ⟨gb377, 5, none⟩) (Kd.R_far (p := ⟨gb377, 4, none⟩) (Kd.R_far (p := ⟨gb377, 3, none⟩) (Kd.R_far (p := ⟨gb377, 2, none⟩) (Kd.R_far (p := ⟨gb377, 1, none⟩) (Kd.R_far (p := ⟨gb377, 0, none⟩) (Kd.R_types HO1.out BK377.out (by decide)) (fun _ hk => hk.2) (.int .i64 1)) (fun _ hk => hk.2) (.bool a0)) (fun _ hk => hk.2) (.int .i64 t376)) (fun _ hk => hk.2) (.int .u64 0)) (fun _ hk => hk.2) (.int .u64 0)) (fun _ hk => hk.2) (.bool a3)) (fun _ h_ => h_.1))));(case side2 => exact (Kd.R_reads' HO1.out).2.1);rintro e w19 ⟨v379, rfl, ho0, hb⟩;refine ⟨_, rfl, ?_⟩;have n0_ := am_ (Kd.R_elder' (by (with_reducible repeat (first | apply Kd.R_alloc | apply Kd.R_drewN | apply Kd.R_drew));exact (Kd.R_mono (Kd.R_far (p := ⟨gb377, 5, none⟩) (Kd.R_far (p := ⟨gb377, 4, none⟩) (Kd.R_far (p := ⟨gb377, 3, none⟩) (Kd.R_far (p := ⟨gb377, 2, none⟩) (Kd.R_far (p := ⟨gb377, 1, none⟩) (Kd.R_far (p := ⟨gb377, 0, none⟩) (Kd.R_types HO1.out BK377.out (by decide)) (fun _ hk => hk.2) (.int .i64 1)) (fun _ hk => hk.2) (.bool a0)) (fun _ hk => hk.2) (.int .i64 t376)) (fun _ hk => hk.2) (.int .u64 0)) (fun _ hk => hk.2) (.int .u64 0)) (fun _ hk => hk.2) (.bool a3)) (fun _ h_ => h_.1))) (Kd.R_base ho0) hb);have n1_ := am_ (Kd.R_lower (Kd.R_new' (Kd.R_newM (M := fun k_ => (P1_ k_ ∨ w.heap.size ≤ k_)) ho0 (show Kept w _ (fun k_ => P1_ k_) from by repeat (first | (with_reducible first | exact HK.out | apply Kept.alloc | apply Kept.drewN | apply Kept.drew | refine Kept.setCell ?_ (.inr GW374.out) _ | refine Kept.setCell ?_ (.inr GW377.out) _) | exact HK.out)).1 (fun k_ h_ => .inr h_)) (Kd.R_lt (by (with_reducible repeat (first | apply Kd.R_alloc | apply Kd.R_drewN | apply Kd.R_drew));exact (Kd.R_mono (Kd.R_far (p := ⟨gb377, 5, none⟩) (Kd.R_far (p := ⟨gb377, 4, none⟩) (Kd.R_far (p := ⟨gb377, 3, none⟩) (Kd.R_far (p := ⟨gb377, 2, none⟩) (Kd.R_far (p := ⟨gb377, 1, none⟩) (Kd.R_far (p := ⟨gb377, 0, none⟩) (Kd.R_types HO1.out BK377.out (by decide)) (fun _ hk => hk.2) (.int .i64 1)) (fun _ hk => hk.2) (.bool a0)) (fun _ hk => hk.2) (.int .i64 t376)) (fun _ hk => hk.2) (.int .u64 0)) (fun _ hk => hk.2) (.int .u64 0)) (fun _ hk => hk.2) (.bool a3)) (fun _ h_ => h_.1))))) (below_size (z3_ HB.out)));have n2_ := am_ (blk_below (g := gb374) (o := .cells #[.int .i64 0,.bool false,.int .i64 0,.int .u64 0,.int .u64 0,.bool false] 27 (0, 0)) (by refine z2_ ?_;refine blk_far ?_ NB374_377.out _;refine z2_ ?_;refine blk_far ?_ NB374_377.out _;refine z2_ ?_;refine blk_far ?_ NB374_377.out _;refine z2_ ?_;refine blk_far ?_ NB374_377.out _;refine z2_ ?_;refine blk_far ?_ NB374_377.out _;refine z2_ ?_;refine blk_far ?_ NB374_377.out _;refine z2_ ?_;exact BK374.out) hb);have n3_ := am_ (blk_below (g := gb377) (o := .cells #[.int .i64 1,.bool a0,.int .i64 t376,.int .u64 0,.int .u64 0,.bool a3] 27 (0, 0)) (by refine z2_ ?_;refine blk_put (cs := #[.int .i64 1,.bool a0,.int .i64 t376,.int .u64 0,.int .u64 0,.bool false]) ?_ 5 _ rfl;refine z2_ ?_;refine blk_put (cs := #[.int .i64 1,.bool a0,.int .i64 t376,.int .u64 0,.int .u64 0,.bool false]) ?_ 4 _ rfl;refine z2_ ?_;refine blk_put (cs := #[.int .i64 1,.bool a0,.int .i64 t376,.int .u64 0,.int .u64 0,.bool false]) ?_ 3 _ rfl;refine z2_ ?_;refine blk_put (cs := #[.int .i64 1,.bool a0,.int .i64 0,.int .u64 0,.int .u64 0,.bool false]) ?_ 2 _ rfl;refine z2_ ?_;refine blk_put (cs := #[.int .i64 1,.bool false,.int .i64 0,.int .u64 0,.int .u64 0,.bool false]) ?_ 1 _ rfl;refine z2_ ?_;refine blk_put (cs := #[.int .i64 0,.bool false,.int .i64 0,.int .u64 0,.int .u64 0,.bool false]) ?_ 0 _ rfl;refine z2_ ?_;exact BK377.out) hb);have n4_ := am_ (Kept.below (S := (fun k_ => P1_ k_)) (by repeat (first | (with_reducible first | exact HK.out | apply Kept.alloc | apply Kept.drewN | apply Kept.drew | refine Kept.setCell ?_ (.inr GW374.out) _ | refine Kept.setCell ?_ (.inr GW377.out) _) | exact HK.out)) hb);have n5_ := am_ (below_step (z3_ HB.out) hb);clear HO1;clear BK374;clear BK377;clear HK;clear HB;have HO1 := n0_;have HO380 := n1_;have BK374 := n2_;have BK377 := n3_;have HK := n4_;have HB := n5_;clear n0_ n1_ n2_ n3_ n4_ n5_;(try clear hb);(try clear ho0)))
    go_meet
    case rel => exact ⟨_, (t378), H', ⟨by first | omega | exact Nat.le_refl _⟩, ⟨by (with_reducible repeat (first | apply Kd.R_alloc | apply Kd.R_drewN | apply Kd.R_drew));exact Kd.R_mono HO380.out (fun _ hk => hk.1.1)⟩, ⟨by refine z2_ ?_;exact BK374.out⟩, ⟨by refine z2_ ?_;exact BK377.out⟩, ⟨by repeat (first | (with_reducible first | exact HK.out | apply Kept.alloc | apply Kept.drewN | apply Kept.drew | refine Kept.setCell ?_ (.inr GW374.out) _ | refine Kept.setCell ?_ (.inr GW377.out) _) | exact HK.out)⟩, ⟨z3_ HB.out⟩⟩
   ·rw [if_neg c17] at H
    have c17b0 : decide (t375 < 128) = false := decide_eq_false c17
    clear c17
    (first | rw [c17b0] | (simp only [i64_w, i32_w];rw [c17b0]) | skip)
    have H' := am_ H
    clear H
    go_wp2
    go_meet
    case rel => exact ⟨_, (l1), H', ⟨by first | omega | exact Nat.le_refl _⟩, ⟨by (with_reducible repeat (first | apply Kd.R_alloc | apply Kd.R_drewN | apply Kd.R_drew));exact Kd.R_mono (Kd.R_far (p := ⟨gb377, 5, none⟩) (Kd.R_far (p := ⟨gb377, 4, none⟩) (Kd.R_far (p := ⟨gb377, 3, none⟩) (Kd.R_far (p := ⟨gb377, 2, none⟩) (Kd.R_far (p := ⟨gb377, 1, none⟩) (Kd.R_far (p := ⟨gb377, 0, none⟩) (Kd.R_types HO1.out BK377.out (by decide)) (fun _ hk => hk.2) (.int .i64 1)) (fun _ hk => hk.2) (.bool a0)) (fun _ hk => hk.2) (.int .i64 t376)) (fun _ hk => hk.2) (.int .u64 0)) (fun _ hk => hk.2) (.int .u64 0)) (fun _ hk => hk.2) (.bool a3)) (fun _ hk => hk.1)⟩, ⟨by refine z2_ ?_;refine blk_far ?_ NB374_377.out _;refine z2_ ?_;refine blk_far ?_ NB374_377.out _;refine z2_ ?_;refine blk_far ?_ NB374_377.out _;refine z2_ ?_;refine blk_far ?_ NB374_377.out _;refine z2_ ?_;refine blk_far ?_ NB374_377.out _;refine z2_ ?_;refine blk_far ?_ NB374_377.out _;refine z2_ ?_;exact BK374.out⟩, ⟨by refine z2_ ?_;refine blk_put (cs := #[.int .i64 1,.bool a0,.int .i64 t376,.int .u64 0,.int .u64 0,.bool false]) ?_ 5 _ rfl;refine z2_ ?_;refine blk_put (cs := #[.int .i64 1,.bool a0,.int .i64 t376,.int .u64 0,.int .u64 0,.bool false]) ?_ 4 _ rfl;refine z2_ ?_;refine blk_put (cs := #[.int .i64 1,.bool a0,.int .i64 t376,.int .u64 0,.int .u64 0,.bool false]) ?_ 3 _ rfl;refine z2_ ?_;refine blk_put (cs := #[.int .i64 1,.bool a0,.int .i64 0,.int .u64 0,.int .u64 0,.bool false]) ?_ 2 _ rfl;refine z2_ ?_;refine blk_put (cs := #[.int .i64 1,.bool false,.int .i64 0,.int .u64 0,.int .u64 0,.bool false]) ?_ 1 _ rfl;refine z2_ ?_;refine blk_put (cs := #[.int .i64 0,.bool false,.int .i64 0,.int .u64 0,.int .u64 0,.bool false]) ?_ 0 _ rfl;refine z2_ ?_;exact BK377.out⟩, ⟨by repeat (first | (with_reducible first | exact HK.out | apply Kept.alloc | apply Kept.drewN | apply Kept.drew | refine Kept.setCell ?_ (.inr GW374.out) _ | refine Kept.setCell ?_ (.inr GW377.out) _) | exact HK.out)⟩, ⟨z3_ HB.out⟩⟩
  case rest =>
   clear HC11
   try clear c6
   try clear c6b0
   try clear c6b1
   try clear hcz16_0
   try clear hcz16_1
   try clear hcz16_2
   try clear hcz16_3
   try clear hcz16_4
   try clear hcz16_5
   try clear hfz16_0
   obtain ⟨kq, x1_10, HA, HJ10, HO_1, BK374, BK377, HK, HB⟩ := hcut
   cases kq with
   | zero => exact absurd HA.out (by simp [vernierref07_Exactly.j0])
   | succ kj10 =>
    have H := HA.out
    clear HA
    simp only [vernierref07_Exactly.j0] at H
    by_cases c20 : t375 > 128
    ·rw [if_pos c20] at H
     have c20b0 : decide (128 < t375) = true := decide_eq_true c20
     clear c20
     replace H := Option.bind_eq_some_iff.mp H
     obtain ⟨t381, A210, H⟩ := H
     replace H : (if a3 = true then (vernierref07_Exactly.j1 kj10 x1_10 t375 1 a0 t376 0 0 true) else (vernierref07_Exactly.j1 kj10 x1_10 t375 1 a0 t376 0 0 t381)) = some (r1, r2, r3, r4, r5, r6) := H
     have A21 := am_ A210
     clear A210
     have HC22 := am_ H
     clear H
     obtain ⟨Ao23, co23, eo23⟩ := Kd.R_slice HO_1.out
     subst eo23
     go_upto_region 9 with (first | ((with_reducible refine gate_callee (f := 44) rfl ?_);refine goesL_ (some 36) rfl rfl Try.func44 (by kernel_rfl) rfl #[.slice Ao23 x1_10.length co23,.int .i64 (wrap64 (t375 - 128))] rfl z5_ ?_;(with_reducible refine (vernierref04_Low.calls kj10 _ _ x1_10 (wrap64 (t375 - 128)) t381 _ ?side1 ?side2 A21.out).mono ?_);(case side1 => repeat (first | exact (Kd.R_reads' HO_1.out).2.2 | (with_reducible refine Kd.C_alloc ?_ _) | (with_reducible refine Kd.C_drewN ?_ _) | (with_reducible refine Kd.C_drew ?_)));(case side2 => exact (Kd.R_reads' HO_1.out).2.1);rintro e w' ⟨rfl, ⟨nd, rfl⟩⟩;refine ⟨_, rfl, ?_⟩))
     (try simp only [Act.put, List.setIfInBounds_toArray, List.set_cons_zero, List.set_cons_succ])
     go_cut [] (fun wc => ∃ (kq : Nat) (x378005_21 : Bool), Aside0 (vernierref07_Exactly.j1 kq x1_10 t375 1 a0 t376 0 0 x378005_21 = some (r1, r2, r3, r4, r5, r6)) ∧ Aside0 (kq ≤ kj10) ∧ Aside0 (Kd.R (Kd.int .i64) 3 wc w0.heap.size (fun k_ => (P1_ k_ ∨ w.heap.size ≤ k_)) (.slice Ao23 x1_10.length co23) x1_10) ∧ Aside0 (wc.heap[gb374]? = some (.cells #[.int .i64 0,.bool false,.int .i64 0,.int .u64 0,.int .u64 0,.bool false] 27 (0, 0))) ∧ Aside0 (wc.heap[gb377]? = some (.cells #[.int .i64 1,.bool a0,.int .i64 t376,.int .u64 0,.int .u64 0,.bool x378005_21] 27 (0, 0))) ∧ Aside0 (Kept w wc (fun k_ => P1_ k_)) ∧ Aside0 (Below w0.heap.size w0 wc))
     case first =>
      have H := HC22.out
      clear HC22
      by_cases c24 : a3 = true
      ·subst c24
       have H1 : (vernierref07_Exactly.j1 kj10 x1_10 t375 1 a0 t376 0 0 true) = some (r1, r2, r3, r4, r5, r6) := by rw [if_pos rfl] at H;exact H
       clear H
       have H := H1
       clear H1
       have H' := am_ H
       clear H
       have hnb25 := NB377_374.out
       have hnc25 := NB374_377.out
       obtain ⟨hcz26_0, hcz26_1, hcz26_2, hcz26_3, hcz26_4, hcz26_5, hfz26_0⟩ := zc6_ BK377.out
       go_wp2
       go_meet
       case rel => exact ⟨_, (true), H', ⟨by have := HJ10.out;first | omega | exact Nat.le_refl _⟩, ⟨by (with_reducible repeat (first | apply Kd.R_alloc | apply Kd.R_drewN | apply Kd.R_drew));exact Kd.R_mono (Kd.R_far (p := ⟨gb377, 5, none⟩) (Kd.R_types HO_1.out BK377.out (by decide)) (fun _ hk => hk.2) (.bool true)) (fun _ hk => hk.1)⟩, ⟨by refine z2_ ?_;refine blk_far ?_ NB374_377.out _;refine z2_ ?_;exact BK374.out⟩, ⟨by refine z2_ ?_;refine blk_put (cs := #[.int .i64 1,.bool a0,.int .i64 t376,.int .u64 0,.int .u64 0,.bool true]) ?_ 5 _ rfl;refine z2_ ?_;exact BK377.out⟩, ⟨by repeat (first | (with_reducible first | exact HK.out | apply Kept.alloc | apply Kept.drewN | apply Kept.drew | refine Kept.setCell ?_ (.inr GW374.out) _ | refine Kept.setCell ?_ (.inr GW377.out) _) | exact HK.out)⟩, ⟨z3_ HB.out⟩⟩
      ·replace c24 := Bool.eq_false_iff.mpr c24
       subst c24
       have H1 : (vernierref07_Exactly.j1 kj10 x1_10 t375 1 a0 t376 0 0 t381) = some (r1, r2, r3, r4, r5, r6) := by rw [if_neg (show ¬ (false = true) by decide)] at H;exact H
       clear H
       have H := H1
       clear H1
       have H' := am_ H
       clear H
       have hnb27 := NB377_374.out
       have hnc27 := NB374_377.out
       obtain ⟨hcz28_0, hcz28_1, hcz28_2, hcz28_3, hcz28_4, hcz28_5, hfz28_0⟩ := zc6_ BK377.out
       go_wp2
       go_meet
       case rel => exact ⟨_, (t381), H', ⟨by have := HJ10.out;first | omega | exact Nat.le_refl _⟩, ⟨by (with_reducible repeat (first | apply Kd.R_alloc | apply Kd.R_drewN | apply Kd.R_drew));exact Kd.R_mono (Kd.R_far (p := ⟨gb377, 5, none⟩) (Kd.R_types HO_1.out BK377.out (by decide)) (fun _ hk => hk.2) (.bool t381)) (fun _ hk => hk.1)⟩, ⟨by refine z2_ ?_;refine blk_far ?_ NB374_377.out _;refine z2_ ?_;exact BK374.out⟩, ⟨by refine z2_ ?_;refine blk_put (cs := #[.int .i64 1,.bool a0,.int .i64 t376,.int .u64 0,.int .u64 0,.bool false]) ?_ 5 _ rfl;refine z2_ ?_;exact BK377.out⟩, ⟨by repeat (first | (with_reducible first | exact HK.out | apply Kept.alloc | apply Kept.drewN | apply Kept.drew | refine Kept.setCell ?_ (.inr GW374.out) _ | refine Kept.setCell ?_ (.inr GW377.out) _) | exact HK.out)⟩, ⟨z3_ HB.out⟩⟩
     case rest =>
      clear HC22
      try clear c6
      try clear c6b0
      try clear c6b1
      try clear c20
      try clear c20b0
      try clear hcz16_0
      try clear hcz16_1
      try clear hcz16_2
      try clear hcz16_3
      try clear hcz16_4
      try clear hcz16_5
      try clear hfz16_0
      obtain ⟨kq, x378005_21, HA, HJ21, HO_1, BK374, BK377, HK, HB⟩ := hcut
      cases kq with
      | zero => exact absurd HA.out (by simp [vernierref07_Exactly.j1])
      | succ kj21 =>
       have H := HA.out
       clear HA
       simp only [vernierref07_Exactly.j1] at H
       replace H := Option.bind_eq_some_iff.mp H
       obtain ⟨t382, A290, H⟩ := H
       replace H : ((vernierref04_Word.f kj21 t382).bind fun t385 => ((vernierref04_Shr.f kj21 t382 64).bind fun t386 => ((vernierref04_Word.f kj21 t386).bind fun t389 => (some (1, a0, t376, t389, t385, x378005_21))))) = some (r1, r2, r3, r4, r5, r6) := H
       have A29 := am_ A290
       clear A290
       replace H := Option.bind_eq_some_iff.mp H
       obtain ⟨t385, A300, H⟩ := H
       replace H : ((vernierref04_Shr.f kj21 t382 64).bind fun t386 => ((vernierref04_Word.f kj21 t386).bind fun t389 => (some (1, a0, t376, t389, t385, x378005_21)))) = some (r1, r2, r3, r4, r5, r6) := H
       have A30 := am_ A300
       clear A300
       replace H := Option.bind_eq_some_iff.mp H
       obtain ⟨t386, A310, H⟩ := H
       replace H : ((vernierref04_Word.f kj21 t386).bind fun t389 => (some (1, a0, t376, t389, t385, x378005_21))) = some (r1, r2, r3, r4, r5, r6) := H
       have A31 := am_ A310
       clear A310
       replace H := Option.bind_eq_some_iff.mp H
       obtain ⟨t389, A320, H⟩ := H
       replace H : (some (1, a0, t376, t389, t385, x378005_21)) = some (r1, r2, r3, r4, r5, r6) := H
       have A32 := am_ A320
       clear A320
       simp only [Option.some.injEq, Prod.mk.injEq] at H
       obtain ⟨rfl, rfl, rfl, rfl, rfl, rfl⟩ := H
       go_wp2_with (first | ((with_reducible refine gate_callee (f := 45) rfl ?_);refine goesL_ (some 45) rfl rfl Try.func45 (by kernel_rfl) rfl #[.slice Ao23 x1_10.length co23,.int .i64 (wrap64 (t375 - 128))] rfl z5_ ?_;(with_reducible refine (vernierref04_Shr.calls kj21 _ _ x1_10 (wrap64 (t375 - 128)) t382 _ ?side1 ?side2 A29.out).mono ?_);(case side1 => repeat (first | exact (Kd.R_reads' HO_1.out).2.2 | (with_reducible refine Kd.C_alloc ?_ _) | (with_reducible refine Kd.C_drewN ?_ _) | (with_reducible refine Kd.C_drew ?_)));(case side2 => exact (Kd.R_reads' HO_1.out).2.1);rintro e w33 ⟨v383, rfl, ho0, hb⟩;refine ⟨_, rfl, ?_⟩;have n0_ := am_ (Kd.R_elder' (by (with_reducible repeat (first | apply Kd.R_alloc | apply Kd.R_drewN | apply Kd.R_drew));exact HO_1.out) (Kd.R_base ho0) hb);have n1_ := am_ (Kd.R_lower (Kd.R_new' (Kd.R_newM (M := fun k_ => (P1_ k_ ∨ w.heap.size ≤ k_)) ho0 (by first | exact HK.out.1 | exact (show Kept w _ (fun k_ => P1_ k_) from by repeat (first | (with_reducible first | exact HK.out | apply Kept.alloc | apply Kept.drewN | apply Kept.drew | refine Kept.setCell ?_ (.inr GW374.out) _ | refine Kept.setCell ?_ (.inr GW377.out) _) | exact HK.out)).1) (fun k_ h_ => .inr h_)) (Kd.R_lt (by (with_reducible repeat (first | apply Kd.R_alloc | apply Kd.R_drewN | apply Kd.R_drew));exact HO_1.out))) (below_size (z3_ HB.out)));have n2_ := am_ (blk_below (g := gb374) (z1_ BK374.out) hb);have n3_ := am_ (blk_below (g := gb377) (z1_ BK377.out) hb);have n4_ := am_ (Kept.below (S := (fun k_ => P1_ k_)) (by repeat (first | (with_reducible first | exact HK.out | apply Kept.alloc | apply Kept.drewN | apply Kept.drew | refine Kept.setCell ?_ (.inr GW374.out) _ | refine Kept.setCell ?_ (.inr GW377.out) _) | exact HK.out)) hb);have n5_ := am_ (below_step (z3_ HB.out) hb);clear HO_1;clear BK374;clear BK377;clear HK;clear HB;have HO_1 := n0_;have HO384 := n1_;have BK374 := n2_;have BK377 := n3_;have HK := n4_;have HB := n5_;clear n0_ n1_ n2_ n3_ n4_ n5_;(try clear hb);(try clear ho0);obtain ⟨Ao34, co34, eo34⟩ := Kd.R_slice HO384.out;subst eo34) | ((with_reducible refine gate_callee (f := 46) rfl ?_);refine goesL_ (some 47) rfl rfl Try.func46 (by kernel_rfl) rfl #[.slice Ao34 t382.length co34] rfl z5_ ?_;(with_reducible refine (vernierref04_Word.calls kj21 _ _ t382 t385 _ ?side1 ?side2 A30.out).mono ?_);(case side1 => repeat (first | exact (Kd.R_reads' HO384.out).2.2 | (with_reducible refine Kd.C_alloc ?_ _) | (with_reducible refine Kd.C_drewN ?_ _) | (with_reducible refine Kd.C_drew ?_)));(case side2 => exact (Kd.R_reads' HO384.out).2.1);rintro e w' ⟨rfl, ⟨nd, rfl⟩⟩;refine ⟨_, rfl, ?_⟩;(try (rw [drewN_self w33];generalize hq_ : World.drewN w33 _ = w33;have n0_ : Aside0 (Kd.R (Kd.int .i64) 3 w33 w0.heap.size (fun k_ => (P1_ k_ ∨ w.heap.size ≤ k_) ∧ some k_ ≠ (.slice Ao23 x1_10.length co23 : Value).ownBlock) (.slice Ao34 t382.length co34) t382) := ⟨by rw [← hq_];exact (by (with_reducible repeat (first | apply Kd.R_alloc | apply Kd.R_drewN | apply Kd.R_drew));exact Kd.R_mono HO384.out (fun _ hk => ⟨hk.1.1, hk.2⟩))⟩;have n1_ : Aside0 (Kd.R (Kd.int .i64) 3 w33 w0.heap.size (fun k_ => (P1_ k_ ∨ w.heap.size ≤ k_) ∧ some k_ ≠ (.slice Ao34 t382.length co34 : Value).ownBlock) (.slice Ao23 x1_10.length co23) x1_10) := ⟨by rw [← hq_];exact (by (with_reducible repeat (first | apply Kd.R_alloc | apply Kd.R_drewN | apply Kd.R_drew));exact HO_1.out)⟩;have n2_ : Aside0 (w33.heap[gb374]? = some (.cells #[.int .i64 0,.bool false,.int .i64 0,.int .u64 0,.int .u64 0,.bool false] 27 (0, 0))) := ⟨by rw [← hq_];exact (z1_ BK374.out)⟩;have n3_ : Aside0 (w33.heap[gb377]? = some (.cells #[.int .i64 1,.bool a0,.int .i64 t376,.int .u64 0,.int .u64 0,.bool x378005_21] 27 (0, 0))) := ⟨by rw [← hq_];exact (z1_ BK377.out)⟩;have n4_ : Aside0 (Kept w w33 (fun k_ => P1_ k_)) := ⟨by rw [← hq_];exact (by repeat (first | (with_reducible first | exact HK.out | apply Kept.alloc | apply Kept.drewN | apply Kept.drew | refine Kept.setCell ?_ (.inr GW374.out) _ | refine Kept.setCell ?_ (.inr GW377.out) _) | exact HK.out))⟩;have n5_ : Aside0 (Below w0.heap.size w0 w33) := ⟨by rw [← hq_];exact (z3_ HB.out)⟩;clear HO384 HO_1 BK374 BK377 HK HB hq_;have HO384 := n0_;have HO_1 := n1_;have BK374 := n2_;have BK377 := n3_;have HK := n4_;have HB := n5_;clear n0_ n1_ n2_ n3_ n4_ n5_));have hnb35 := NB377_374.out;have hnc35 := NB374_377.out;obtain ⟨hcz36_0, hcz36_1, hcz36_2, hcz36_3, hcz36_4, hcz36_5, hfz36_0⟩ := zc6_ BK377.out) | ((with_reducible refine gate_callee (f := 45) rfl ?_);refine goesL_ (some 50) rfl rfl Try.func45 (by kernel_rfl) rfl #[.slice Ao34 t382.length co34,.int .i64 64] rfl z5_ ?_;(with_reducible refine (vernierref04_Shr.calls kj21 _ _ t382 64 t386 _ ?side1 ?side2 A31.out).mono ?_);(case side1 => refine (Kd.R_reads' (e := 3) (base := w0.heap.size) (ok := fun k_ => ((P1_ k_ ∨ w.heap.size ≤ k_) ∧ some k_ ≠ (.slice Ao23 x1_10.length co23 : Value).ownBlock)) (n := t382.length) (c := co34) ?_).2.2;exact (by (with_reducible repeat (first | apply Kd.R_alloc | apply Kd.R_drewN | apply Kd.R_drew));exact (Kd.R_mono (Kd.R_far (p := ⟨gb377, 4, none⟩) (Kd.R_types HO384.out BK377.out (by decide)) (fun _ hk => hk.2) (.int .u64 t385)) (fun _ h_ => h_.1))));(case side2 => exact (Kd.R_reads' HO384.out).2.1);rintro e w37 ⟨v387, rfl, ho0, hb⟩;refine ⟨_, rfl, ?_⟩;have n0_ := am_ (Kd.R_elder' (by (with_reducible repeat (first | apply Kd.R_alloc | apply Kd.R_drewN | apply Kd.R_drew));exact (Kd.R_mono (Kd.R_far (p := ⟨gb377, 4, none⟩) (Kd.R_types HO_1.out BK377.out (by decide)) (fun _ hk => hk.2) (.int .u64 t385)) (fun _ h_ => h_.1))) (Kd.R_base ho0) hb);have n1_ := am_ (Kd.R_elder' (by (with_reducible repeat (first | apply Kd.R_alloc | apply Kd.R_drewN | apply Kd.R_drew));exact (Kd.R_mono (Kd.R_far (p := ⟨gb377, 4, none⟩) (Kd.R_types HO384.out BK377.out (by decide)) (fun _ hk => hk.2) (.int .u64 t385)) (fun _ h_ => h_.1))) (Kd.R_base ho0) hb);have n2_ := am_ (Kd.R_lower (Kd.R_new' (Kd.R_new' (Kd.R_newM (M := fun k_ => (P1_ k_ ∨ w.heap.size ≤ k_)) ho0 (show Kept w _ (fun k_ => P1_ k_) from by repeat (first | (with_reducible first | exact HK.out | apply Kept.alloc | apply Kept.drewN | apply Kept.drew | refine Kept.setCell ?_ (.inr GW374.out) _ | refine Kept.setCell ?_ (.inr GW377.out) _) | exact HK.out)).1 (fun k_ h_ => .inr h_)) (Kd.R_lt (by (with_reducible repeat (first | apply Kd.R_alloc | apply Kd.R_drewN | apply Kd.R_drew));exact (Kd.R_mono (Kd.R_far (p := ⟨gb377, 4, none⟩) (Kd.R_types HO_1.out BK377.out (by decide)) (fun _ hk => hk.2) (.int .u64 t385)) (fun _ h_ => h_.1))))) (Kd.R_lt (by (with_reducible repeat (first | apply Kd.R_alloc | apply Kd.R_drewN | apply Kd.R_drew));exact (Kd.R_mono (Kd.R_far (p := ⟨gb377, 4, none⟩) (Kd.R_types HO384.out BK377.out (by decide)) (fun _ hk => hk.2) (.int .u64 t385)) (fun _ h_ => h_.1))))) (below_size (z3_ HB.out)));have n3_ := am_ (blk_below (g := gb374) (o := .cells #[.int .i64 0,.bool false,.int .i64 0,.int .u64 0,.int .u64 0,.bool false] 27 (0, 0)) (by refine z2_ ?_;refine blk_far ?_ NB374_377.out _;refine z2_ ?_;exact BK374.out) hb);have n4_ := am_ (blk_below (g := gb377) (o := .cells #[.int .i64 1,.bool a0,.int .i64 t376,.int .u64 0,.int .u64 t385,.bool x378005_21] 27 (0, 0)) (by refine z2_ ?_;refine blk_put (cs := #[.int .i64 1,.bool a0,.int .i64 t376,.int .u64 0,.int .u64 0,.bool x378005_21]) ?_ 4 _ rfl;refine z2_ ?_;exact BK377.out) hb);have n5_ := am_ (Kept.below (S := (fun k_ => P1_ k_)) (by repeat (first | (with_reducible first | exact HK.out | apply Kept.alloc | apply Kept.drewN | apply Kept.drew | refine Kept.setCell ?_ (.inr GW374.out) _ | refine Kept.setCell ?_ (.inr GW377.out) _) | exact HK.out)) hb);have n6_ := am_ (below_step (z3_ HB.out) hb);clear HO_1;clear HO384;clear BK374;clear BK377;clear HK;clear HB;have HO_1 := n0_;have HO384 := n1_;have HO388 := n2_;have BK374 := n3_;have BK377 := n4_;have HK := n5_;have HB := n6_;clear n0_ n1_ n2_ n3_ n4_ n5_ n6_;(try clear hb);(try clear ho0);obtain ⟨Ao38, co38, eo38⟩ := Kd.R_slice HO388.out;subst eo38) | ((with_reducible refine gate_callee (f := 46) rfl ?_);refine goesL_ (some 51) rfl rfl Try.func46 (by kernel_rfl) rfl #[.slice Ao38 t386.length co38] rfl z5_ ?_;(with_reducible refine (vernierref04_Word.calls kj21 _ _ t386 t389 _ ?side1 ?side2 A32.out).mono ?_);(case side1 => repeat (first | exact (Kd.R_reads' HO388.out).2.2 | (with_reducible refine Kd.C_alloc ?_ _) | (with_reducible refine Kd.C_drewN ?_ _) | (with_reducible refine Kd.C_drew ?_)));(case side2 => exact (Kd.R_reads' HO388.out).2.1);rintro e w' ⟨rfl, ⟨nd, rfl⟩⟩;refine ⟨_, rfl, ?_⟩;(try (rw [drewN_self w37];generalize hq_ : World.drewN w37 _ = w37;have n0_ : Aside0 (Kd.R (Kd.int .i64) 3 w37 w0.heap.size (fun k_ => (P1_ k_ ∨ w.heap.size ≤ k_) ∧ some k_ ≠ (.slice Ao38 t386.length co38 : Value).ownBlock ∧ some k_ ≠ (.slice Ao23 x1_10.length co23 : Value).ownBlock) (.slice Ao34 t382.length co34) t382) := ⟨by rw [← hq_];exact (by (with_reducible repeat (first | apply Kd.R_alloc | apply Kd.R_drewN | apply Kd.R_drew));exact Kd.R_mono HO384.out (fun _ hk => ⟨hk.1.1.1, ⟨hk.2, hk.1.2⟩⟩))⟩;have n1_ : Aside0 (Kd.R (Kd.int .i64) 3 w37 w0.heap.size (fun k_ => (P1_ k_ ∨ w.heap.size ≤ k_) ∧ some k_ ≠ (.slice Ao34 t382.length co34 : Value).ownBlock ∧ some k_ ≠ (.slice Ao23 x1_10.length co23 : Value).ownBlock) (.slice Ao38 t386.length co38) t386) := ⟨by rw [← hq_];exact (by (with_reducible repeat (first | apply Kd.R_alloc | apply Kd.R_drewN | apply Kd.R_drew));exact Kd.R_mono HO388.out (fun _ hk => ⟨hk.1.1.1, ⟨hk.2, hk.1.2⟩⟩))⟩;have n2_ : Aside0 (Kd.R (Kd.int .i64) 3 w37 w0.heap.size (fun k_ => (P1_ k_ ∨ w.heap.size ≤ k_) ∧ some k_ ≠ (.slice Ao34 t382.length co34 : Value).ownBlock ∧ some k_ ≠ (.slice Ao38 t386.length co38 : Value).ownBlock) (.slice Ao23 x1_10.length co23) x1_10) := ⟨by rw [← hq_];exact (by (with_reducible repeat (first | apply Kd.R_alloc | apply Kd.R_drewN | apply Kd.R_drew));exact Kd.R_mono HO_1.out (fun _ hk => ⟨hk.1.1, ⟨hk.1.2, hk.2⟩⟩))⟩;have n3_ : Aside0 (w37.heap[gb374]? = some (.cells #[.int .i64 0,.bool false,.int .i64 0,.int .u64 0,.int .u64 0,.bool false] 27 (0, 0))) := ⟨by rw [← hq_];exact (z1_ BK374.out)⟩;have n4_ : Aside0 (w37.heap[gb377]? = some (.cells #[.int .i64 1,.bool a0,.int .i64 t376,.int .u64 0,.int .u64 t385,.bool x378005_21] 27 (0, 0))) := ⟨by rw [← hq_];exact (z1_ BK377.out)⟩;have n5_ : Aside0 (Kept w w37 (fun k_ => P1_ k_)) := ⟨by rw [← hq_];exact (by repeat (first | (with_reducible first | exact HK.out | apply Kept.alloc | apply Kept.drewN | apply Kept.drew | refine Kept.setCell ?_ (.inr GW374.out) _ | refine Kept.setCell ?_ (.inr GW377.out) _) | exact HK.out))⟩;have n6_ : Aside0 (Below w0.heap.size w0 w37) := ⟨by rw [← hq_];exact (z3_ HB.out)⟩;clear HO384 HO388 HO_1 BK374 BK377 HK HB hq_;have HO384 := n0_;have HO388 := n1_;have HO_1 := n2_;have BK374 := n3_;have BK377 := n4_;have HK := n5_;have HB := n6_;clear n0_ n1_ n2_ n3_ n4_ n5_ n6_));obtain ⟨hcz39_0, hcz39_1, hcz39_2, hcz39_3, hcz39_4, hcz39_5, hfz39_0⟩ := zc6_ BK377.out;obtain ⟨hcz40_0, hcz40_1, hcz40_2, hcz40_3, hcz40_4, hcz40_5, hfz40_0⟩ := zc6_ BK374.out))
       refine bodyPost_ret (results_cell_row rfl _ _ gb374 27 #[.int .i64 1,.bool a0,.int .i64 t376,.int .u64 t389,.int .u64 t385,.bool x378005_21] (0, 0) _ rfl (by refine z2_ ?_;refine blk_put (cs := #[.int .i64 1,.bool a0,.int .i64 t376,.int .u64 t389,.int .u64 t385,.bool false]) ?_ 5 _ rfl;refine z2_ ?_;refine blk_put (cs := #[.int .i64 1,.bool a0,.int .i64 t376,.int .u64 t389,.int .u64 0,.bool false]) ?_ 4 _ rfl;refine z2_ ?_;refine blk_put (cs := #[.int .i64 1,.bool a0,.int .i64 t376,.int .u64 0,.int .u64 0,.bool false]) ?_ 3 _ rfl;refine z2_ ?_;refine blk_put (cs := #[.int .i64 1,.bool a0,.int .i64 0,.int .u64 0,.int .u64 0,.bool false]) ?_ 2 _ rfl;refine z2_ ?_;refine blk_put (cs := #[.int .i64 1,.bool false,.int .i64 0,.int .u64 0,.int .u64 0,.bool false]) ?_ 1 _ rfl;refine z2_ ?_;refine blk_put (cs := #[.int .i64 0,.bool false,.int .i64 0,.int .u64 0,.int .u64 0,.bool false]) ?_ 0 _ rfl;refine z2_ ?_;refine blk_far ?_ NB374_377.out _;refine z2_ ?_;exact BK374.out) Try.underlying27 rfl (by kernel_rfl)) rfl ?_
       exact ⟨z6_, z3_ HB.out, by repeat (first | (with_reducible first | exact HK.out | apply Kept.alloc | apply Kept.drewN | apply Kept.drew | refine Kept.setCell ?_ (.inr GW374.out) _ | refine Kept.setCell ?_ (.inr GW377.out) _) | exact HK.out)⟩
    ·rw [if_neg c20] at H
     have c20b0 : decide (128 < t375) = false := decide_eq_false c20
     clear c20
     replace H := Option.bind_eq_some_iff.mp H
     obtain ⟨t390, A410, H⟩ := H
     replace H : ((vernierref04_Shr.f kj10 x1_10 64).bind fun t391 => ((vernierref04_Word.f kj10 t391).bind fun t394 => (some (1, a0, t376, t394, t390, a3)))) = some (r1, r2, r3, r4, r5, r6) := H
     have A41 := am_ A410
     clear A410
     replace H := Option.bind_eq_some_iff.mp H
     obtain ⟨t391, A420, H⟩ := H
     replace H : ((vernierref04_Word.f kj10 t391).bind fun t394 => (some (1, a0, t376, t394, t390, a3))) = some (r1, r2, r3, r4, r5, r6) := H
     have A42 := am_ A420
     clear A420
     replace H := Option.bind_eq_some_iff.mp H
     obtain ⟨t394, A430, H⟩ := H
     replace H : (some (1, a0, t376, t394, t390, a3)) = some (r1, r2, r3, r4, r5, r6) := H
     have A43 := am_ A430
     clear A430
     simp only [Option.some.injEq, Prod.mk.injEq] at H
     obtain ⟨rfl, rfl, rfl, rfl, rfl, rfl⟩ := H
     obtain ⟨Ao44, co44, eo44⟩ := Kd.R_slice HO_1.out
     subst eo44
     go_wp2_with (first | ((with_reducible refine gate_callee (f := 46) rfl ?_);refine goesL_ (some 47) rfl rfl Try.func46 (by kernel_rfl) rfl #[.slice Ao44 x1_10.length co44] rfl z5_ ?_;(with_reducible refine (vernierref04_Word.calls kj10 _ _ x1_10 t390 _ ?side1 ?side2 A41.out).mono ?_);(case side1 => repeat (first | exact (Kd.R_reads' HO_1.out).2.2 | (with_reducible refine Kd.C_alloc ?_ _) | (with_reducible refine Kd.C_drewN ?_ _) | (with_reducible refine Kd.C_drew ?_)));(case side2 => exact (Kd.R_reads' HO_1.out).2.1);rintro e w' ⟨rfl, ⟨nd, rfl⟩⟩;refine ⟨_, rfl, ?_⟩;(try (rw [drewN_self wc];generalize hq_ : World.drewN wc _ = wc;have n0_ : Aside0 (Kd.R (Kd.int .i64) 3 wc w0.heap.size (fun k_ => (P1_ k_ ∨ w.heap.size ≤ k_)) (.slice Ao44 x1_10.length co44) x1_10) := ⟨by rw [← hq_];exact (by (with_reducible repeat (first | apply Kd.R_alloc | apply Kd.R_drewN | apply Kd.R_drew));exact HO_1.out)⟩;have n1_ : Aside0 (wc.heap[gb374]? = some (.cells #[.int .i64 0,.bool false,.int .i64 0,.int .u64 0,.int .u64 0,.bool false] 27 (0, 0))) := ⟨by rw [← hq_];exact (z1_ BK374.out)⟩;have n2_ : Aside0 (wc.heap[gb377]? = some (.cells #[.int .i64 1,.bool a0,.int .i64 t376,.int .u64 0,.int .u64 0,.bool a3] 27 (0, 0))) := ⟨by rw [← hq_];exact (z1_ BK377.out)⟩;have n3_ : Aside0 (Kept w wc (fun k_ => P1_ k_)) := ⟨by rw [← hq_];exact (by repeat (first | (with_reducible first | exact HK.out | apply Kept.alloc | apply Kept.drewN | apply Kept.drew | refine Kept.setCell ?_ (.inr GW374.out) _ | refine Kept.setCell ?_ (.inr GW377.out) _) | exact HK.out))⟩;have n4_ : Aside0 (Below w0.heap.size w0 wc) := ⟨by rw [← hq_];exact (z3_ HB.out)⟩;clear HO_1 BK374 BK377 HK HB hq_;have HO_1 := n0_;have BK374 := n1_;have BK377 := n2_;have HK := n3_;have HB := n4_;clear n0_ n1_ n2_ n3_ n4_));have hnb45 := NB377_374.out;have hnc45 := NB374_377.out;obtain ⟨hcz46_0, hcz46_1, hcz46_2, hcz46_3, hcz46_4, hcz46_5, hfz46_0⟩ := zc6_ BK377.out) | ((with_reducible refine gate_callee (f := 45) rfl ?_);refine goesL_ (some 50) rfl rfl Try.func45 (by kernel_rfl) rfl #[.slice Ao44 x1_10.length co44,.int .i64 64] rfl z5_ ?_;(with_reducible refine (vernierref04_Shr.calls kj10 _ _ x1_10 64 t391 _ ?side1 ?side2 A42.out).mono ?_);(case side1 => refine (Kd.R_reads' (e := 3) (base := w0.heap.size) (ok := fun k_ => (P1_ k_ ∨ w.heap.size ≤ k_)) (n := x1_10.length) (c := co44) ?_).2.2;exact (by (with_reducible repeat (first | apply Kd.R_alloc | apply Kd.R_drewN | apply Kd.R_drew));exact (Kd.R_mono (Kd.R_far (p := ⟨gb377, 4, none⟩) (Kd.R_types HO_1.out BK377.out (by decide)) (fun _ hk => hk.2) (.int .u64 t390)) (fun _ h_ => h_.1))));(case side2 => exact (Kd.R_reads' HO_1.out).2.1);rintro e w47 ⟨v392, rfl, ho0, hb⟩;refine ⟨_, rfl, ?_⟩;have n0_ := am_ (Kd.R_elder' (by (with_reducible repeat (first | apply Kd.R_alloc | apply Kd.R_drewN | apply Kd.R_drew));exact (Kd.R_mono (Kd.R_far (p := ⟨gb377, 4, none⟩) (Kd.R_types HO_1.out BK377.out (by decide)) (fun _ hk => hk.2) (.int .u64 t390)) (fun _ h_ => h_.1))) (Kd.R_base ho0) hb);have n1_ := am_ (Kd.R_lower (Kd.R_new' (Kd.R_newM (M := fun k_ => (P1_ k_ ∨ w.heap.size ≤ k_)) ho0 (show Kept w _ (fun k_ => P1_ k_) from by repeat (first | (with_reducible first | exact HK.out | apply Kept.alloc | apply Kept.drewN | apply Kept.drew | refine Kept.setCell ?_ (.inr GW374.out) _ | refine Kept.setCell ?_ (.inr GW377.out) _) | exact HK.out)).1 (fun k_ h_ => .inr h_)) (Kd.R_lt (by (with_reducible repeat (first | apply Kd.R_alloc | apply Kd.R_drewN | apply Kd.R_drew));exact (Kd.R_mono (Kd.R_far (p := ⟨gb377, 4, none⟩) (Kd.R_types HO_1.out BK377.out (by decide)) (fun _ hk => hk.2) (.int .u64 t390)) (fun _ h_ => h_.1))))) (below_size (z3_ HB.out)));have n2_ := am_ (blk_below (g := gb374) (o := .cells #[.int .i64 0,.bool false,.int .i64 0,.int .u64 0,.int .u64 0,.bool false] 27 (0, 0)) (by refine z2_ ?_;refine blk_far ?_ NB374_377.out _;refine z2_ ?_;exact BK374.out) hb);have n3_ := am_ (blk_below (g := gb377) (o := .cells #[.int .i64 1,.bool a0,.int .i64 t376,.int .u64 0,.int .u64 t390,.bool a3] 27 (0, 0)) (by refine z2_ ?_;refine blk_put (cs := #[.int .i64 1,.bool a0,.int .i64 t376,.int .u64 0,.int .u64 0,.bool a3]) ?_ 4 _ rfl;refine z2_ ?_;exact BK377.out) hb);have n4_ := am_ (Kept.below (S := (fun k_ => P1_ k_)) (by repeat (first | (with_reducible first | exact HK.out | apply Kept.alloc | apply Kept.drewN | apply Kept.drew | refine Kept.setCell ?_ (.inr GW374.out) _ | refine Kept.setCell ?_ (.inr GW377.out) _) | exact HK.out)) hb);have n5_ := am_ (below_step (z3_ HB.out) hb);clear HO_1;clear BK374;clear BK377;clear HK;clear HB;have HO_1 := n0_;have HO393 := n1_;have BK374 := n2_;have BK377 := n3_;have HK := n4_;have HB := n5_;clear n0_ n1_ n2_ n3_ n4_ n5_;(try clear hb);(try clear ho0);obtain ⟨Ao48, co48, eo48⟩ := Kd.R_slice HO393.out;subst eo48) | ((with_reducible refine gate_callee (f := 46) rfl ?_);refine goesL_ (some 51) rfl rfl Try.func46 (by kernel_rfl) rfl #[.slice Ao48 t391.length co48] rfl z5_ ?_;(with_reducible refine (vernierref04_Word.calls kj10 _ _ t391 t394 _ ?side1 ?side2 A43.out).mono ?_);(case side1 => repeat (first | exact (Kd.R_reads' HO393.out).2.2 | (with_reducible refine Kd.C_alloc ?_ _) | (with_reducible refine Kd.C_drewN ?_ _) | (with_reducible refine Kd.C_drew ?_)));(case side2 => exact (Kd.R_reads' HO393.out).2.1);rintro e w' ⟨rfl, ⟨nd, rfl⟩⟩;refine ⟨_, rfl, ?_⟩;(try (rw [drewN_self w47];generalize hq_ : World.drewN w47 _ = w47;have n0_ : Aside0 (Kd.R (Kd.int .i64) 3 w47 w0.heap.size (fun k_ => (P1_ k_ ∨ w.heap.size ≤ k_) ∧ some k_ ≠ (.slice Ao44 x1_10.length co44 : Value).ownBlock) (.slice Ao48 t391.length co48) t391) := ⟨by rw [← hq_];exact (by (with_reducible repeat (first | apply Kd.R_alloc | apply Kd.R_drewN | apply Kd.R_drew));exact Kd.R_mono HO393.out (fun _ hk => ⟨hk.1.1, hk.2⟩))⟩;have n1_ : Aside0 (Kd.R (Kd.int .i64) 3 w47 w0.heap.size (fun k_ => (P1_ k_ ∨ w.heap.size ≤ k_) ∧ some k_ ≠ (.slice Ao48 t391.length co48 : Value).ownBlock) (.slice Ao44 x1_10.length co44) x1_10) := ⟨by rw [← hq_];exact (by (with_reducible repeat (first | apply Kd.R_alloc | apply Kd.R_drewN | apply Kd.R_drew));exact HO_1.out)⟩;have n2_ : Aside0 (w47.heap[gb374]? = some (.cells #[.int .i64 0,.bool false,.int .i64 0,.int .u64 0,.int .u64 0,.bool false] 27 (0, 0))) := ⟨by rw [← hq_];exact (z1_ BK374.out)⟩;have n3_ : Aside0 (w47.heap[gb377]? = some (.cells #[.int .i64 1,.bool a0,.int .i64 t376,.int .u64 0,.int .u64 t390,.bool a3] 27 (0, 0))) := ⟨by rw [← hq_];exact (z1_ BK377.out)⟩;have n4_ : Aside0 (Kept w w47 (fun k_ => P1_ k_)) := ⟨by rw [← hq_];exact (by repeat (first | (with_reducible first | exact HK.out | apply Kept.alloc | apply Kept.drewN | apply Kept.drew | refine Kept.setCell ?_ (.inr GW374.out) _ | refine Kept.setCell ?_ (.inr GW377.out) _) | exact HK.out))⟩;have n5_ : Aside0 (Below w0.heap.size w0 w47) := ⟨by rw [← hq_];exact (z3_ HB.out)⟩;clear HO393 HO_1 BK374 BK377 HK HB hq_;have HO393 := n0_;have HO_1 := n1_;have BK374 := n2_;have BK377 := n3_;have HK := n4_;have HB := n5_;clear n0_ n1_ n2_ n3_ n4_ n5_));obtain ⟨hcz49_0, hcz49_1, hcz49_2, hcz49_3, hcz49_4, hcz49_5, hfz49_0⟩ := zc6_ BK377.out;obtain ⟨hcz50_0, hcz50_1, hcz50_2, hcz50_3, hcz50_4, hcz50_5, hfz50_0⟩ := zc6_ BK374.out))
     refine bodyPost_ret (results_cell_row rfl _ _ gb374 27 #[.int .i64 1,.bool a0,.int .i64 t376,.int .u64 t394,.int .u64 t390,.bool a3] (0, 0) _ rfl (by refine z2_ ?_;refine blk_put (cs := #[.int .i64 1,.bool a0,.int .i64 t376,.int .u64 t394,.int .u64 t390,.bool false]) ?_ 5 _ rfl;refine z2_ ?_;refine blk_put (cs := #[.int .i64 1,.bool a0,.int .i64 t376,.int .u64 t394,.int .u64 0,.bool false]) ?_ 4 _ rfl;refine z2_ ?_;refine blk_put (cs := #[.int .i64 1,.bool a0,.int .i64 t376,.int .u64 0,.int .u64 0,.bool false]) ?_ 3 _ rfl;refine z2_ ?_;refine blk_put (cs := #[.int .i64 1,.bool a0,.int .i64 0,.int .u64 0,.int .u64 0,.bool false]) ?_ 2 _ rfl;refine z2_ ?_;refine blk_put (cs := #[.int .i64 1,.bool false,.int .i64 0,.int .u64 0,.int .u64 0,.bool false]) ?_ 1 _ rfl;refine z2_ ?_;refine blk_put (cs := #[.int .i64 0,.bool false,.int .i64 0,.int .u64 0,.int .u64 0,.bool false]) ?_ 0 _ rfl;refine z2_ ?_;refine blk_far ?_ NB374_377.out _;refine z2_ ?_;exact BK374.out) Try.underlying27 rfl (by kernel_rfl)) rfl ?_
     exact ⟨z6_, z3_ HB.out, by repeat (first | (with_reducible first | exact HK.out | apply Kept.alloc | apply Kept.drewN | apply Kept.drew | refine Kept.setCell ?_ (.inr GW374.out) _ | refine Kept.setCell ?_ (.inr GW377.out) _) | exact HK.out)⟩
mutual
def vernierref10_Exact.j0 : Nat → Bool → Int → Bool → Int → Int → Int → Bool → Int → Int → Option (Int × Bool × Int × Int × Int × Bool × Int)
 | 0, _, _, _, _, _, _, _, _, _ => none
 | k + 1, x13, x396000, x396001, x396002, x396003, x397000, x397001, x397002, x397003 => if x13 = true then (some (0, false,0, 0, 0, false,1)) else (if x396000 = 2 then (vernierref10_Exact.j1 k true x396000 x396001 x396002 x396003 x397000 x397001 x397002 x397003) else (vernierref10_Exact.j1 k (x397000 == 2) x396000 x396001 x396002 x396003 x397000 x397001 x397002 x397003))
def vernierref10_Exact.j1 : Nat → Bool → Int → Bool → Int → Int → Int → Bool → Int → Int → Option (Int × Bool × Int × Int × Int × Bool × Int)
 | 0, _, _, _, _, _, _, _, _, _ => none
 | k + 1, x21, x396000, x396001, x396002, x396003, x397000, x397001, x397002, x397003 => if x21 = true then (some (2, false,0, 0, 0, false,0)) else (if x396000 = 0 then (some (0, false,0, 0, 0, false,0)) else (if x397000 = 0 then (some (0, false,0, 0, 0, false,0)) else ((vernierref04_Of.f k x396003).bind fun t400 => ((vernierref04_Of.f k x397003).bind fun t403 => ((vernierref04_Mul.f k t400 t403).bind fun t406 => ((vernierref07_Exactly.f k (x396001 != x397001) t406 (wrap64 ((wrap64 (x396002 + x397002)) - 126)) false).bind fun bt409 => (some (bt409.1, bt409.2.1, bt409.2.2.1, bt409.2.2.2.1, bt409.2.2.2.2.1, bt409.2.2.2.2.2, 0))))))))
end
def vernierref10_Exact.f (k : Nat) (a0_0 : Int) (a0_1 : Bool) (a0_2 : Int) (a0_3 : Int) (a1_0 : Int) (a1_1 : Bool) (a1_2 : Int) (a1_3 : Int) : Option (Int × Bool × Int × Int × Int × Bool × Int) := (vernierref06_Sound.f a0_0 a0_1 a0_2 a0_3).bind fun t398 => ((vernierref06_Sound.f a1_0 a1_1 a1_2 a1_3).bind fun t399 => (if t398 = true then (vernierref10_Exact.j0 k (!t399) a0_0 a0_1 a0_2 a0_3 a1_0 a1_1 a1_2 a1_3) else (vernierref10_Exact.j0 k true a0_0 a0_1 a0_2 a0_3 a1_0 a1_1 a1_2 a1_3)))
theorem vernierref10_Exact.mono_l : ∀ k, (∀ y0 y1 y2 y3 y4 y5 y6 y7 y8, LeO (vernierref10_Exact.j0 k y0 y1 y2 y3 y4 y5 y6 y7 y8) (vernierref10_Exact.j0 (k + 1) y0 y1 y2 y3 y4 y5 y6 y7 y8)) ∧ (∀ y0 y1 y2 y3 y4 y5 y6 y7 y8, LeO (vernierref10_Exact.j1 k y0 y1 y2 y3 y4 y5 y6 y7 y8) (vernierref10_Exact.j1 (k + 1) y0 y1 y2 y3 y4 y5 y6 y7 y8))
 | 0 => ⟨fun _ _ _ _ _ _ _ _ _ r h => by simp [vernierref10_Exact.j0] at h, fun _ _ _ _ _ _ _ _ _ r h => by simp [vernierref10_Exact.j1] at h⟩
 | k + 1 => by
  obtain ⟨ih0, ih1⟩ := vernierref10_Exact.mono_l k
  refine ⟨?_, ?_⟩
  ·intro y0 y1 y2 y3 y4 y5 y6 y7 y8
   unfold vernierref10_Exact.j0
   repeat' first
   | (with_reducible exact ih0 _ _ _ _ _ _ _ _ _)
   | (with_reducible exact ih1 _ _ _ _ _ _ _ _ _)
   | (with_reducible exact vernierref04_Mul.mono _ _ _)
   | (with_reducible exact vernierref04_Of.mono _ _)
   | (with_reducible exact vernierref07_Exactly.mono _ _ _ _ _)
   | (with_reducible exact LeO.refl _)
   | (with_reducible exact LeO.none _)
   | (with_reducible refine LeO.ite ?_ ?_)
   | (with_reducible refine LeO.bind ?_ (fun _ => ?_))
   | exact ih0 _ _ _ _ _ _ _ _ _
   | exact ih1 _ _ _ _ _ _ _ _ _
   | exact vernierref04_Mul.mono _ _ _
   | exact vernierref04_Of.mono _ _
   | exact vernierref07_Exactly.mono _ _ _ _ _
   | exact LeO.none _
   | refine LeO.ite ?_ ?_
   | refine LeO.bind ?_ (fun _ => ?_)
  ·intro y0 y1 y2 y3 y4 y5 y6 y7 y8
   unfold vernierref10_Exact.j1
   repeat' first
   | (with_reducible exact ih0 _ _ _ _ _ _ _ _ _)
   | (with_reducible exact ih1 _ _ _ _ _ _ _ _ _)
   | (with_reducible exact vernierref04_Mul.mono _ _ _)
   | (with_reducible exact vernierref04_Of.mono _ _)
   | (with_reducible exact vernierref07_Exactly.mono _ _ _ _ _)
   | (with_reducible exact LeO.refl _)
   | (with_reducible exact LeO.none _)
   | (with_reducible refine LeO.ite ?_ ?_)
   | (with_reducible refine LeO.bind ?_ (fun _ => ?_))
   | exact ih0 _ _ _ _ _ _ _ _ _
   | exact ih1 _ _ _ _ _ _ _ _ _
   | exact vernierref04_Mul.mono _ _ _
   | exact vernierref04_Of.mono _ _
   | exact vernierref07_Exactly.mono _ _ _ _ _
   | exact LeO.none _
   | refine LeO.ite ?_ ?_
   | refine LeO.bind ?_ (fun _ => ?_)
theorem vernierref10_Exact.mono : ∀ a0 a1 a2 a3 a4 a5 a6 a7 k, LeO (vernierref10_Exact.f k a0 a1 a2 a3 a4 a5 a6 a7) (vernierref10_Exact.f (k + 1) a0 a1 a2 a3 a4 a5 a6 a7) := by
 intro a0 a1 a2 a3 a4 a5 a6 a7 k
 obtain ⟨ih0, ih1⟩ := vernierref10_Exact.mono_l k
 unfold vernierref10_Exact.f
 repeat' first
   | (with_reducible exact ih0 _ _ _ _ _ _ _ _ _)
   | (with_reducible exact ih1 _ _ _ _ _ _ _ _ _)
   | (with_reducible exact vernierref04_Mul.mono _ _ _)
   | (with_reducible exact vernierref04_Of.mono _ _)
   | (with_reducible exact vernierref07_Exactly.mono _ _ _ _ _)
   | (with_reducible exact LeO.refl _)
   | (with_reducible exact LeO.none _)
   | (with_reducible refine LeO.ite ?_ ?_)
   | (with_reducible refine LeO.bind ?_ (fun _ => ?_))
   | exact ih0 _ _ _ _ _ _ _ _ _
   | exact ih1 _ _ _ _ _ _ _ _ _
   | exact vernierref04_Mul.mono _ _ _
   | exact vernierref04_Of.mono _ _
   | exact vernierref07_Exactly.mono _ _ _ _ _
   | exact LeO.none _
   | refine LeO.ite ?_ ?_
   | refine LeO.bind ?_ (fun _ => ?_)
def vernierref10_Exact.T9 : Bool × List (List Nat × List Nat) := (true,[([], []), ([0], [0]), ([1], [1]), ([], []), ([3], [3]), ([4, 2], [4]), ([2, 5, 5], [2, 5]), ([6, 6, 0, 1, 2, 3, 4, 5, 6], [6])])
def vernierref10_Exact.B9 : List Nat := [0, 1, 3, 0, 8, 31, 63, 127]
theorem vernierref10_Exact.tab9 : rtab .any (opsOf Try.f10 9) = vernierref10_Exact.T9 := by kernel_rfl
theorem vernierref10_Exact.bits9 : waitsOk vernierref10_Exact.T9.2 vernierref10_Exact.B9 = true := by kernel_rfl
set_option maxHeartbeats 8000000 in
set_option maxRecDepth 100000 in
theorem vernierref10_Exact.calls (k : Nat) (a0_0 : Int) (a0_1 : Bool) (a0_2 : Int) (a0_3 : Int) (a1_0 : Int) (a1_1 : Bool) (a1_2 : Int) (a1_3 : Int) (r1 : Int) (r2 : Bool) (r3 : Int) (r4 : Int) (r5 : Int) (r6 : Bool) (r7 : Int) (w : World) (h : vernierref10_Exact.f k a0_0 a0_1 a0_2 a0_3 a1_0 a1_1 a1_2 a1_3 = some (r1, r2, r3, r4, r5, r6, r7)) :
  Calls Try.prog 10 #[.agg #[.int .i64 a0_0,.bool a0_1,.int .i64 a0_2,.int .u64 a0_3],.agg #[.int .i64 a1_0,.bool a1_1,.int .i64 a1_2,.int .u64 a1_3]] w fun e w' => e = .returned (.tuple #[.agg #[.int .i64 r1,.bool r2,.int .i64 r3,.int .u64 r4,.int .u64 r5,.bool r6],.int .i64 r7]) ∧ Below w.heap.size w w' := by
 have hu24 := Try.underlying24
 have hu27 := Try.underlying27
 have HB := am_ (Below.refl w.heap.size w)
 have H : ((vernierref06_Sound.f a0_0 a0_1 a0_2 a0_3).bind fun t398 => ((vernierref06_Sound.f a1_0 a1_1 a1_2 a1_3).bind fun t399 => (if t398 = true then (vernierref10_Exact.j0 k (!t399) a0_0 a0_1 a0_2 a0_3 a1_0 a1_1 a1_2 a1_3) else (vernierref10_Exact.j0 k true a0_0 a0_1 a0_2 a0_3 a1_0 a1_1 a1_2 a1_3)))) = some (r1, r2, r3, r4, r5, r6, r7) := h
 clear h
 replace H := Option.bind_eq_some_iff.mp H
 obtain ⟨t398, A30, H⟩ := H
 replace H : ((vernierref06_Sound.f a1_0 a1_1 a1_2 a1_3).bind fun t399 => (if t398 = true then (vernierref10_Exact.j0 k (!t399) a0_0 a0_1 a0_2 a0_3 a1_0 a1_1 a1_2 a1_3) else (vernierref10_Exact.j0 k true a0_0 a0_1 a0_2 a0_3 a1_0 a1_1 a1_2 a1_3))) = some (r1, r2, r3, r4, r5, r6, r7) := H
 have A3 := am_ A30
 clear A30
 replace H := Option.bind_eq_some_iff.mp H
 obtain ⟨t399, A40, H⟩ := H
 replace H : (if t398 = true then (vernierref10_Exact.j0 k (!t399) a0_0 a0_1 a0_2 a0_3 a1_0 a1_1 a1_2 a1_3) else (vernierref10_Exact.j0 k true a0_0 a0_1 a0_2 a0_3 a1_0 a1_1 a1_2 a1_3)) = some (r1, r2, r3, r4, r5, r6, r7) := H
 have A4 := am_ A40
 clear A40
 have HC5 := am_ H
 clear H
 go_enter Try.func10, Try.ntmps10
 go_upto_region 3 with (first | ((with_reducible refine gate_dst (N := 2) rfl ?_);refine box_event ?hg (N := 2) ?hd (cs := #[.int .i64 a0_0,.bool a0_1,.int .i64 a0_2,.int .u64 a0_3]) (t := 24) ?hr ?_;(case hd => rfl);(case hg => rfl);(case hr => first | (go_simp;done) | (go_simp;rfl));intro gb395 hg w6 hbox hb;have n0_ := am_ (below_step (z3_ HB.out) hb);have n1_ := am_ (hbox);have n2_ := am_ ((by rw [hg];exact (below_size (z3_ HB.out)) : w.heap.size ≤ gb395));have n3_ := am_ ((by rw [hg];exact (below_size (z3_ HB.out)) : w.heap.size ≤ gb395));clear HB;have HB := n0_;have BK395 := n1_;have GW395 := n2_;have GE395 := n3_;clear n0_ n1_ n2_ n3_;clear hb hbox hg) | ((with_reducible refine gate_dst (N := 3) rfl ?_);refine box_event ?hg (N := 3) ?hd (cs := #[.int .i64 a1_0,.bool a1_1,.int .i64 a1_2,.int .u64 a1_3]) (t := 24) ?hr ?_;(case hd => rfl);(case hg => rfl);(case hr => first | (go_simp;done) | (go_simp;rfl));intro gb396 hg w7 hbox hb;have n0_ := am_ (blk_below (g := gb395) (z1_ BK395.out) hb);have n1_ := am_ (below_step (z3_ HB.out) hb);have n2_ := am_ (hbox);have n3_ := am_ ((by rw [hg];exact (below_size (z3_ HB.out)) : w.heap.size ≤ gb396));have n4_ := am_ ((by rw [hg];exact (below_size (z3_ HB.out)) : w.heap.size ≤ gb396));have n5_ := am_ ((by rw [hg];exact Nat.ne_of_lt (blk_lt (g := gb395) (o := .cells #[.int .i64 a0_0,.bool a0_1,.int .i64 a0_2,.int .u64 a0_3] 24 (0, 0)) (z1_ BK395.out)) : gb395 ≠ gb396));have n6_ := am_ ((by rw [hg];exact Nat.ne_of_gt (blk_lt (g := gb395) (o := .cells #[.int .i64 a0_0,.bool a0_1,.int .i64 a0_2,.int .u64 a0_3] 24 (0, 0)) (z1_ BK395.out)) : gb396 ≠ gb395));clear BK395;clear HB;have BK395 := n0_;have HB := n1_;have BK396 := n2_;have GW396 := n3_;have GE396 := n4_;have NB395_396 := n5_;have NB396_395 := n6_;clear n0_ n1_ n2_ n3_ n4_ n5_ n6_;clear hb hbox hg) | ((with_reducible refine gate_dst (N := 4) rfl ?_);refine box_event ?hg (N := 4) ?hd (cs := #[.int .i64 0,.bool false,.int .i64 0,.int .u64 0,.int .u64 0,.bool false]) (t := 27) ?hr ?_;(case hd => rfl);(case hg => rfl);(case hr => first | (go_simp;done) | (go_simp;rfl));intro gb397 hg w8 hbox hb;have n0_ := am_ (blk_below (g := gb395) (z1_ BK395.out) hb);have n1_ := am_ (blk_below (g := gb396) (z1_ BK396.out) hb);have n2_ := am_ (below_step (z3_ HB.out) hb);have n3_ := am_ (hbox);have n4_ := am_ ((by rw [hg];exact (below_size (z3_ HB.out)) : w.heap.size ≤ gb397));have n5_ := am_ ((by rw [hg];exact (below_size (z3_ HB.out)) : w.heap.size ≤ gb397));have n6_ := am_ ((by rw [hg];exact Nat.ne_of_lt (blk_lt (g := gb395) (o := .cells #[.int .i64 a0_0,.bool a0_1,.int .i64 a0_2,.int .u64 a0_3] 24 (0, 0)) (z1_ BK395.out)) : gb395 ≠ gb397));have n7_ := am_ ((by rw [hg];exact Nat.ne_of_gt (blk_lt (g := gb395) (o := .cells #[.int .i64 a0_0,.bool a0_1,.int .i64 a0_2,.int .u64 a0_3] 24 (0, 0)) (z1_ BK395.out)) : gb397 ≠ gb395));have n8_ := am_ ((by rw [hg];exact Nat.ne_of_lt (blk_lt (g := gb396) (o := .cells #[.int .i64 a1_0,.bool a1_1,.int .i64 a1_2,.int .u64 a1_3] 24 (0, 0)) (z1_ BK396.out)) : gb396 ≠ gb397));have n9_ := am_ ((by rw [hg];exact Nat.ne_of_gt (blk_lt (g := gb396) (o := .cells #[.int .i64 a1_0,.bool a1_1,.int .i64 a1_2,.int .u64 a1_3] 24 (0, 0)) (z1_ BK396.out)) : gb397 ≠ gb396));clear BK395;clear BK396;clear HB;have BK395 := n0_;have BK396 := n1_;have HB := n2_;have BK397 := n3_;have GW397 := n4_;have GE397 := n5_;have NB395_397 := n6_;have NB397_395 := n7_;have NB396_397 := n8_;have NB397_396 := n9_;clear n0_ n1_ n2_ n3_ n4_ n5_ n6_ n7_ n8_ n9_;clear hb hbox hg;have hnb9 := NB395_396.out;have hnc9 := NB396_395.out;have hnb10 := NB395_397.out;have hnc10 := NB397_395.out;obtain ⟨hcz11_0, hcz11_1, hcz11_2, hcz11_3, hfz11_0⟩ := zc4_ BK395.out) | ((with_reducible refine gate_callee (f := 24) rfl ?_);refine goesL_ (some 10) rfl rfl Try.func24 (by kernel_rfl) rfl #[.agg #[.int .i64 a0_0,.bool a0_1,.int .i64 a0_2,.int .u64 a0_3]] rfl z5_ ?_;(with_reducible refine (vernierref06_Sound.calls a0_0 a0_1 a0_2 a0_3 t398 _ A3.out).mono ?_);rintro e w12 ⟨rfl, hb⟩;refine ⟨_, rfl, ?_⟩;have n0_ := am_ (blk_below (g := gb395) (z1_ BK395.out) hb);have n1_ := am_ (blk_below (g := gb396) (z1_ BK396.out) hb);have n2_ := am_ (blk_below (g := gb397) (z1_ BK397.out) hb);have n3_ := am_ (below_step (z3_ HB.out) hb);clear BK395;clear BK396;clear BK397;clear HB;have BK395 := n0_;have BK396 := n1_;have BK397 := n2_;have HB := n3_;clear n0_ n1_ n2_ n3_;(try clear hb);have hnb13 := NB396_397.out;have hnc13 := NB397_396.out;obtain ⟨hcz14_0, hcz14_1, hcz14_2, hcz14_3, hfz14_0⟩ := zc4_ BK396.out) | ((with_reducible refine gate_callee (f := 24) rfl ?_);refine goesL_ (some 12) rfl rfl Try.func24 (by kernel_rfl) rfl #[.agg #[.int .i64 a1_0,.bool a1_1,.int .i64 a1_2,.int .u64 a1_3]] rfl z5_ ?_;(with_reducible refine (vernierref06_Sound.calls a1_0 a1_1 a1_2 a1_3 t399 _ A4.out).mono ?_);rintro e w15 ⟨rfl, hb⟩;refine ⟨_, rfl, ?_⟩;have n0_ := am_ (blk_below (g := gb395) (z1_ BK395.out) hb);have n1_ := am_ (blk_below (g := gb396) (z1_ BK396.out) hb);have n2_ := am_ (blk_below (g := gb397) (z1_ BK397.out) hb);have n3_ := am_ (below_step (z3_ HB.out) hb);clear BK395;clear BK396;clear BK397;clear HB;have BK395 := n0_;have BK396 := n1_;have BK397 := n2_;have HB := n3_;clear n0_ n1_ n2_ n3_;(try clear hb)))
 (try simp only [Act.put, List.setIfInBounds_toArray, List.set_cons_zero, List.set_cons_succ])
 go_cut [13] (fun v13 wc => ∃ (kq : Nat) (x13_4 : Bool), v13 = .bool x13_4 ∧ Aside0 (vernierref10_Exact.j0 kq x13_4 a0_0 a0_1 a0_2 a0_3 a1_0 a1_1 a1_2 a1_3 = some (r1, r2, r3, r4, r5, r6, r7)) ∧ Aside0 (kq ≤ k) ∧ Aside0 (wc.heap[gb395]? = some (.cells #[.int .i64 a0_0,.bool a0_1,.int .i64 a0_2,.int .u64 a0_3] 24 (0, 0))) ∧ Aside0 (wc.heap[gb396]? = some (.cells #[.int .i64 a1_0,.bool a1_1,.int .i64 a1_2,.int .u64 a1_3] 24 (0, 0))) ∧ Aside0 (wc.heap[gb397]? = some (.cells #[.int .i64 0,.bool false,.int .i64 0,.int .u64 0,.int .u64 0,.bool false] 27 (0, 0))) ∧ Aside0 (Below w.heap.size w wc))
 case first =>
  have H := HC5.out
  clear HC5
  by_cases c16 : t398 = true
  ·subst c16
   have H1 : (vernierref10_Exact.j0 k (!t399) a0_0 a0_1 a0_2 a0_3 a1_0 a1_1 a1_2 a1_3) = some (r1, r2, r3, r4, r5, r6, r7) := by rw [if_pos rfl] at H;exact H
   clear H
   have H := H1
   clear H1
   have H' := am_ H
   clear H
   go_wp2
   go_meet
   case rel => exact ⟨_, (!t399), (by first | rfl | (simp;done) | (simp [*];done)), H', ⟨by first | omega | exact Nat.le_refl _⟩, ⟨by refine z2_ ?_;exact BK395.out⟩, ⟨by refine z2_ ?_;exact BK396.out⟩, ⟨by refine z2_ ?_;exact BK397.out⟩, ⟨z3_ HB.out⟩⟩
  ·replace c16 := Bool.eq_false_iff.mpr c16
   subst c16
   have H1 : (vernierref10_Exact.j0 k true a0_0 a0_1 a0_2 a0_3 a1_0 a1_1 a1_2 a1_3) = some (r1, r2, r3, r4, r5, r6, r7) := by rw [if_neg (show ¬ (false = true) by decide)] at H;exact H
   clear H
   have H := H1
   clear H1
   have H' := am_ H
   clear H
   go_wp2
   go_meet
   case rel => exact ⟨_, (true), (by first | rfl | (simp;done) | (simp [*];done)), H', ⟨by first | omega | exact Nat.le_refl _⟩, ⟨by refine z2_ ?_;exact BK395.out⟩, ⟨by refine z2_ ?_;exact BK396.out⟩, ⟨by refine z2_ ?_;exact BK397.out⟩, ⟨z3_ HB.out⟩⟩
 case rest =>
  clear HC5
  try clear hcz11_0
  try clear hcz11_1
  try clear hcz11_2
  try clear hcz11_3
  try clear hcz14_0
  try clear hcz14_1
  try clear hcz14_2
  try clear hcz14_3
  try clear hfz11_0
  try clear hfz14_0
  obtain ⟨kq, x13_4, rfl, HA, HJ4, BK395, BK396, BK397, HB⟩ := hcut
  cases kq with
  | zero => exact absurd HA.out (by simp [vernierref10_Exact.j0])
  | succ kj4 =>
   have H := HA.out
   clear HA
   simp only [vernierref10_Exact.j0] at H
   by_cases c17 : x13_4 = true
   ·subst c17
    have H1 : (some (0, false,0, 0, 0, false,1)) = some (r1, r2, r3, r4, r5, r6, r7) := by rw [if_pos rfl] at H;exact H
    clear H
    have H := H1
    clear H1
    simp only [Option.some.injEq, Prod.mk.injEq] at H
    obtain ⟨rfl, rfl, rfl, rfl, rfl, rfl, rfl⟩ := H
    have hnb18 := NB397_395.out
    have hnc18 := NB395_397.out
    have hnb19 := NB397_396.out
    have hnc19 := NB396_397.out
    obtain ⟨hcz20_0, hcz20_1, hcz20_2, hcz20_3, hcz20_4, hcz20_5, hfz20_0⟩ := zc6_ BK397.out
    go_wp2
    refine bodyPost_ret (results_ct rfl _ _ gb397 27 #[.int .i64 0,.bool false,.int .i64 0,.int .u64 0,.int .u64 0,.bool false] (0, 0) _ rfl (by refine z2_ ?_;refine blk_put (cs := #[.int .i64 0,.bool false,.int .i64 0,.int .u64 0,.int .u64 0,.bool false]) ?_ 5 _ rfl;refine z2_ ?_;refine blk_put (cs := #[.int .i64 0,.bool false,.int .i64 0,.int .u64 0,.int .u64 0,.bool false]) ?_ 4 _ rfl;refine z2_ ?_;refine blk_put (cs := #[.int .i64 0,.bool false,.int .i64 0,.int .u64 0,.int .u64 0,.bool false]) ?_ 3 _ rfl;refine z2_ ?_;refine blk_put (cs := #[.int .i64 0,.bool false,.int .i64 0,.int .u64 0,.int .u64 0,.bool false]) ?_ 2 _ rfl;refine z2_ ?_;refine blk_put (cs := #[.int .i64 0,.bool false,.int .i64 0,.int .u64 0,.int .u64 0,.bool false]) ?_ 1 _ rfl;refine z2_ ?_;refine blk_put (cs := #[.int .i64 0,.bool false,.int .i64 0,.int .u64 0,.int .u64 0,.bool false]) ?_ 0 _ rfl;refine z2_ ?_;exact BK397.out) Try.underlying27 rfl (by kernel_rfl)) rfl ?_
    exact ⟨z6_, z3_ HB.out⟩
   ·replace c17 := Bool.eq_false_iff.mpr c17
    subst c17
    have H1 : (if a0_0 = 2 then (vernierref10_Exact.j1 kj4 true a0_0 a0_1 a0_2 a0_3 a1_0 a1_1 a1_2 a1_3) else (vernierref10_Exact.j1 kj4 (a1_0 == 2) a0_0 a0_1 a0_2 a0_3 a1_0 a1_1 a1_2 a1_3)) = some (r1, r2, r3, r4, r5, r6, r7) := by rw [if_neg (show ¬ (false = true) by decide)] at H;exact H
    clear H
    have H := H1
    clear H1
    have HC21 := am_ H
    clear H
    go_upto_region 5 with (fail)
    go_cut [21] (fun v21 wc => ∃ (kq : Nat) (x21_20 : Bool), v21 = .bool x21_20 ∧ Aside0 (vernierref10_Exact.j1 kq x21_20 a0_0 a0_1 a0_2 a0_3 a1_0 a1_1 a1_2 a1_3 = some (r1, r2, r3, r4, r5, r6, r7)) ∧ Aside0 (kq ≤ kj4) ∧ Aside0 (wc.heap[gb395]? = some (.cells #[.int .i64 a0_0,.bool a0_1,.int .i64 a0_2,.int .u64 a0_3] 24 (0, 0))) ∧ Aside0 (wc.heap[gb396]? = some (.cells #[.int .i64 a1_0,.bool a1_1,.int .i64 a1_2,.int .u64 a1_3] 24 (0, 0))) ∧ Aside0 (wc.heap[gb397]? = some (.cells #[.int .i64 0,.bool false,.int .i64 0,.int .u64 0,.int .u64 0,.bool false] 27 (0, 0))) ∧ Aside0 (Below w.heap.size w wc))
    case first =>
     have H := HC21.out
     clear HC21
     by_cases c22 : a0_0 = 2
     ·rw [if_pos c22] at H
      have c22b0 : (a0_0 == 2) = true := beq_iff_eq.mpr c22
      have c22b1 : (a0_0 != 2) = false := bne_eq_false_iff_eq.mpr c22
      clear c22
      (first | rw [c22b0] | (simp only [i64_w, i32_w];rw [c22b0]) | skip)
      have H' := am_ H
      clear H
      have hnb23 := NB395_396.out
      have hnc23 := NB396_395.out
      have hnb24 := NB395_397.out
      have hnc24 := NB397_395.out
      obtain ⟨hcz25_0, hcz25_1, hcz25_2, hcz25_3, hfz25_0⟩ := zc4_ BK395.out
      go_wp2
      go_meet
      case rel => exact ⟨_, (true), (by first | rfl | (simp;done) | (simp [*];done)), H', ⟨by have := HJ4.out;first | omega | exact Nat.le_refl _⟩, ⟨by refine z2_ ?_;exact BK395.out⟩, ⟨by refine z2_ ?_;exact BK396.out⟩, ⟨by refine z2_ ?_;exact BK397.out⟩, ⟨z3_ HB.out⟩⟩
     ·rw [if_neg c22] at H
      have c22b0 : (a0_0 == 2) = false := beq_eq_false_iff_ne.mpr c22
      have c22b1 : (a0_0 != 2) = true := bne_iff_ne.mpr c22
      (first | rw [c22b0] | (simp only [i64_w, i32_w];rw [c22b0]) | skip)
      have H' := am_ H
      clear H
      have hnb26 := NB395_396.out
      have hnc26 := NB396_395.out
      have hnb27 := NB395_397.out
      have hnc27 := NB397_395.out
      obtain ⟨hcz28_0, hcz28_1, hcz28_2, hcz28_3, hfz28_0⟩ := zc4_ BK395.out
      have hnb29 := NB396_397.out
      have hnc29 := NB397_396.out
      obtain ⟨hcz30_0, hcz30_1, hcz30_2, hcz30_3, hfz30_0⟩ := zc4_ BK396.out
      go_wp2
      go_meet
      case rel => exact ⟨_, ((a1_0 == 2)), (by first | rfl | (simp;done) | (simp [*];done)), H', ⟨by have := HJ4.out;first | omega | exact Nat.le_refl _⟩, ⟨by refine z2_ ?_;exact BK395.out⟩, ⟨by refine z2_ ?_;exact BK396.out⟩, ⟨by refine z2_ ?_;exact BK397.out⟩, ⟨z3_ HB.out⟩⟩
    case rest =>
     clear HC21
     try clear c17
     try clear hcz11_0
     try clear hcz11_1
     try clear hcz11_2
     try clear hcz11_3
     try clear hcz14_0
     try clear hcz14_1
     try clear hcz14_2
     try clear hcz14_3
     try clear hfz11_0
     try clear hfz14_0
     obtain ⟨kq, x21_20, rfl, HA, HJ20, BK395, BK396, BK397, HB⟩ := hcut
     cases kq with
     | zero => exact absurd HA.out (by simp [vernierref10_Exact.j1])
     | succ kj20 =>
      have H := HA.out
      clear HA
      simp only [vernierref10_Exact.j1] at H
      by_cases c31 : x21_20 = true
      ·subst c31
       have H1 : (some (2, false,0, 0, 0, false,0)) = some (r1, r2, r3, r4, r5, r6, r7) := by rw [if_pos rfl] at H;exact H
       clear H
       have H := H1
       clear H1
       simp only [Option.some.injEq, Prod.mk.injEq] at H
       obtain ⟨rfl, rfl, rfl, rfl, rfl, rfl, rfl⟩ := H
       have hnb32 := NB397_395.out
       have hnc32 := NB395_397.out
       have hnb33 := NB397_396.out
       have hnc33 := NB396_397.out
       obtain ⟨hcz34_0, hcz34_1, hcz34_2, hcz34_3, hcz34_4, hcz34_5, hfz34_0⟩ := zc6_ BK397.out
       go_wp2
       refine bodyPost_ret (results_ct rfl _ _ gb397 27 #[.int .i64 2,.bool false,.int .i64 0,.int .u64 0,.int .u64 0,.bool false] (0, 0) _ rfl (by refine z2_ ?_;refine blk_put (cs := #[.int .i64 2,.bool false,.int .i64 0,.int .u64 0,.int .u64 0,.bool false]) ?_ 5 _ rfl;refine z2_ ?_;refine blk_put (cs := #[.int .i64 2,.bool false,.int .i64 0,.int .u64 0,.int .u64 0,.bool false]) ?_ 4 _ rfl;refine z2_ ?_;refine blk_put (cs := #[.int .i64 2,.bool false,.int .i64 0,.int .u64 0,.int .u64 0,.bool false]) ?_ 3 _ rfl;refine z2_ ?_;refine blk_put (cs := #[.int .i64 2,.bool false,.int .i64 0,.int .u64 0,.int .u64 0,.bool false]) ?_ 2 _ rfl;refine z2_ ?_;refine blk_put (cs := #[.int .i64 2,.bool false,.int .i64 0,.int .u64 0,.int .u64 0,.bool false]) ?_ 1 _ rfl;refine z2_ ?_;refine blk_put (cs := #[.int .i64 0,.bool false,.int .i64 0,.int .u64 0,.int .u64 0,.bool false]) ?_ 0 _ rfl;refine z2_ ?_;exact BK397.out) Try.underlying27 rfl (by kernel_rfl)) rfl ?_
       exact ⟨z6_, z3_ HB.out⟩
      ·replace c31 := Bool.eq_false_iff.mpr c31
       subst c31
       have H1 : (if a0_0 = 0 then (some (0, false,0, 0, 0, false,0)) else (if a1_0 = 0 then (some (0, false,0, 0, 0, false,0)) else ((vernierref04_Of.f kj20 a0_3).bind fun t400 => ((vernierref04_Of.f kj20 a1_3).bind fun t403 => ((vernierref04_Mul.f kj20 t400 t403).bind fun t406 => ((vernierref07_Exactly.f kj20 (a0_1 != a1_1) t406 (wrap64 ((wrap64 (a0_2 + a1_2)) - 126)) false).bind fun bt409 => (some (bt409.1, bt409.2.1, bt409.2.2.1, bt409.2.2.2.1, bt409.2.2.2.2.1, bt409.2.2.2.2.2, 0)))))))) = some (r1, r2, r3, r4, r5, r6, r7) := by rw [if_neg (show ¬ (false = true) by decide)] at H;exact H
       clear H
       have H := H1
       clear H1
       by_cases c35 : a0_0 = 0
       ·rw [if_pos c35] at H
        have c35b0 : (a0_0 == 0) = true := beq_iff_eq.mpr c35
        have c35b1 : (a0_0 != 0) = false := bne_eq_false_iff_eq.mpr c35
        clear c35
        simp only [Option.some.injEq, Prod.mk.injEq] at H
        obtain ⟨rfl, rfl, rfl, rfl, rfl, rfl, rfl⟩ := H
        have hnb36 := NB395_396.out
        have hnc36 := NB396_395.out
        have hnb37 := NB395_397.out
        have hnc37 := NB397_395.out
        obtain ⟨hcz38_0, hcz38_1, hcz38_2, hcz38_3, hfz38_0⟩ := zc4_ BK395.out
        have hnb39 := NB397_396.out
        have hnc39 := NB396_397.out
        obtain ⟨hcz40_0, hcz40_1, hcz40_2, hcz40_3, hcz40_4, hcz40_5, hfz40_0⟩ := zc6_ BK397.out
        go_wp2
        refine bodyPost_ret (results_ct rfl _ _ gb397 27 #[.int .i64 0,.bool false,.int .i64 0,.int .u64 0,.int .u64 0,.bool false] (0, 0) _ rfl (by refine z2_ ?_;refine blk_put (cs := #[.int .i64 0,.bool false,.int .i64 0,.int .u64 0,.int .u64 0,.bool false]) ?_ 5 _ rfl;refine z2_ ?_;refine blk_put (cs := #[.int .i64 0,.bool false,.int .i64 0,.int .u64 0,.int .u64 0,.bool false]) ?_ 4 _ rfl;refine z2_ ?_;refine blk_put (cs := #[.int .i64 0,.bool false,.int .i64 0,.int .u64 0,.int .u64 0,.bool false]) ?_ 3 _ rfl;refine z2_ ?_;refine blk_put (cs := #[.int .i64 0,.bool false,.int .i64 0,.int .u64 0,.int .u64 0,.bool false]) ?_ 2 _ rfl;refine z2_ ?_;refine blk_put (cs := #[.int .i64 0,.bool false,.int .i64 0,.int .u64 0,.int .u64 0,.bool false]) ?_ 1 _ rfl;refine z2_ ?_;refine blk_put (cs := #[.int .i64 0,.bool false,.int .i64 0,.int .u64 0,.int .u64 0,.bool false]) ?_ 0 _ rfl;refine z2_ ?_;exact BK397.out) Try.underlying27 rfl (by kernel_rfl)) rfl ?_
        exact ⟨z6_, z3_ HB.out⟩
       ·rw [if_neg c35] at H
        have c35b0 : (a0_0 == 0) = false := beq_eq_false_iff_ne.mpr c35
        have c35b1 : (a0_0 != 0) = true := bne_iff_ne.mpr c35
        by_cases c41 : a1_0 = 0
        ·rw [if_pos c41] at H
         have c41b0 : (a1_0 == 0) = true := beq_iff_eq.mpr c41
         have c41b1 : (a1_0 != 0) = false := bne_eq_false_iff_eq.mpr c41
         clear c41
         simp only [Option.some.injEq, Prod.mk.injEq] at H
         obtain ⟨rfl, rfl, rfl, rfl, rfl, rfl, rfl⟩ := H
         have hnb42 := NB395_396.out
         have hnc42 := NB396_395.out
         have hnb43 := NB395_397.out
         have hnc43 := NB397_395.out
         obtain ⟨hcz44_0, hcz44_1, hcz44_2, hcz44_3, hfz44_0⟩ := zc4_ BK395.out
         have hnb45 := NB396_397.out
         have hnc45 := NB397_396.out
         obtain ⟨hcz46_0, hcz46_1, hcz46_2, hcz46_3, hfz46_0⟩ := zc4_ BK396.out
         obtain ⟨hcz47_0, hcz47_1, hcz47_2, hcz47_3, hcz47_4, hcz47_5, hfz47_0⟩ := zc6_ BK397.out
         go_wp2
         refine bodyPost_ret (results_ct rfl _ _ gb397 27 #[.int .i64 0,.bool false,.int .i64 0,.int .u64 0,.int .u64 0,.bool false] (0, 0) _ rfl (by refine z2_ ?_;refine blk_put (cs := #[.int .i64 0,.bool false,.int .i64 0,.int .u64 0,.int .u64 0,.bool false]) ?_ 5 _ rfl;refine z2_ ?_;refine blk_put (cs := #[.int .i64 0,.bool false,.int .i64 0,.int .u64 0,.int .u64 0,.bool false]) ?_ 4 _ rfl;refine z2_ ?_;refine blk_put (cs := #[.int .i64 0,.bool false,.int .i64 0,.int .u64 0,.int .u64 0,.bool false]) ?_ 3 _ rfl;refine z2_ ?_;refine blk_put (cs := #[.int .i64 0,.bool false,.int .i64 0,.int .u64 0,.int .u64 0,.bool false]) ?_ 2 _ rfl;refine z2_ ?_;refine blk_put (cs := #[.int .i64 0,.bool false,.int .i64 0,.int .u64 0,.int .u64 0,.bool false]) ?_ 1 _ rfl;refine z2_ ?_;refine blk_put (cs := #[.int .i64 0,.bool false,.int .i64 0,.int .u64 0,.int .u64 0,.bool false]) ?_ 0 _ rfl;refine z2_ ?_;exact BK397.out) Try.underlying27 rfl (by kernel_rfl)) rfl ?_
         exact ⟨z6_, z3_ HB.out⟩
        ·rw [if_neg c41] at H
         have c41b0 : (a1_0 == 0) = false := beq_eq_false_iff_ne.mpr c41
         have c41b1 : (a1_0 != 0) = true := bne_iff_ne.mpr c41
         replace H := Option.bind_eq_some_iff.mp H
         obtain ⟨t400, A480, H⟩ := H
         replace H : ((vernierref04_Of.f kj20 a1_3).bind fun t403 => ((vernierref04_Mul.f kj20 t400 t403).bind fun t406 => ((vernierref07_Exactly.f kj20 (a0_1 != a1_1) t406 (wrap64 ((wrap64 (a0_2 + a1_2)) - 126)) false).bind fun bt409 => (some (bt409.1, bt409.2.1, bt409.2.2.1, bt409.2.2.2.1, bt409.2.2.2.2.1, bt409.2.2.2.2.2, 0))))) = some (r1, r2, r3, r4, r5, r6, r7) := H
         have A48 := am_ A480
         clear A480
         replace H := Option.bind_eq_some_iff.mp H
         obtain ⟨t403, A490, H⟩ := H
         replace H : ((vernierref04_Mul.f kj20 t400 t403).bind fun t406 => ((vernierref07_Exactly.f kj20 (a0_1 != a1_1) t406 (wrap64 ((wrap64 (a0_2 + a1_2)) - 126)) false).bind fun bt409 => (some (bt409.1, bt409.2.1, bt409.2.2.1, bt409.2.2.2.1, bt409.2.2.2.2.1, bt409.2.2.2.2.2, 0)))) = some (r1, r2, r3, r4, r5, r6, r7) := H
         have A49 := am_ A490
         clear A490
         replace H := Option.bind_eq_some_iff.mp H
         obtain ⟨t406, A500, H⟩ := H
         replace H : ((vernierref07_Exactly.f kj20 (a0_1 != a1_1) t406 (wrap64 ((wrap64 (a0_2 + a1_2)) - 126)) false).bind fun bt409 => (some (bt409.1, bt409.2.1, bt409.2.2.1, bt409.2.2.2.1, bt409.2.2.2.2.1, bt409.2.2.2.2.2, 0))) = some (r1, r2, r3, r4, r5, r6, r7) := H
         have A50 := am_ A500
         clear A500
         replace H := Option.bind_eq_some_iff.mp H
         obtain ⟨⟨t409, t410, t411, t412, t413, t414⟩, A510, H⟩ := H
         replace H : (some (t409, t410, t411, t412, t413, t414, 0)) = some (r1, r2, r3, r4, r5, r6, r7) := H
         have A51 := am_ A510
         clear A510
         simp only [Option.some.injEq, Prod.mk.injEq] at H
         obtain ⟨rfl, rfl, rfl, rfl, rfl, rfl, rfl⟩ := H
         have hnb52 := NB395_396.out
         have hnc52 := NB396_395.out
         have hnb53 := NB395_397.out
         have hnc53 := NB397_395.out
         obtain ⟨hcz54_0, hcz54_1, hcz54_2, hcz54_3, hfz54_0⟩ := zc4_ BK395.out
         have hnb55 := NB396_397.out
         have hnc55 := NB397_396.out
         obtain ⟨hcz56_0, hcz56_1, hcz56_2, hcz56_3, hfz56_0⟩ := zc4_ BK396.out
         try go_wp2
         have n0_ := am_ (blk_drew BK395.out)
         have n1_ := am_ (blk_drew BK396.out)
         have n2_ := am_ (blk_drew BK397.out)
         have n3_ := am_ (below_drew1 HB.out)
         clear BK395
         clear BK396
         clear BK397
         clear HB
         have BK395 := n0_
         have BK396 := n1_
         have BK397 := n2_
         have HB := n3_
         clear n0_ n1_ n2_ n3_
         refine start_ (n := 8) (S := fun w' => w'.cell? ⟨gb395, 0, none⟩ = some (.int .i64 a0_0) ∧ w'.cell? ⟨gb395, 1, none⟩ = some (.bool a0_1) ∧ w'.cell? ⟨gb395, 2, none⟩ = some (.int .i64 a0_2) ∧ w'.cell? ⟨gb395, 3, none⟩ = some (.int .u64 a0_3) ∧ w'.cell? ⟨gb396, 0, none⟩ = some (.int .i64 a1_0) ∧ w'.cell? ⟨gb396, 1, none⟩ = some (.bool a1_1) ∧ w'.cell? ⟨gb396, 2, none⟩ = some (.int .i64 a1_2) ∧ w'.cell? ⟨gb396, 3, none⟩ = some (.int .u64 a1_3)) (ds := []) #[false,false,false,false,false,false,false,false] (by kernel_rfl) rfl rfl ⟨(blk_cell BK395.out 0).trans rfl, (blk_cell BK395.out 1).trans rfl, (blk_cell BK395.out 2).trans rfl, (blk_cell BK395.out 3).trans rfl, (blk_cell BK396.out 0).trans rfl, (blk_cell BK396.out 1).trans rfl, (blk_cell BK396.out 2).trans rfl, (blk_cell BK396.out 3).trans rfl⟩ (fun hHeld => ?_);refine with_tabW vernierref10_Exact.tab9 vernierref10_Exact.bits9 (fun HT_ HW_ => ?_)
         generalize wc.drew = w57 at BK395 BK396 BK397 HB hHeld ⊢
         refine pure_ (i := 0) (N := some 41) (v := ?_) (a' := ?_) #[true,false,false,false,false,false,false,false] rfl rfl (any_of HT_.out (by kernel_rfl)) (fun _ _ _ h => h) (Or.inl ⟨by rfl, ?_⟩) ?_ ?_
         rotate_left
         ·intro w'
          go_simp
          with_reducible rfl
         rotate_left
         ·simp only [Act.put, List.setIfInBounds_toArray, List.set_cons_zero, List.set_cons_succ, i64_w, i32_w]
          rfl
         refine pure_ (i := 3) (N := some 44) (v := ?_) (a' := ?_) #[true,false,false,true,false,false,false,false] rfl rfl (any_of HT_.out (by kernel_rfl)) (fun _ _ _ h => h) (Or.inl ⟨by rfl, ?_⟩) ?_ ?_
         rotate_left
         ·intro w'
          go_simp
          with_reducible rfl
         rotate_left
         ·simp only [Act.put, List.setIfInBounds_toArray, List.set_cons_zero, List.set_cons_succ, i64_w, i32_w]
          rfl
         refine take_ (i := 1) (N := some 42) (v := ?_) (a' := ?_) #[true,true,false,true,false,false,false,false] rfl rfl (take_ofW HT_.out HW_.out (by kernel_rfl)) (fun _ _ _ h => h) (Or.inl ⟨by rfl, ?_⟩) hHeld ?_ ?_
         rotate_left
         ·rintro w' ⟨s0, s1, s2, s3, s4, s5, s6, s7⟩
          go_simp
          with_reducible rfl
         rotate_left
         ·simp only [Act.put, List.setIfInBounds_toArray, List.set_cons_zero, List.set_cons_succ, i64_w, i32_w]
          rfl
         refine take_ (i := 4) (N := some 45) (v := ?_) (a' := ?_) #[true,true,false,true,true,false,false,false] rfl rfl (take_ofW HT_.out HW_.out (by kernel_rfl)) (fun _ _ _ h => h) (Or.inl ⟨by rfl, ?_⟩) hHeld ?_ ?_
         rotate_left
         ·rintro w' ⟨s0, s1, s2, s3, s4, s5, s6, s7⟩
          go_simp
          with_reducible rfl
         rotate_left
         ·simp only [Act.put, List.setIfInBounds_toArray, List.set_cons_zero, List.set_cons_succ, i64_w, i32_w]
          rfl
         refine one_ (i := 2) (N := some 43) #[true,true,true,true,true,false,false,false] rfl rfl (one_of HT_.out (by kernel_rfl)) (by decide) (fun K hK => ?_)
         refine goes_ Try.func26 (by kernel_rfl) rfl #[.int .u64 a0_3] (by rfl) rfl rfl z5_ ?_
         with_reducible refine (vernierref04_Of.calls kj20 a0_3 t400 _ A48.out).mono ?_
         rintro e w58 ⟨v401, rfl, ho0, hb⟩
         refine ⟨_, rfl, ?_⟩
         have n0_ := am_ (Kd.R_lower ho0 (below_size (z3_ HB.out)))
         have n1_ := am_ (blk_below (g := gb395) (z1_ BK395.out) hb)
         have n2_ := am_ (blk_below (g := gb396) (z1_ BK396.out) hb)
         have n3_ := am_ (blk_below (g := gb397) (z1_ BK397.out) hb)
         have n4_ := am_ (below_step (z3_ HB.out) hb)
         clear BK395
         clear BK396
         clear BK397
         clear HB
         have HO402 := n0_
         have BK395 := n1_
         have BK396 := n2_
         have BK397 := n3_
         have HB := n4_
         clear n0_ n1_ n2_ n3_ n4_
         (try clear hb)
         (try clear hb2)
         (try clear hk)
         (try clear hi)
         (try clear ho0)
         refine hK.out _ _ ⟨(blk_cell BK395.out 0).trans rfl, (blk_cell BK395.out 1).trans rfl, (blk_cell BK395.out 2).trans rfl, (blk_cell BK395.out 3).trans rfl, (blk_cell BK396.out 0).trans rfl, (blk_cell BK396.out 1).trans rfl, (blk_cell BK396.out 2).trans rfl, (blk_cell BK396.out 3).trans rfl⟩ (fun hHeld => ?_)
         clear hK K
         refine norm_ (a' := ?_) ?_ ?_
         rotate_left
         ·show Act.put _ (some 43) _ = _
          simp only [Act.put, List.setIfInBounds_toArray, List.set_cons_zero, List.set_cons_succ, i64_w, i32_w]
          rfl
         refine one_ (i := 5) (N := some 46) #[true,true,true,true,true,true,false,false] rfl rfl (one_of HT_.out (by kernel_rfl)) (by decide) (fun K hK => ?_)
         refine goes_ Try.func26 (by kernel_rfl) rfl #[.int .u64 a1_3] (by rfl) rfl rfl z5_ ?_
         with_reducible refine (vernierref04_Of.calls kj20 a1_3 t403 _ A49.out).mono ?_
         rintro e w59 ⟨v404, rfl, ho0, hb⟩
         refine ⟨_, rfl, ?_⟩
         have n0_ := am_ (Kd.R_elder' (by (with_reducible repeat (first | apply Kd.R_alloc | apply Kd.R_drewN | apply Kd.R_drew));exact HO402.out) (Kd.R_base ho0) hb)
         have n1_ := am_ (Kd.R_lower (Kd.R_new' ho0 (Kd.R_lt (by (with_reducible repeat (first | apply Kd.R_alloc | apply Kd.R_drewN | apply Kd.R_drew));exact HO402.out))) (below_size (z3_ HB.out)))
         have n2_ := am_ (blk_below (g := gb395) (z1_ BK395.out) hb)
         have n3_ := am_ (blk_below (g := gb396) (z1_ BK396.out) hb)
         have n4_ := am_ (blk_below (g := gb397) (z1_ BK397.out) hb)
         have n5_ := am_ (below_step (z3_ HB.out) hb)
         clear HO402
         clear BK395
         clear BK396
         clear BK397
         clear HB
         have HO402 := n0_
         have HO405 := n1_
         have BK395 := n2_
         have BK396 := n3_
         have BK397 := n4_
         have HB := n5_
         clear n0_ n1_ n2_ n3_ n4_ n5_
         (try clear hb)
         (try clear hb2)
         (try clear hk)
         (try clear hi)
         (try clear ho0)
         obtain ⟨Ao60, co60, eo60⟩ := Kd.R_slice HO402.out
         (first | subst eo60 | (injection eo60 with f1_ f2_ f3_;have f4_ := f1_.symm;have f5_ := f3_.symm;clear f1_ f2_ f3_;subst f4_;subst f5_))
         obtain ⟨Ao61, co61, eo61⟩ := Kd.R_slice HO405.out
         (first | subst eo61 | (injection eo61 with f1_ f2_ f3_;have f4_ := f1_.symm;have f5_ := f3_.symm;clear f1_ f2_ f3_;subst f4_;subst f5_))
         refine hK.out _ _ ⟨(blk_cell BK395.out 0).trans rfl, (blk_cell BK395.out 1).trans rfl, (blk_cell BK395.out 2).trans rfl, (blk_cell BK395.out 3).trans rfl, (blk_cell BK396.out 0).trans rfl, (blk_cell BK396.out 1).trans rfl, (blk_cell BK396.out 2).trans rfl, (blk_cell BK396.out 3).trans rfl⟩ (fun hHeld => ?_)
         clear hK K
         refine norm_ (a' := ?_) ?_ ?_
         rotate_left
         ·show Act.put _ (some 46) _ = _
          simp only [Act.put, List.setIfInBounds_toArray, List.set_cons_zero, List.set_cons_succ, i64_w, i32_w]
          rfl
         refine one_ (i := 6) (N := some 47) #[true,true,true,true,true,true,true,false] rfl rfl (one_of HT_.out (by kernel_rfl)) (by decide) (fun K hK => ?_)
         refine goes_ Try.func25 (by kernel_rfl) rfl #[.slice Ao60 t400.length co60,.slice Ao61 t403.length co61] (by rfl) rfl rfl z5_ ?_
         with_reducible refine (vernierref04_Mul.calls kj20 _ _ t400 _ _ t403 t406 _ ?side1 ?side2 ?side3 ?side4 A50.out).mono ?_
         (case side1 => repeat (first | exact (Kd.R_reads' HO402.out).2.2 | (with_reducible refine Kd.C_alloc ?_ _) | (with_reducible refine Kd.C_drewN ?_ _) | (with_reducible refine Kd.C_drew ?_)))
         (case side2 => exact (Kd.R_reads' HO402.out).2.1)
         (case side3 => repeat (first | exact (Kd.R_reads' HO405.out).2.2 | (with_reducible refine Kd.C_alloc ?_ _) | (with_reducible refine Kd.C_drewN ?_ _) | (with_reducible refine Kd.C_drew ?_)))
         (case side4 => exact (Kd.R_reads' HO405.out).2.1)
         rintro e w62 ⟨v407, rfl, ho0, hb⟩
         refine ⟨_, rfl, ?_⟩
         have n0_ := am_ (Kd.R_elder' (by (with_reducible repeat (first | apply Kd.R_alloc | apply Kd.R_drewN | apply Kd.R_drew));exact HO402.out) (Kd.R_base ho0) hb)
         have n1_ := am_ (Kd.R_elder' (by (with_reducible repeat (first | apply Kd.R_alloc | apply Kd.R_drewN | apply Kd.R_drew));exact HO405.out) (Kd.R_base ho0) hb)
         have n2_ := am_ (Kd.R_lower (Kd.R_new' (Kd.R_new' ho0 (Kd.R_lt (by (with_reducible repeat (first | apply Kd.R_alloc | apply Kd.R_drewN | apply Kd.R_drew));exact HO402.out))) (Kd.R_lt (by (with_reducible repeat (first | apply Kd.R_alloc | apply Kd.R_drewN | apply Kd.R_drew));exact HO405.out))) (below_size (z3_ HB.out)))
         have n3_ := am_ (blk_below (g := gb395) (z1_ BK395.out) hb)
         have n4_ := am_ (blk_below (g := gb396) (z1_ BK396.out) hb)
         have n5_ := am_ (blk_below (g := gb397) (z1_ BK397.out) hb)
         have n6_ := am_ (below_step (z3_ HB.out) hb)
         clear HO402
         clear HO405
         clear BK395
         clear BK396
         clear BK397
         clear HB
         have HO402 := n0_
         have HO405 := n1_
         have HO408 := n2_
         have BK395 := n3_
         have BK396 := n4_
         have BK397 := n5_
         have HB := n6_
         clear n0_ n1_ n2_ n3_ n4_ n5_ n6_
         (try clear hb)
         (try clear hb2)
         (try clear hk)
         (try clear hi)
         (try clear ho0)
         refine hK.out _ _ ⟨(blk_cell BK395.out 0).trans rfl, (blk_cell BK395.out 1).trans rfl, (blk_cell BK395.out 2).trans rfl, (blk_cell BK395.out 3).trans rfl, (blk_cell BK396.out 0).trans rfl, (blk_cell BK396.out 1).trans rfl, (blk_cell BK396.out 2).trans rfl, (blk_cell BK396.out 3).trans rfl⟩ (fun hHeld => ?_)
         clear hK K
         refine norm_ (a' := ?_) ?_ ?_
         rotate_left
         ·show Act.put _ (some 47) _ = _
          simp only [Act.put, List.setIfInBounds_toArray, List.set_cons_zero, List.set_cons_succ, i64_w, i32_w]
          rfl
         refine pure_ (i := 7) (N := some 8) (v := ?_) (a' := ?_) #[true,true,true,true,true,true,true,true] rfl rfl (any_of HT_.out (by kernel_rfl)) (fun _ _ _ h => h) (Or.inl ⟨by rfl, ?_⟩) ?_ ?_
         rotate_left
         ·intro w'
          go_simp
          with_reducible rfl
         rotate_left
         ·simp only [Act.put, List.setIfInBounds_toArray, List.set_cons_zero, List.set_cons_succ, i64_w, i32_w]
          rfl
         refine done_ (done_of HT_.out (by kernel_rfl)) ?_
         obtain ⟨hcz63_0, hcz63_1, hcz63_2, hcz63_3, hfz63_0⟩ := zc4_ BK395.out
         obtain ⟨hcz64_0, hcz64_1, hcz64_2, hcz64_3, hfz64_0⟩ := zc4_ BK396.out
         obtain ⟨Ao65, co65, eo65⟩ := Kd.R_slice HO408.out
         subst eo65
         try go_wp2_with (first | ((with_reducible refine gate_callee (f := 27) rfl ?_);refine goesL_ (some 60) rfl rfl Try.func27 (by kernel_rfl) rfl #[.bool (a0_1 != a1_1),.slice Ao65 t406.length co65,.int .i64 (wrap64 ((wrap64 (a0_2 + a1_2)) - 126)),.bool false] rfl z5_ ?_;(with_reducible refine (vernierref07_Exactly.calls kj20 (a0_1 != a1_1) (fun k_ => some k_ = (.slice Ao65 t406.length co65 : Value).ownBlock) (.slice Ao65 t406.length co65) t406 (wrap64 ((wrap64 (a0_2 + a1_2)) - 126)) false t409 t410 t411 t412 t413 t414 w _ ?side1 ?side2 A51.out).mono ?_);(case side1 => repeat (first | (with_reducible first | exact HB.out | apply below_alloc | apply pw_below_drewN | apply below_drew1 | refine below_set ?_ GE395.out | refine below_set ?_ GE396.out | refine below_set ?_ GE397.out) | exact HB.out));(case side2 => exact Kd.R_tight rfl HO408.out);rintro e w66 ⟨rfl, hb, hkp⟩;refine ⟨_, rfl, ?_⟩;have n0_ := am_ (blk_kept (z1_ BK395.out) hkp (fun hs_ => (fun e_ => (Kd.R_ne HO408.out BK395.out (by decide)) e_) hs_));have n1_ := am_ (blk_kept (z1_ BK396.out) hkp (fun hs_ => (fun e_ => (Kd.R_ne HO408.out BK396.out (by decide)) e_) hs_));have n2_ := am_ (blk_kept (z1_ BK397.out) hkp (fun hs_ => (fun e_ => (Kd.R_ne HO408.out BK397.out (by decide)) e_) hs_));have n3_ := am_ (Kd.R_mono (ok' := fun k_ => some k_ ≠ (.slice Ao61 t403.length co61 : Value).ownBlock) (Kd.R_keptB (HO402.out) hkp (fun k_ hk_ hs_ => (hk_.2) hs_)) (fun k_ hk_ => hk_.1.1.2));have n4_ := am_ (Kd.R_mono (ok' := fun k_ => some k_ ≠ (.slice Ao60 t400.length co60 : Value).ownBlock) (Kd.R_keptB (HO405.out) hkp (fun k_ hk_ hs_ => (hk_.2) hs_)) (fun k_ hk_ => hk_.1.1.2));have n5_ := am_ (hb);clear BK395;clear BK396;clear BK397;clear HO402;clear HO405;clear HB;clear HO408;have BK395 := n0_;have BK396 := n1_;have BK397 := n2_;have HO402 := n3_;have HO405 := n4_;have HB := n5_;clear n0_ n1_ n2_ n3_ n4_ n5_;(try clear hb);(try clear hkp);obtain ⟨hcz67_0, hcz67_1, hcz67_2, hcz67_3, hcz67_4, hcz67_5, hfz67_0⟩ := zc6_ BK397.out))
         refine bodyPost_ret (results_ct rfl _ _ gb397 27 #[.int .i64 t409,.bool t410,.int .i64 t411,.int .u64 t412,.int .u64 t413,.bool t414] (0, 0) _ rfl (by refine z2_ ?_;refine blk_put (cs := #[.int .i64 t409,.bool t410,.int .i64 t411,.int .u64 t412,.int .u64 t413,.bool false]) ?_ 5 _ rfl;refine z2_ ?_;refine blk_put (cs := #[.int .i64 t409,.bool t410,.int .i64 t411,.int .u64 t412,.int .u64 0,.bool false]) ?_ 4 _ rfl;refine z2_ ?_;refine blk_put (cs := #[.int .i64 t409,.bool t410,.int .i64 t411,.int .u64 0,.int .u64 0,.bool false]) ?_ 3 _ rfl;refine z2_ ?_;refine blk_put (cs := #[.int .i64 t409,.bool t410,.int .i64 0,.int .u64 0,.int .u64 0,.bool false]) ?_ 2 _ rfl;refine z2_ ?_;refine blk_put (cs := #[.int .i64 t409,.bool false,.int .i64 0,.int .u64 0,.int .u64 0,.bool false]) ?_ 1 _ rfl;refine z2_ ?_;refine blk_put (cs := #[.int .i64 0,.bool false,.int .i64 0,.int .u64 0,.int .u64 0,.bool false]) ?_ 0 _ rfl;refine z2_ ?_;exact BK397.out) Try.underlying27 rfl (by kernel_rfl)) rfl ?_
         exact ⟨z6_, z3_ HB.out⟩
def vernierref01_Number.l0 : Nat → ByteArray → Int → Int → Option (Int)
 | 0, _, _, _ => none
 | k + 1, x0, x3, x4 => if x4 < (x0.size : Int) then (if 0 ≤ x4 then (vernierref01_Number.l0 k x0 (IntKind.u64.wrap ((IntKind.u64.wrap (2 * x3)) + (((bt x0 x4) - 48) % 256))) (wrap64 (x4 + 1))) else (none)) else (some x3)
def vernierref01_Number.f (k : Nat) (a0 : ByteArray) : Option (Int) := vernierref01_Number.l0 k a0 0 0
theorem vernierref01_Number.mono_l : ∀ k, (∀ y0 y1 y2, LeO (vernierref01_Number.l0 k y0 y1 y2) (vernierref01_Number.l0 (k + 1) y0 y1 y2))
 | 0 => fun _ _ _ r h => by simp [vernierref01_Number.l0] at h
 | k + 1 => by
  have ih0 := vernierref01_Number.mono_l k
  ·intro y0 y1 y2
   unfold vernierref01_Number.l0
   repeat' first
   | (with_reducible exact ih0 _ _ _)
   | (with_reducible exact LeO.refl _)
   | (with_reducible exact LeO.none _)
   | (with_reducible refine LeO.ite ?_ ?_)
   | (with_reducible refine LeO.bind ?_ (fun _ => ?_))
   | exact ih0 _ _ _
   | exact LeO.none _
   | refine LeO.ite ?_ ?_
   | refine LeO.bind ?_ (fun _ => ?_)
theorem vernierref01_Number.mono : ∀ a0 k, LeO (vernierref01_Number.f k a0) (vernierref01_Number.f (k + 1) a0) := by
 intro a0 k
 have ih0 := vernierref01_Number.mono_l k
 unfold vernierref01_Number.f
 repeat' first
   | (with_reducible exact ih0 _ _ _)
   | (with_reducible exact LeO.refl _)
   | (with_reducible exact LeO.none _)
   | (with_reducible refine LeO.ite ?_ ?_)
   | (with_reducible refine LeO.bind ?_ (fun _ => ?_))
   | exact ih0 _ _ _
   | exact LeO.none _
   | refine LeO.ite ?_ ?_
   | refine LeO.bind ?_ (fun _ => ?_)
set_option maxHeartbeats 8000000 in
set_option maxRecDepth 100000 in
theorem vernierref01_Number.calls (k : Nat) (a0 : ByteArray) (r : Int) (w : World) (h : vernierref01_Number.f k a0 = some r) :
  Calls Try.prog 53 #[.string a0] w fun e w' => e = .returned (.int .u64 r) ∧ Drawn0 w w' := by
 have H : (vernierref01_Number.l0 k a0 0 0) = some r := h
 clear h
 have H' := am_ H
 clear H
 go_enter Try.func53, Try.ntmps53
 go_wp2
 go_loopg [3, 4] k (fun kq v3 v4 w' => ∃ (x3_1 : Int) (x4_1 : Int), v3 = .int .u64 x3_1 ∧ v4 = .int .i64 x4_1 ∧ Aside0 (vernierref01_Number.l0 kq a0 x3_1 x4_1 = some r) ∧ Aside0 (kq ≤ k) ∧ Drawn0 w w')
 case atStart => exact ⟨(0), (0), (by first | rfl | (simp;done) | (simp [*];done)), (by first | rfl | (simp;done) | (simp [*];done)), H', ⟨Nat.le_refl _⟩, by repeat (first | exact Drawn0.refl _ | apply Drawn0.step)⟩
 case round =>
  clear H'
  obtain ⟨x3_1, x4_1, rfl, rfl, HA, HK1, ⟨m1, rfl⟩⟩ := hrel
  cases gk with
  | zero => exact absurd HA.out (by simp [vernierref01_Number.l0])
  | succ k1 =>
   have H := HA.out
   clear HA
   simp only [vernierref01_Number.l0] at H
   by_cases c2 : x4_1 < (a0.size : Int)
   ·rw [if_pos c2] at H
    have c2b0 : decide (x4_1 < (a0.size : Int)) = true := decide_eq_true c2
    clear c2
    by_cases c3 : 0 ≤ x4_1
    ·rw [if_pos c3] at H
     have c3b0 : decide (0 ≤ x4_1) = true := decide_eq_true c3
     clear c3
     have H' := am_ H
     clear H
     have p4 : 0 ≤ (x4_1 : Int) := of_decide_eq_true (by first | (with_reducible assumption) | assumption)
     have q4 : x4_1 < (a0.size : Int) := of_decide_eq_true (by first | (with_reducible assumption) | assumption)
     have hx4 := bt_at a0 x4_1
     replace p4 := eq_true p4
     replace q4 := eq_true q4
     go_wp2
     go_roundg k1
     case measure => have := HK1.out;omega
     case rel => exact ⟨(IntKind.u64.wrap ((IntKind.u64.wrap (2 * x3_1)) + (((bt a0 x4_1) - 48) % 256))), (wrap64 (x4_1 + 1)), (by first | rfl | (simp;done) | (simp [*];done)), (by first | rfl | (simp;done) | (simp [*];done)), H', ⟨by have := HK1.out;omega⟩, by repeat (first | exact Drawn0.refl _ | apply Drawn0.step)⟩
    ·rw [if_neg c3] at H
     exact absurd H (by simp)
   ·rw [if_neg c2] at H
    have c2b0 : decide (x4_1 < (a0.size : Int)) = false := decide_eq_false c2
    clear c2
    obtain rfl := Option.some.inj H
    go_wp2
    go_ret
    exact ⟨by first | rfl | (simp;done) | (simp [*];done), by repeat (first | exact Drawn0.refl _ | apply Drawn0.step)⟩
def vernierref01_Text.l0 : Nat → Int → List Int → Int → Option (ByteArray)
 | 0, _, _, _ => none
 | k + 1, x0, x5, x6 => if x6 ≥ 0 then (if 0 ≤ x6 then (if x5.length < 140737488355328 then (vernierref01_Text.l0 k x0 (x5 ++ [(48 + (Int.tmod (shr .u64 x0 x6) 2)) % 256]) (wrap64 (x6 - 1))) else (none)) else (none)) else (some (strOfNums x5))
def vernierref01_Text.f (k : Nat) (a0 : Int) (a1 : Int) : Option (ByteArray) := vernierref01_Text.l0 k a0 ([] : List Int) (wrap64 (a1 - 1))
theorem vernierref01_Text.mono_l : ∀ k, (∀ y0 y1 y2, LeO (vernierref01_Text.l0 k y0 y1 y2) (vernierref01_Text.l0 (k + 1) y0 y1 y2))
 | 0 => fun _ _ _ r h => by simp [vernierref01_Text.l0] at h
 | k + 1 => by
  have ih0 := vernierref01_Text.mono_l k
  ·intro y0 y1 y2
   unfold vernierref01_Text.l0
   repeat' first
   | (with_reducible exact ih0 _ _ _)
   | (with_reducible exact LeO.refl _)
   | (with_reducible exact LeO.none _)
   | (with_reducible refine LeO.ite ?_ ?_)
   | (with_reducible refine LeO.bind ?_ (fun _ => ?_))
   | exact ih0 _ _ _
   | exact LeO.none _
   | refine LeO.ite ?_ ?_
   | refine LeO.bind ?_ (fun _ => ?_)
theorem vernierref01_Text.mono : ∀ a0 a1 k, LeO (vernierref01_Text.f k a0 a1) (vernierref01_Text.f (k + 1) a0 a1) := by
 intro a0 a1 k
 have ih0 := vernierref01_Text.mono_l k
 unfold vernierref01_Text.f
 repeat' first
   | (with_reducible exact ih0 _ _ _)
   | (with_reducible exact LeO.refl _)
   | (with_reducible exact LeO.none _)
   | (with_reducible refine LeO.ite ?_ ?_)
   | (with_reducible refine LeO.bind ?_ (fun _ => ?_))
   | exact ih0 _ _ _
   | exact LeO.none _
   | refine LeO.ite ?_ ?_
   | refine LeO.bind ?_ (fun _ => ?_)
set_option maxHeartbeats 8000000 in
set_option maxRecDepth 100000 in
theorem vernierref01_Text.calls (k : Nat) (a0 : Int) (a1 : Int) (r : ByteArray) (w : World) (h : vernierref01_Text.f k a0 a1 = some r) :
  Calls Try.prog 54 #[.int .u64 a0,.int .i64 a1] w fun e w' => e = .returned (.string r) ∧ Below w.heap.size w w' := by
 have HB := am_ (Below.refl w.heap.size w)
 have H : (vernierref01_Text.l0 k a0 ([] : List Int) (wrap64 (a1 - 1))) = some r := h
 clear h
 have H' := am_ H
 clear H
 go_enter Try.func54, Try.ntmps54
 go_wp2
 go_loopg [5, 6] k (fun kq v5 v6 w' => ∃ (x5_1 : List Int) (x6_1 : Int), v6 = .int .i64 x6_1 ∧ Aside0 (vernierref01_Text.l0 kq a0 x5_1 x6_1 = some r) ∧ Aside0 (kq ≤ k) ∧ Aside0 (Kd.R (Kd.int .u8) 5 w' w.heap.size (fun _ => True) v5 x5_1) ∧ Aside0 (Below w.heap.size w w'))
 case atStart => exact ⟨(([] : List Int)), (wrap64 (a1 - 1)), (by first | rfl | (simp;done) | (simp [*];done)), H', ⟨Nat.le_refl _⟩, ⟨by first | exact Kd.R_nil _ _ _ _ _ | exact Kd.N_nil _ _ _ _ _ | exact Kd.V_nil _ _ _ _ _ | exact Kd.Q_nil _ _ _ _ _ | exact Kd.S_nil _ _ _ _ _⟩, ⟨z3_ HB.out⟩⟩
 case round =>
  clear H'
  obtain ⟨x5_1, x6_1, rfl, HA, HK1, HO_5, HB⟩ := hrel
  cases gk with
  | zero => exact absurd HA.out (by simp [vernierref01_Text.l0])
  | succ k1 =>
   have H := HA.out
   clear HA
   simp only [vernierref01_Text.l0] at H
   by_cases c3 : x6_1 ≥ 0
   ·rw [if_pos c3] at H
    have c3b0 : decide (0 ≤ x6_1) = true := decide_eq_true c3
    clear c3
    by_cases c4 : 0 ≤ x6_1
    ·rw [if_pos c4] at H
     have c4b0 := eq_true c4
     have c4b1 : decide (0 ≤ x6_1) = true := decide_eq_true c4
     clear c4
     obtain ⟨ji5, hji5⟩ : ∃ j_ : Int, (shr .u64 a0 x6_1) = j_ := ⟨_, rfl⟩
     replace H : (if x5_1.length < 140737488355328 then (vernierref01_Text.l0 k1 a0 (x5_1 ++ [(48 + (Int.tmod (ji5) 2)) % 256]) (wrap64 (x6_1 - 1))) else (none)) = some r := by first | (rw [hji5] at H;exact H) | (simp only [hji5] at H ⊢;exact H)
     have hji5_ : (a0 / 2 ^ min x6_1.toNat 64) = ji5 := hji5
     have hji5z : x6_1 ≤ 64 → (a0 / 2 ^ x6_1.toNat) = ji5 := shr_small hji5
     (try (have hji5Z_ := hji5z (by omega)))
     by_cases c6 : x5_1.length < 140737488355328
     ·rw [if_pos c6] at H
      have LMc6 := am_ c6
      clear c6
      obtain ⟨y438, hy438⟩ : ∃ y_ : List Int, y_ = (x5_1 ++ [(48 + (Int.tmod (ji5) 2)) % 256]) := ⟨_, rfl⟩
      replace H : (vernierref01_Text.l0 k1 a0 y438 (wrap64 (x6_1 - 1))) = some r := by first | (rw [hy438];with_reducible exact H) | (have H2_ := (Option.bind_some _ _).symm.trans H;rw [hy438];with_reducible exact H2_) | (have H2_ := (Option.bind_some _ _).symm.trans H;with_reducible exact H2_) | with_reducible exact H | (rw [hy438];exact H) | exact H
      have Ny438 := am_ hy438
      clear hy438
      have H' := am_ H
      clear H
      go_wp2_with (first | ((with_reducible refine gate_builtin (b := .append) (xs := #[.tmp 13,.tmp 20]) rfl ?_);at_builtin;refine Kd.R_append (Kd.int .u8) (w0 := w) w.heap.size rfl (.tmp 13) (.tmp 20) 119 5 (.int .u8 0) 1 rfl Try.underlying119 info5 rfl (by decide) (by omega) u5 x5_1 ((48 + (Int.tmod (ji5) 2)) % 256) [.int .u8 ((48 + (Int.tmod (ji5) 2)) % 256)] (fun _ => True) (fun _ => False) rfl rfl ?aP (fun _ hk => hk.elim) ?aF ?aO ?aB ?aS ?aL ?_;(case aP => exact rfl);(case aB => exact (z3_ HB.out));(case aF => exact (fun _ _ => trivial));(case aO => exact (by (with_reducible repeat (first | apply Kd.R_alloc | apply Kd.R_drewN | apply Kd.R_drew));exact HO_5.out));(case aS => exact (below_size (z3_ HB.out)));(case aL => have := LMc6.out;omega);intro v439 w7 ho hb hg hat;rw [← Ny438.out] at ho;have n0_ := am_ (hb);have n1_ := am_ (ho);clear HB;clear HO_5;have HB := n0_;have HO440 := n1_;clear n0_ n1_;clear ho hb hg hat))
      go_roundg k1
      case measure => have := HK1.out;omega
      case rel => exact ⟨(y438), (wrap64 (x6_1 - 1)), (by first | rfl | (simp;done) | (simp [*];done)), H', ⟨by have := HK1.out;omega⟩, ⟨by (with_reducible repeat (first | apply Kd.R_alloc | apply Kd.R_drewN | apply Kd.R_drew));exact HO440.out⟩, ⟨z3_ HB.out⟩⟩
     ·rw [if_neg c6] at H
      exact absurd H (by simp)
    ·rw [if_neg c4] at H
     exact absurd H (by simp)
   ·rw [if_neg c3] at H
    have c3b0 : decide (0 ≤ x6_1) = false := decide_eq_false c3
    clear c3
    obtain rfl := Option.some.inj H
    have hcv8 := own_string (P := Try.prog) Try.underlying119 Try.underlying5 Try.underlying9 (Kd.own_of_R HO_5.out)
    go_wp2
    go_ret
    exact ⟨z6_, z3_ HB.out⟩
def vernierref05_Power.l0 : Nat → Int → Int → Int → Option (Int)
 | 0, _, _, _ => none
 | k + 1, x0, x3, x4 => if x4 < x0 then (vernierref05_Power.l0 k x0 (IntKind.u64.wrap (2 * x3)) (wrap64 (x4 + 1))) else (some x3)
def vernierref05_Power.f (k : Nat) (a0 : Int) : Option (Int) := vernierref05_Power.l0 k a0 1 0
theorem vernierref05_Power.mono_l : ∀ k, (∀ y0 y1 y2, LeO (vernierref05_Power.l0 k y0 y1 y2) (vernierref05_Power.l0 (k + 1) y0 y1 y2))
 | 0 => fun _ _ _ r h => by simp [vernierref05_Power.l0] at h
 | k + 1 => by
  have ih0 := vernierref05_Power.mono_l k
  ·intro y0 y1 y2
   unfold vernierref05_Power.l0
   repeat' first
   | (with_reducible exact ih0 _ _ _)
   | (with_reducible exact LeO.refl _)
   | (with_reducible exact LeO.none _)
   | (with_reducible refine LeO.ite ?_ ?_)
   | (with_reducible refine LeO.bind ?_ (fun _ => ?_))
   | exact ih0 _ _ _
   | exact LeO.none _
   | refine LeO.ite ?_ ?_
   | refine LeO.bind ?_ (fun _ => ?_)
theorem vernierref05_Power.mono : ∀ a0 k, LeO (vernierref05_Power.f k a0) (vernierref05_Power.f (k + 1) a0) := by
 intro a0 k
 have ih0 := vernierref05_Power.mono_l k
 unfold vernierref05_Power.f
 repeat' first
   | (with_reducible exact ih0 _ _ _)
   | (with_reducible exact LeO.refl _)
   | (with_reducible exact LeO.none _)
   | (with_reducible refine LeO.ite ?_ ?_)
   | (with_reducible refine LeO.bind ?_ (fun _ => ?_))
   | exact ih0 _ _ _
   | exact LeO.none _
   | refine LeO.ite ?_ ?_
   | refine LeO.bind ?_ (fun _ => ?_)
set_option maxHeartbeats 8000000 in
set_option maxRecDepth 100000 in
theorem vernierref05_Power.calls (k : Nat) (a0 : Int) (r : Int) (w : World) (h : vernierref05_Power.f k a0 = some r) :
  Calls Try.prog 15 #[.int .i64 a0] w fun e w' => e = .returned (.int .u64 r) ∧ Drawn0 w w' := by
 have H : (vernierref05_Power.l0 k a0 1 0) = some r := h
 clear h
 have H' := am_ H
 clear H
 go_enter Try.func15, Try.ntmps15
 go_wp2
 go_loopg [3, 4] k (fun kq v3 v4 w' => ∃ (x3_1 : Int) (x4_1 : Int), v3 = .int .u64 x3_1 ∧ v4 = .int .i64 x4_1 ∧ Aside0 (vernierref05_Power.l0 kq a0 x3_1 x4_1 = some r) ∧ Aside0 (kq ≤ k) ∧ Drawn0 w w')
 case atStart => exact ⟨(1), (0), (by first | rfl | (simp;done) | (simp [*];done)), (by first | rfl | (simp;done) | (simp [*];done)), H', ⟨Nat.le_refl _⟩, by repeat (first | exact Drawn0.refl _ | apply Drawn0.step)⟩
 case round =>
  clear H'
  obtain ⟨x3_1, x4_1, rfl, rfl, HA, HK1, ⟨m1, rfl⟩⟩ := hrel
  cases gk with
  | zero => exact absurd HA.out (by simp [vernierref05_Power.l0])
  | succ k1 =>
   have H := HA.out
   clear HA
   simp only [vernierref05_Power.l0] at H
   by_cases c2 : x4_1 < a0
   ·rw [if_pos c2] at H
    have c2b0 : decide (x4_1 < a0) = true := decide_eq_true c2
    clear c2
    have H' := am_ H
    clear H
    go_wp2
    go_roundg k1
    case measure => have := HK1.out;omega
    case rel => exact ⟨(IntKind.u64.wrap (2 * x3_1)), (wrap64 (x4_1 + 1)), (by first | rfl | (simp;done) | (simp [*];done)), (by first | rfl | (simp;done) | (simp [*];done)), H', ⟨by have := HK1.out;omega⟩, by repeat (first | exact Drawn0.refl _ | apply Drawn0.step)⟩
   ·rw [if_neg c2] at H
    have c2b0 : decide (x4_1 < a0) = false := decide_eq_false c2
    clear c2
    obtain rfl := Option.some.inj H
    go_wp2
    go_ret
    exact ⟨by first | rfl | (simp;done) | (simp [*];done), by repeat (first | exact Drawn0.refl _ | apply Drawn0.step)⟩
def vernierref05_Fold.f (k : Nat) (a0 : Int) (a1 : Int) : Option (Int × Int) := (vernierref05_Is.f a0).bind fun t441 => (if t441 = true then ((vernierref01_Text.f k a1 a0).bind fun t442 => ((vernierref01_Number.f k t442).bind fun t443 => (some (t443, 0)))) else (some (0, 2)))
theorem vernierref05_Fold.mono : ∀ a0 a1 k, LeO (vernierref05_Fold.f k a0 a1) (vernierref05_Fold.f (k + 1) a0 a1) := by
 intro a0 a1 k
 unfold vernierref05_Fold.f
 repeat' first
   | (with_reducible exact vernierref01_Number.mono _ _)
   | (with_reducible exact vernierref01_Text.mono _ _ _)
   | (with_reducible exact LeO.refl _)
   | (with_reducible exact LeO.none _)
   | (with_reducible refine LeO.ite ?_ ?_)
   | (with_reducible refine LeO.bind ?_ (fun _ => ?_))
   | exact vernierref01_Number.mono _ _
   | exact vernierref01_Text.mono _ _ _
   | exact LeO.none _
   | refine LeO.ite ?_ ?_
   | refine LeO.bind ?_ (fun _ => ?_)
set_option maxHeartbeats 8000000 in
set_option maxRecDepth 100000 in
theorem vernierref05_Fold.calls (k : Nat) (a0 : Int) (a1 : Int) (r1 : Int) (r2 : Int) (w : World) (h : vernierref05_Fold.f k a0 a1 = some (r1, r2)) :
  Calls Try.prog 32 #[.int .i64 a0,.int .u64 a1] w fun e w' => e = .returned (.tuple #[.int .u64 r1,.int .i64 r2]) ∧ Below w.heap.size w w' := by
 have HB := am_ (Below.refl w.heap.size w)
 have H : ((vernierref05_Is.f a0).bind fun t441 => (if t441 = true then ((vernierref01_Text.f k a1 a0).bind fun t442 => ((vernierref01_Number.f k t442).bind fun t443 => (some (t443, 0)))) else (some (0, 2)))) = some (r1, r2) := h
 clear h
 replace H := Option.bind_eq_some_iff.mp H
 obtain ⟨t441, A30, H⟩ := H
 replace H : (if t441 = true then ((vernierref01_Text.f k a1 a0).bind fun t442 => ((vernierref01_Number.f k t442).bind fun t443 => (some (t443, 0)))) else (some (0, 2))) = some (r1, r2) := H
 have A3 := am_ A30
 clear A30
 by_cases c4 : t441 = true
 ·subst c4
  have H1 : ((vernierref01_Text.f k a1 a0).bind fun t442 => ((vernierref01_Number.f k t442).bind fun t443 => (some (t443, 0)))) = some (r1, r2) := by rw [if_pos rfl] at H;exact H
  clear H
  have H := H1
  clear H1
  replace H := Option.bind_eq_some_iff.mp H
  obtain ⟨t442, A50, H⟩ := H
  replace H : ((vernierref01_Number.f k t442).bind fun t443 => (some (t443, 0))) = some (r1, r2) := H
  have A5 := am_ A50
  clear A50
  replace H := Option.bind_eq_some_iff.mp H
  obtain ⟨t443, A60, H⟩ := H
  replace H : (some (t443, 0)) = some (r1, r2) := H
  have A6 := am_ A60
  clear A60
  simp only [Option.some.injEq, Prod.mk.injEq] at H
  obtain ⟨rfl, rfl⟩ := H
  go_enter Try.func32, Try.ntmps32
  go_wp2_with (first | ((with_reducible refine gate_callee (f := 14) rfl ?_);refine goesL_ (some 8) rfl rfl Try.func14 (by kernel_rfl) rfl #[.int .i64 a0] rfl z5_ ?_;(with_reducible refine (vernierref05_Is.calls a0 true _ A3.out).mono ?_);rintro e w' ⟨rfl, ⟨nd, rfl⟩⟩;refine ⟨_, rfl, ?_⟩) | ((with_reducible refine gate_callee (f := 54) rfl ?_);refine goesL_ (some 13) rfl rfl Try.func54 (by kernel_rfl) rfl #[.int .u64 a1,.int .i64 a0] rfl z5_ ?_;(with_reducible refine (vernierref01_Text.calls k a1 a0 t442 _ A5.out).mono ?_);rintro e w7 ⟨rfl, hb⟩;refine ⟨_, rfl, ?_⟩;have n0_ := am_ (below_step (z3_ HB.out) hb);clear HB;have HB := n0_;clear n0_;(try clear hb)) | ((with_reducible refine gate_callee (f := 53) rfl ?_);refine goesL_ (some 14) rfl rfl Try.func53 (by kernel_rfl) rfl #[.string t442] rfl z5_ ?_;(with_reducible refine (vernierref01_Number.calls k t442 t443 _ A6.out).mono ?_);rintro e w' ⟨rfl, ⟨nd, rfl⟩⟩;refine ⟨_, rfl, ?_⟩))
  go_ret2
  exact ⟨z6_, z3_ HB.out⟩
 ·replace c4 := Bool.eq_false_iff.mpr c4
  subst c4
  have H1 : (some (0, 2)) = some (r1, r2) := by rw [if_neg (show ¬ (false = true) by decide)] at H;exact H
  clear H
  have H := H1
  clear H1
  simp only [Option.some.injEq, Prod.mk.injEq] at H
  obtain ⟨rfl, rfl⟩ := H
  go_enter Try.func32, Try.ntmps32
  go_wp2_with (first | ((with_reducible refine gate_callee (f := 14) rfl ?_);refine goesL_ (some 8) rfl rfl Try.func14 (by kernel_rfl) rfl #[.int .i64 a0] rfl z5_ ?_;(with_reducible refine (vernierref05_Is.calls a0 false _ A3.out).mono ?_);rintro e w' ⟨rfl, ⟨nd, rfl⟩⟩;refine ⟨_, rfl, ?_⟩))
  go_ret2
  exact ⟨z6_, z3_ HB.out⟩
def vernierref05_Kind.f (k : Nat) (a0 : Int) (a1 : Int) : Option (Int × Int) := (vernierref05_Fold.f k a0 a1).bind fun bt444 => (if bt444.2 = 0 then (if bt444.1 = 0 then (some (0, 0)) else ((vernierref05_Power.f k (wrap64 (a0 - 1))).bind fun t446 => (if bt444.1 = t446 then (some (2, 0)) else (some (1, 0))))) else (some (0, bt444.2)))
theorem vernierref05_Kind.mono : ∀ a0 a1 k, LeO (vernierref05_Kind.f k a0 a1) (vernierref05_Kind.f (k + 1) a0 a1) := by
 intro a0 a1 k
 unfold vernierref05_Kind.f
 repeat' first
   | (with_reducible exact vernierref05_Fold.mono _ _ _)
   | (with_reducible exact vernierref05_Power.mono _ _)
   | (with_reducible exact LeO.refl _)
   | (with_reducible exact LeO.none _)
   | (with_reducible refine LeO.ite ?_ ?_)
   | (with_reducible refine LeO.bind ?_ (fun _ => ?_))
   | exact vernierref05_Fold.mono _ _ _
   | exact vernierref05_Power.mono _ _
   | exact LeO.none _
   | refine LeO.ite ?_ ?_
   | refine LeO.bind ?_ (fun _ => ?_)
set_option maxHeartbeats 8000000 in
set_option maxRecDepth 100000 in
theorem vernierref05_Kind.calls (k : Nat) (a0 : Int) (a1 : Int) (r1 : Int) (r2 : Int) (w : World) (h : vernierref05_Kind.f k a0 a1 = some (r1, r2)) :
  Calls Try.prog 35 #[.int .i64 a0,.int .u64 a1] w fun e w' => e = .returned (.tuple #[.int .i64 r1,.int .i64 r2]) ∧ Below w.heap.size w w' := by
 have HB := am_ (Below.refl w.heap.size w)
 have H : ((vernierref05_Fold.f k a0 a1).bind fun bt444 => (if bt444.2 = 0 then (if bt444.1 = 0 then (some (0, 0)) else ((vernierref05_Power.f k (wrap64 (a0 - 1))).bind fun t446 => (if bt444.1 = t446 then (some (2, 0)) else (some (1, 0))))) else (some (0, bt444.2)))) = some (r1, r2) := h
 clear h
 replace H := Option.bind_eq_some_iff.mp H
 obtain ⟨⟨t444, t445⟩, A30, H⟩ := H
 replace H : (if t445 = 0 then (if t444 = 0 then (some (0, 0)) else ((vernierref05_Power.f k (wrap64 (a0 - 1))).bind fun t446 => (if t444 = t446 then (some (2, 0)) else (some (1, 0))))) else (some (0, t445))) = some (r1, r2) := H
 have A3 := am_ A30
 clear A30
 by_cases c4 : t445 = 0
 ·rw [if_pos c4] at H
  have c4b0 : (t445 == 0) = true := beq_iff_eq.mpr c4
  have c4b1 : (t445 != 0) = false := bne_eq_false_iff_eq.mpr c4
  clear c4
  by_cases c5 : t444 = 0
  ·rw [if_pos c5] at H
   have c5b0 : (t444 == 0) = true := beq_iff_eq.mpr c5
   have c5b1 : (t444 != 0) = false := bne_eq_false_iff_eq.mpr c5
   clear c5
   simp only [Option.some.injEq, Prod.mk.injEq] at H
   obtain ⟨rfl, rfl⟩ := H
   go_enter Try.func35, Try.ntmps35
   go_wp2_with (first | ((with_reducible refine gate_callee (f := 32) rfl ?_);refine goesL_ (some 11) rfl rfl Try.func32 (by kernel_rfl) rfl #[.int .i64 a0,.int .u64 a1] rfl z5_ ?_;(with_reducible refine (vernierref05_Fold.calls k a0 a1 t444 t445 _ A3.out).mono ?_);rintro e w6 ⟨rfl, hb⟩;refine ⟨_, rfl, ?_⟩;have n0_ := am_ (below_step (z3_ HB.out) hb);clear HB;have HB := n0_;clear n0_;(try clear hb)))
   go_ret2
   exact ⟨z6_, z3_ HB.out⟩
  ·rw [if_neg c5] at H
   have c5b0 : (t444 == 0) = false := beq_eq_false_iff_ne.mpr c5
   have c5b1 : (t444 != 0) = true := bne_iff_ne.mpr c5
   replace H := Option.bind_eq_some_iff.mp H
   obtain ⟨t446, A70, H⟩ := H
   replace H : (if t444 = t446 then (some (2, 0)) else (some (1, 0))) = some (r1, r2) := H
   have A7 := am_ A70
   clear A70
   by_cases c8 : t444 = t446
   ·rw [if_pos c8] at H
    have c8b0 : (t444 == t446) = true := beq_iff_eq.mpr c8
    have c8b1 : (t444 != t446) = false := bne_eq_false_iff_eq.mpr c8
    clear c8
    simp only [Option.some.injEq, Prod.mk.injEq] at H
    obtain ⟨rfl, rfl⟩ := H
    go_enter Try.func35, Try.ntmps35
    go_wp2_with (first | ((with_reducible refine gate_callee (f := 32) rfl ?_);refine goesL_ (some 11) rfl rfl Try.func32 (by kernel_rfl) rfl #[.int .i64 a0,.int .u64 a1] rfl z5_ ?_;(with_reducible refine (vernierref05_Fold.calls k a0 a1 t444 t445 _ A3.out).mono ?_);rintro e w9 ⟨rfl, hb⟩;refine ⟨_, rfl, ?_⟩;have n0_ := am_ (below_step (z3_ HB.out) hb);clear HB;have HB := n0_;clear n0_;(try clear hb)) | ((with_reducible refine gate_callee (f := 15) rfl ?_);refine goesL_ (some 23) rfl rfl Try.func15 (by kernel_rfl) rfl #[.int .i64 (wrap64 (a0 - 1))] rfl z5_ ?_;(with_reducible refine (vernierref05_Power.calls k (wrap64 (a0 - 1)) t446 _ A7.out).mono ?_);rintro e w' ⟨rfl, ⟨nd, rfl⟩⟩;refine ⟨_, rfl, ?_⟩))
    go_ret2
    exact ⟨z6_, z3_ HB.out⟩
   ·rw [if_neg c8] at H
    have c8b0 : (t444 == t446) = false := beq_eq_false_iff_ne.mpr c8
    have c8b1 : (t444 != t446) = true := bne_iff_ne.mpr c8
    simp only [Option.some.injEq, Prod.mk.injEq] at H
    obtain ⟨rfl, rfl⟩ := H
    go_enter Try.func35, Try.ntmps35
    go_wp2_with (first | ((with_reducible refine gate_callee (f := 32) rfl ?_);refine goesL_ (some 11) rfl rfl Try.func32 (by kernel_rfl) rfl #[.int .i64 a0,.int .u64 a1] rfl z5_ ?_;(with_reducible refine (vernierref05_Fold.calls k a0 a1 t444 t445 _ A3.out).mono ?_);rintro e w10 ⟨rfl, hb⟩;refine ⟨_, rfl, ?_⟩;have n0_ := am_ (below_step (z3_ HB.out) hb);clear HB;have HB := n0_;clear n0_;(try clear hb)) | ((with_reducible refine gate_callee (f := 15) rfl ?_);refine goesL_ (some 23) rfl rfl Try.func15 (by kernel_rfl) rfl #[.int .i64 (wrap64 (a0 - 1))] rfl z5_ ?_;(with_reducible refine (vernierref05_Power.calls k (wrap64 (a0 - 1)) t446 _ A7.out).mono ?_);rintro e w' ⟨rfl, ⟨nd, rfl⟩⟩;refine ⟨_, rfl, ?_⟩))
    go_ret2
    exact ⟨z6_, z3_ HB.out⟩
 ·rw [if_neg c4] at H
  have c4b0 : (t445 == 0) = false := beq_eq_false_iff_ne.mpr c4
  have c4b1 : (t445 != 0) = true := bne_iff_ne.mpr c4
  simp only [Option.some.injEq, Prod.mk.injEq] at H
  obtain ⟨rfl, rfl⟩ := H
  go_enter Try.func35, Try.ntmps35
  go_wp2_with (first | ((with_reducible refine gate_callee (f := 32) rfl ?_);refine goesL_ (some 11) rfl rfl Try.func32 (by kernel_rfl) rfl #[.int .i64 a0,.int .u64 a1] rfl z5_ ?_;(with_reducible refine (vernierref05_Fold.calls k a0 a1 t444 t445 _ A3.out).mono ?_);rintro e w11 ⟨rfl, hb⟩;refine ⟨_, rfl, ?_⟩;have n0_ := am_ (below_step (z3_ HB.out) hb);clear HB;have HB := n0_;clear n0_;(try clear hb)))
  go_ret2
  exact ⟨z6_, z3_ HB.out⟩
def vernierref06_String.f (k : Nat) (a0 : Int) (a1 : Int) : Option (ByteArray) := (vernierref01_Text.f k a1 a0).bind fun t447 => (if 0 < (t447.size : Int) then (if (bt t447 0) = 49 then ((vernierref01_Text.f k (IntKind.u64.wrap (-a1)) a0).bind fun t448 => (if 1 ≤ (t448.size : Int) then (some (t448.extract 1 t448.size)) else (none))) else (if 1 ≤ (t447.size : Int) then (some (t447.extract 1 t447.size)) else (none))) else (none))
theorem vernierref06_String.mono : ∀ a0 a1 k, LeO (vernierref06_String.f k a0 a1) (vernierref06_String.f (k + 1) a0 a1) := by
 intro a0 a1 k
 unfold vernierref06_String.f
 repeat' first
   | (with_reducible exact vernierref01_Text.mono _ _ _)
   | (with_reducible exact LeO.refl _)
   | (with_reducible exact LeO.none _)
   | (with_reducible refine LeO.ite ?_ ?_)
   | (with_reducible refine LeO.bind ?_ (fun _ => ?_))
   | exact vernierref01_Text.mono _ _ _
   | exact LeO.none _
   | refine LeO.ite ?_ ?_
   | refine LeO.bind ?_ (fun _ => ?_)
set_option maxHeartbeats 8000000 in
set_option maxRecDepth 100000 in
theorem vernierref06_String.calls (k : Nat) (a0 : Int) (a1 : Int) (r : ByteArray) (w : World) (h : vernierref06_String.f k a0 a1 = some r) :
  Calls Try.prog 85 #[.int .i64 a0,.int .u64 a1] w fun e w' => e = .returned (.string r) ∧ Below w.heap.size w w' := by
 have HB := am_ (Below.refl w.heap.size w)
 have H : ((vernierref01_Text.f k a1 a0).bind fun t447 => (if 0 < (t447.size : Int) then (if (bt t447 0) = 49 then ((vernierref01_Text.f k (IntKind.u64.wrap (-a1)) a0).bind fun t448 => (if 1 ≤ (t448.size : Int) then (some (t448.extract 1 t448.size)) else (none))) else (if 1 ≤ (t447.size : Int) then (some (t447.extract 1 t447.size)) else (none))) else (none))) = some r := h
 clear h
 replace H := Option.bind_eq_some_iff.mp H
 obtain ⟨t447, A30, H⟩ := H
 replace H : (if 0 < (t447.size : Int) then (if (bt t447 0) = 49 then ((vernierref01_Text.f k (IntKind.u64.wrap (-a1)) a0).bind fun t448 => (if 1 ≤ (t448.size : Int) then (some (t448.extract 1 t448.size)) else (none))) else (if 1 ≤ (t447.size : Int) then (some (t447.extract 1 t447.size)) else (none))) else (none)) = some r := H
 have A3 := am_ A30
 clear A30
 by_cases c4 : 0 < (t447.size : Int)
 ·rw [if_pos c4] at H
  have c4b0 : decide (0 < (t447.size : Int)) = true := decide_eq_true c4
  have c4b1 : decide (0 < t447.size) = true := decide_eq_true (by omega)
  clear c4
  by_cases c6 : (bt t447 0) = 49
  ·rw [if_pos c6] at H
   have c6b0 : ((bt t447 0) == 49) = true := beq_iff_eq.mpr c6
   have c6b1 : ((bt t447 0) != 49) = false := bne_eq_false_iff_eq.mpr c6
   clear c6
   replace H := Option.bind_eq_some_iff.mp H
   obtain ⟨t448, A70, H⟩ := H
   replace H : (if 1 ≤ (t448.size : Int) then (some (t448.extract 1 t448.size)) else (none)) = some r := H
   have A7 := am_ A70
   clear A70
   by_cases c8 : 1 ≤ (t448.size : Int)
   ·rw [if_pos c8] at H
    have c8b0 := eq_true c8
    have c8b1 : decide (1 ≤ (t448.size : Int)) = true := decide_eq_true c8
    clear c8
    obtain rfl := Option.some.inj H
    go_enter Try.func85, Try.ntmps85
    go_wp2_with (first | ((with_reducible refine gate_callee (f := 54) rfl ?_);refine goesL_ (some 8) rfl rfl Try.func54 (by kernel_rfl) rfl #[.int .u64 a1,.int .i64 a0] rfl z5_ ?_;(with_reducible refine (vernierref01_Text.calls k a1 a0 t447 _ A3.out).mono ?_);rintro e w9 ⟨rfl, hb⟩;refine ⟨_, rfl, ?_⟩;have n0_ := am_ (below_step (z3_ HB.out) hb);clear HB;have HB := n0_;clear n0_;(try clear hb);have p5 : 0 ≤ (0 : Int) := (by omega);have q5 : 0 < t447.size := (by have : (0 : Int) < (t447.size : Int) := of_decide_eq_true (by first | (with_reducible assumption) | assumption);omega);have hx5 : ∀ h : 0 < t447.size, ((t447[0]'h).toNat : Int) = bt t447 0 := bt_at t447 0;clear p5;have qi5 : (0 < (t447.size : Int)) = True := eq_true (of_decide_eq_true (by first | (with_reducible assumption) | assumption));replace q5 := eq_true q5) | ((with_reducible refine gate_callee (f := 54) rfl ?_);refine goesL_ (some 15) rfl rfl Try.func54 (by kernel_rfl) rfl #[.int .u64 (IntKind.u64.wrap (-a1)),.int .i64 a0] rfl z5_ ?_;(with_reducible refine (vernierref01_Text.calls k (IntKind.u64.wrap (-a1)) a0 t448 _ A7.out).mono ?_);rintro e w10 ⟨rfl, hb⟩;refine ⟨_, rfl, ?_⟩;have n0_ := am_ (below_step (z3_ HB.out) hb);clear HB;have HB := n0_;clear n0_;(try clear hb)))
    go_ret
    exact ⟨z6_, z3_ HB.out⟩
   ·rw [if_neg c8] at H
    exact absurd H (by simp)
  ·rw [if_neg c6] at H
   have c6b0 : ((bt t447 0) == 49) = false := beq_eq_false_iff_ne.mpr c6
   have c6b1 : ((bt t447 0) != 49) = true := bne_iff_ne.mpr c6
   by_cases c11 : 1 ≤ (t447.size : Int)
   ·rw [if_pos c11] at H
    have c11b0 := eq_true c11
    have c11b1 : decide (1 ≤ (t447.size : Int)) = true := decide_eq_true c11
    clear c11
    obtain rfl := Option.some.inj H
    go_enter Try.func85, Try.ntmps85
    go_wp2_with (first | ((with_reducible refine gate_callee (f := 54) rfl ?_);refine goesL_ (some 8) rfl rfl Try.func54 (by kernel_rfl) rfl #[.int .u64 a1,.int .i64 a0] rfl z5_ ?_;(with_reducible refine (vernierref01_Text.calls k a1 a0 t447 _ A3.out).mono ?_);rintro e w12 ⟨rfl, hb⟩;refine ⟨_, rfl, ?_⟩;have n0_ := am_ (below_step (z3_ HB.out) hb);clear HB;have HB := n0_;clear n0_;(try clear hb);have p5 : 0 ≤ (0 : Int) := (by omega);have q5 : 0 < t447.size := (by have : (0 : Int) < (t447.size : Int) := of_decide_eq_true (by first | (with_reducible assumption) | assumption);omega);have hx5 : ∀ h : 0 < t447.size, ((t447[0]'h).toNat : Int) = bt t447 0 := bt_at t447 0;clear p5;have qi5 : (0 < (t447.size : Int)) = True := eq_true (of_decide_eq_true (by first | (with_reducible assumption) | assumption));replace q5 := eq_true q5))
    go_ret
    exact ⟨z6_, z3_ HB.out⟩
   ·rw [if_neg c11] at H
    exact absurd H (by simp)
 ·rw [if_neg c4] at H
  exact absurd H (by simp)
end Go.Proofs.Ytebhpipfkomhjaa.PAll
