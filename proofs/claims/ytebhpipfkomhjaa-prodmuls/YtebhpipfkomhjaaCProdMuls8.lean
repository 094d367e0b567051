-- Written by a program of this session out of its own texts (wip/tools/link.py).
import Derived.ArgAppend
import Derived.Below
import Derived.BigQuiet
import Derived.Deep.AppendLies
import Derived.Deep.CutBlock
import Derived.Deep.DeepCutAuto
import Derived.Deep.Draws
import Derived.Deep.LoopGhost
import Derived.Deep.OwnRows
import Derived.Deep.QuietTactic
import Derived.Deep.RegionHeld3
import Derived.KernelRfl
import Derived.LaidEql
import Derived.Laws.BitsLemmas
import Derived.Laws.BytesArg
import Derived.Laws.IdiomCopy
import Derived.Laws.MakeOwn
import Derived.Laws.OwnMore
import Derived.Laws.Rows
import Derived.Laws.Slices
import Derived.Laws.StructEq
import Derived.Lib.AppendStr
import Derived.Lib.BitFns
import Derived.Lib.ConvBytes
import Derived.Lib.Slices
import Derived.Lib.Small
import Derived.Lib.Strings
import Derived.Lib.Walk
import Derived.Maps.AppendAt
import Derived.OrdersHeld
import Derived.OwnWalk
import Derived.RowKit
import Derived.RowKit3
import Derived.Tactics
import Derived.Test.YtebhpipfkomhjaaProg
import Derived.WalkKit
import Derived.WideLaws
import Derived.Test.YtebhpipfkomhjaaCProdMuls1
import Derived.Test.YtebhpipfkomhjaaCProdMuls2
import Derived.Test.YtebhpipfkomhjaaCProdMuls3
import Derived.Test.YtebhpipfkomhjaaCProdMuls4
import Derived.Test.YtebhpipfkomhjaaCProdMuls5
import Derived.Test.YtebhpipfkomhjaaCProdMuls6
namespace Go.Proofs.Ytebhpipfkomhjaa.PAll
open Go.RowKit Go.Proofs.YtebhpipfkomhjaaW.PrintWords Go.Proofs.YtebhpipfkomhjaaW.PrintLast Go.Proofs.YtebhpipfkomhjaaW.PrintMore
attribute [local go_sem] max2_int min2_int max_two min_two max_three min_three max_four min_four
set_option linter.unusedVariables false
set_option linter.unusedSimpArgs false
def errW : Option Int → Value
 | none => .nilIface
 | some c => .iface 42 (.int .i64 c)
theorem errW_none : errW none = .nilIface := rfl
theorem errW_some (c : Int) : errW (some c) = .iface 42 (.int .i64 c) := rfl
theorem infoE : ∃ i, Try.prog.info? 42 = some i ∧ i.comparable = true := by
 have h : (Try.prog.info? 42).map (·.comparable) = some true := by kernel_rfl
 revert h
 cases hi : Try.prog.info? 42 with
 | none => intro h;cases h
 | some i => intro h;exact ⟨i, rfl, by simpa using h⟩
theorem eqEE29 (w : World) (a b : Int) : (binOp .eql 29 (.iface 42 (.int .i64 a)) (.iface 42 (.int .i64 b))).run Try.prog w = .ok (.bool (a == b)) w := by
 obtain ⟨i, h1, h2⟩ := infoE
 exact Go.Proofs.Ytebhpipfkomhjaa.ErrX.eql_int w a b Try.underlying29 Try.underlying42 h1 h2
theorem neEE29 (w : World) (a b : Int) : (binOp .neq 29 (.iface 42 (.int .i64 a)) (.iface 42 (.int .i64 b))).run Try.prog w = .ok (.bool (a != b)) w := by
 obtain ⟨i, h1, h2⟩ := infoE
 exact Go.Proofs.Ytebhpipfkomhjaa.ErrX.neq_int w a b Try.underlying29 Try.underlying42 h1 h2
theorem eqNE29 (w : World) (b : Int) : (binOp .eql 29 .nilIface (.iface 42 (.int .i64 b))).run Try.prog w = .ok (.bool false) w := Go.Proofs.Ytebhpipfkomhjaa.ErrX.eql_nil_left w _ _ Try.underlying29
theorem neNE29 (w : World) (b : Int) : (binOp .neq 29 .nilIface (.iface 42 (.int .i64 b))).run Try.prog w = .ok (.bool true) w := Go.Proofs.Ytebhpipfkomhjaa.ErrX.neq_nil_left w _ _ Try.underlying29
theorem info3 : (Try.prog.info? 3).map (fun i => (i.zero, i.size, i.bytes)) = some (some (.int .i64 0), 1, 8) := by kernel_rfl
theorem info5 : (Try.prog.info? 5).map (fun i => (i.zero, i.size, i.bytes)) = some (some (.int .u8 0), 1, 1) := by kernel_rfl
structure S24 where
 f0 : Int
 f1 : Bool
 f2 : Int
 f3 : Int
def z24 : S24 := ⟨(0 : Int), false,(0 : Int), (0 : Int)⟩
def k24 : Kd S24 := Kd.iso (Kd.pair (Kd.int .i64) (Kd.pair Kd.bool (Kd.pair (Kd.int .i64) (Kd.int .u64)))) (fun x : S24 => (x.f0, x.f1, x.f2, x.f3))
theorem k24_open {w : World} {x : S24} {cs : List Value} (h : k24.K w x cs) : cs = [.int .i64 x.f0,.bool x.f1,.int .i64 x.f2,.int .u64 x.f3] := by
 obtain ⟨_, _, rfl, rfl, ⟨_, _, rfl, rfl, ⟨_, _, rfl, rfl, rfl⟩⟩⟩ := h
 exact rfl
theorem k24_mkM (w : World) (base : Nat) (ok : Nat → Prop) (x : S24)  : k24.M w base ok x [.int .i64 x.f0,.bool x.f1,.int .i64 x.f2,.int .u64 x.f3] := ⟨[.int .i64 x.f0], [.bool x.f1,.int .i64 x.f2,.int .u64 x.f3], rfl, rfl, ⟨[.bool x.f1], [.int .i64 x.f2,.int .u64 x.f3], rfl, rfl, ⟨[.int .i64 x.f2], [.int .u64 x.f3], rfl, rfl, rfl⟩⟩⟩
def rd_T24 (xs : List S24) (i : Int) : S24 := xs.getD i.toNat z24
theorem at_T24 {w : World} {A : Option Addr} {n : Nat} {xs : List S24} (h : Kd.C k24 w A n xs) (i : Int) (h0 : 0 ≤ i) (h1 : i < n) : ∃ ad , A = some ad ∧ w.cell? (ad.add (i.toNat * 4)) = some (.int .i64 (rd_T24 xs i).f0) ∧ w.cell? ⟨(ad.add (i.toNat * 4)).block, (ad.add (i.toNat * 4)).off + 1, none⟩ = some (.bool (rd_T24 xs i).f1) ∧ w.cell? ⟨(ad.add (i.toNat * 4)).block, (ad.add (i.toNat * 4)).off + 2, none⟩ = some (.int .i64 (rd_T24 xs i).f2) ∧ w.cell? ⟨(ad.add (i.toNat * 4)).block, (ad.add (i.toNat * 4)).off + 3, none⟩ = some (.int .u64 (rd_T24 xs i).f3) := by
 obtain ⟨ad, c, e, _, hK, hc0⟩ := Kd.C_get h z24 i h0 h1
 have hc : ∀ j u, c[j]? = some u → w.cell? (ad.add (i.toNat * 4 + j)) = some u := hc0
 obtain rfl := k24_open hK
 exact ⟨ad, e, hc 0 _ rfl, by rw [← add_field _ _ 1 (by omega)];exact hc 1 _ rfl, by rw [← add_field _ _ 2 (by omega)];exact hc 2 _ rfl, by rw [← add_field _ _ 3 (by omega)];exact hc 3 _ rfl⟩
theorem eqA27 (d : Nat) (w : World) (x0 y0 : Int) (x1 y1 : Bool) (x2 y2 : Int) (x3 y3 : Int) (x4 y4 : Int) (x5 y5 : Bool) :
  (Op.equalIn (d + 2) 27 (.agg #[.int .i64 x0,.bool x1,.int .i64 x2,.int .u64 x3,.int .u64 x4,.bool x5]) (.agg #[.int .i64 y0,.bool y1,.int .i64 y2,.int .u64 y3,.int .u64 y4,.bool y5])).run Try.prog w = .ok (x0 == y0 && (x1 == y1 && (x2 == y2 && (x3 == y3 && (x4 == y4 && (x5 == y5)))))) w := by
 refine eqA_of Try.underlying27 (by kernel_rfl) ?_
 refine eqf_cons (by rfl) (by go_simp;rfl) (by go_simp;rfl) (by go_simp) ?_
 refine eqf_cons (by rfl) (by go_simp;rfl) (by go_simp;rfl) (by go_simp) ?_
 refine eqf_cons (by rfl) (by go_simp;rfl) (by go_simp;rfl) (by go_simp) ?_
 refine eqf_cons (by rfl) (by go_simp;rfl) (by go_simp;rfl) (by go_simp) ?_
 refine eqf_cons (by rfl) (by go_simp;rfl) (by go_simp;rfl) (by go_simp) ?_
 exact eqf_last (by rfl) (by go_simp;rfl) (by go_simp;rfl) (by go_simp)
def round_held.f (a0 : Int) : Option (Int) := some (mx (-1099511627776) (mn a0 1099511627776))
set_option maxHeartbeats 8000000 in
set_option maxRecDepth 100000 in
theorem round_held.calls (a0 : Int) (r : Int) (w : World) (h : round_held.f a0 = some r) :
  Calls Try.prog 39 #[.int .i64 a0] w fun e w' => e = .returned (.int .i64 r) ∧ Below w.heap.size w w' := by
 have HB := am_ (Below.refl w.heap.size w)
 have H : (some (mx (-1099511627776) (mn a0 1099511627776))) = some r := h
 clear h
 obtain ⟨ji2, hji2⟩ : ∃ j_ : Int, (mn a0 1099511627776) = j_ := ⟨_, rfl⟩
 replace H : (some (mx (-1099511627776) (ji2))) = some r := by first | (rw [hji2] at H;exact H) | (simp only [hji2] at H ⊢;exact H)
 (try (have hji2h : ji2 ≤ 1099511627776 := by (rw [← hji2];unfold mn;(repeat' split) <;> omega)))
 (try (have hji2g : ji2 ≤ 64 := by omega))
 have hji2_ : (if 1099511627776 < a0 then 1099511627776 else a0) = ji2 := hji2
 obtain ⟨ji3, hji3⟩ : ∃ j_ : Int, (mx (-1099511627776) (ji2)) = j_ := ⟨_, rfl⟩
 replace H : (some ji3) = some r := by first | (rw [hji3] at H;exact H) | (simp only [hji3] at H ⊢;exact H)
 (try (have hji3h : ji3 ≤ 1099511627776 := by (rw [← hji3];unfold mx;(repeat' split) <;> omega)))
 (try (have hji3g : ji3 ≤ 64 := by omega))
 (try (have hji3l : (-1099511627776) ≤ ji3 := by (rw [← hji3];unfold mx;(repeat' split) <;> omega)))
 have hji3_ : (if (-1099511627776) < (ji2) then (ji2) else (-1099511627776)) = ji3 := hji3
 obtain rfl := Option.some.inj H
 go_enter Try.func39, Try.ntmps39
 go_wp2
 go_ret
 exact ⟨by first | rfl | (simp [errW_none, errW_some] <;> rfl) | (simp only [← hji2, ← hji3];first | rfl | (simp [errW_none, errW_some] <;> rfl)) | (simp [*, errW_none, errW_some] <;> rfl), z3_ HB.out⟩
end Go.Proofs.Ytebhpipfkomhjaa.PAll
namespace Go.Proofs.Ytebhpipfkomhjaa.PAll
open Go.RowKit Go.Proofs.YtebhpipfkomhjaaW.PrintWords Go.Proofs.YtebhpipfkomhjaaW.PrintLast Go.Proofs.YtebhpipfkomhjaaW.PrintMore
attribute [local go_sem] max2_int min2_int max_two min_two max_three min_three max_four min_four
set_option linter.unusedVariables false
set_option linter.unusedSimpArgs false
attribute [local go_sem high] eqA27
def round_sound.j0 : Nat → Int → Bool → Int → Bool → Int → Int → Int → Bool → Option (Bool)
 | 0, _, _, _, _, _, _, _, _ => none
 | k + 1, x4, x5, x102000, x102001, x102002, x102003, x102004, x102005 => if x5 = true then (some (!x102001 && (x102002 == 0 && (x102003 == 0 && (x102004 == 0 && (!x102005)))))) else (if x4 = 1 then (if (x102003 / 9223372036854775808) = 1 then ((round_held.f x102002).bind fun t102 => (some (x102002 == t102))) else (some false)) else (some false))
def round_sound.f (k : Nat) (a0_0 : Int) (a0_1 : Bool) (a0_2 : Int) (a0_3 : Int) (a0_4 : Int) (a0_5 : Bool) : Option (Bool) := if a0_0 = 0 then (round_sound.j0 k a0_0 (a0_0 == 0) a0_0 a0_1 a0_2 a0_3 a0_4 a0_5) else (round_sound.j0 k a0_0 (a0_0 == 2) a0_0 a0_1 a0_2 a0_3 a0_4 a0_5)
theorem round_sound.mono_l : ∀ k, (∀ y0 y1 y2 y3 y4 y5 y6 y7, LeO (round_sound.j0 k y0 y1 y2 y3 y4 y5 y6 y7) (round_sound.j0 (k + 1) y0 y1 y2 y3 y4 y5 y6 y7))
 | 0 => fun _ _ _ _ _ _ _ _ r h => by simp [round_sound.j0] at h
 | k + 1 => by
  have ih0 := round_sound.mono_l k
  ·intro y0 y1 y2 y3 y4 y5 y6 y7
   unfold round_sound.j0
   repeat' first
   | (with_reducible exact ih0 _ _ _ _ _ _ _ _)
   | (with_reducible exact LeO.refl _)
   | (with_reducible exact LeO.none _)
   | (with_reducible refine LeO.ite ?_ ?_)
   | (with_reducible refine LeO.bind ?_ (fun _ => ?_))
   | exact ih0 _ _ _ _ _ _ _ _
   | exact LeO.none _
   | refine LeO.ite ?_ ?_
   | refine LeO.bind ?_ (fun _ => ?_)
theorem round_sound.mono : ∀ a0 a1 a2 a3 a4 a5 k, LeO (round_sound.f k a0 a1 a2 a3 a4 a5) (round_sound.f (k + 1) a0 a1 a2 a3 a4 a5) := by
 intro a0 a1 a2 a3 a4 a5 k
 have ih0 := round_sound.mono_l k
 unfold round_sound.f
 repeat' first
   | (with_reducible exact ih0 _ _ _ _ _ _ _ _)
   | (with_reducible exact LeO.refl _)
   | (with_reducible exact LeO.none _)
   | (with_reducible refine LeO.ite ?_ ?_)
   | (with_reducible refine LeO.bind ?_ (fun _ => ?_))
   | exact ih0 _ _ _ _ _ _ _ _
   | exact LeO.none _
   | refine LeO.ite ?_ ?_
   | refine LeO.bind ?_ (fun _ => ?_)
def round_sound.T6 : Bool × List (List Nat × List Nat) := (true,[([], []), ([0], [0]), ([1], [1]), ([2], [2]), ([3], [3]), ([4], [4]), ([5, 4], [4, 5]), ([4], [4]), ([7, 4], [4, 7]), ([8, 4, 4], [4, 8]), ([6, 9, 4], [4, 6, 9]), ([4, 10], [4, 10]), ([11, 9, 0, 1, 2, 3, 4, 5, 6, 7, 8, 9, 10, 11], [11])])
def round_sound.B6 : List Nat := [0, 1, 3, 7, 15, 31, 63, 31, 159, 415, 1023, 2047, 4095]
theorem round_sound.tab6 : rtab .any (opsOf Try.f36 6) = round_sound.T6 := by kernel_rfl
theorem round_sound.bits6 : waitsOk round_sound.T6.2 round_sound.B6 = true := by kernel_rfl
set_option maxHeartbeats 8000000 in
set_option maxRecDepth 100000 in
theorem round_sound.calls (k : Nat) (a0_0 : Int) (a0_1 : Bool) (a0_2 : Int) (a0_3 : Int) (a0_4 : Int) (a0_5 : Bool) (r : Bool) (w : World) (h : round_sound.f k a0_0 a0_1 a0_2 a0_3 a0_4 a0_5 = some r) :
  Calls Try.prog 36 #[.agg #[.int .i64 a0_0,.bool a0_1,.int .i64 a0_2,.int .u64 a0_3,.int .u64 a0_4,.bool a0_5]] w fun e w' => e = .returned (.bool r) ∧ Below w.heap.size w w' := by
 have hu27 := Try.underlying27
 have HB := am_ (Below.refl w.heap.size w)
 have H : (if a0_0 = 0 then (round_sound.j0 k a0_0 (a0_0 == 0) a0_0 a0_1 a0_2 a0_3 a0_4 a0_5) else (round_sound.j0 k a0_0 (a0_0 == 2) a0_0 a0_1 a0_2 a0_3 a0_4 a0_5)) = some r := h
 clear h
 have HC2 := am_ H
 clear H
 go_enter Try.func36, Try.ntmps36
 go_upto_if 5 with (first | ((with_reducible refine gate_dst (N := 1) rfl ?_);refine box_event ?hg (N := 1) ?hd (cs := #[.int .i64 a0_0,.bool a0_1,.int .i64 a0_2,.int .u64 a0_3,.int .u64 a0_4,.bool a0_5]) (t := 27) ?hr ?_;(case hd => rfl);(case hg => rfl);(case hr => first | (go_simp;done) | (go_simp;rfl));intro gb101 hg w3 hbox hb;have n0_ := am_ (below_step (z3_ HB.out) hb);have n1_ := am_ (hbox);have n2_ := am_ ((by rw [hg];exact (below_size (z3_ HB.out)) : w.heap.size ≤ gb101));have n3_ := am_ ((by rw [hg];exact (below_size (z3_ HB.out)) : w.heap.size ≤ gb101));clear HB;have HB := n0_;have BK101 := n1_;have GW101 := n2_;have GE101 := n3_;clear n0_ n1_ n2_ n3_;clear hb hbox hg;obtain ⟨hcz4_0, hcz4_1, hcz4_2, hcz4_3, hcz4_4, hcz4_5, hfz4_0⟩ := zc6_ BK101.out))
 (try simp only [Act.put, List.setIfInBounds_toArray, List.set_cons_zero, List.set_cons_succ])
 go_cut [5] (fun v5 wc => ∃ (kq : Nat) (x5_1 : Bool), v5 = .bool x5_1 ∧ Aside0 (round_sound.j0 kq a0_0 x5_1 a0_0 a0_1 a0_2 a0_3 a0_4 a0_5 = some r) ∧ Aside0 (kq ≤ k) ∧ Aside0 (wc.heap[gb101]? = some (.cells #[.int .i64 a0_0,.bool a0_1,.int .i64 a0_2,.int .u64 a0_3,.int .u64 a0_4,.bool a0_5] 27 (0, 0))) ∧ Aside0 (Below w.heap.size w wc))
 case first =>
  have H := HC2.out
  clear HC2
  by_cases c5 : a0_0 = 0
  ·rw [if_pos c5] at H
   have c5b0 : (a0_0 == 0) = true := beq_iff_eq.mpr c5
   have c5b1 : (a0_0 != 0) = false := bne_eq_false_iff_eq.mpr c5
   clear c5
   (first | rw [c5b0] | (simp only [i64_w, i32_w];rw [c5b0]) | skip)
   have H' := am_ H
   clear H
   go_wp2
   go_meet
   case rel => exact ⟨_, ((a0_0 == 0)), (by first | rfl | (simp;done) | (simp [*];done)), H', ⟨by first | omega | exact Nat.le_refl _⟩, ⟨by refine z2_ ?_;exact BK101.out⟩, ⟨z3_ HB.out⟩⟩
  ·rw [if_neg c5] at H
   have c5b0 : (a0_0 == 0) = false := beq_eq_false_iff_ne.mpr c5
   have c5b1 : (a0_0 != 0) = true := bne_iff_ne.mpr c5
   (first | rw [c5b0] | (simp only [i64_w, i32_w];rw [c5b0]) | skip)
   have H' := am_ H
   clear H
   go_wp2
   go_meet
   case rel => exact ⟨_, ((a0_0 == 2)), (by first | rfl | (simp;done) | (simp [*];done)), H', ⟨by first | omega | exact Nat.le_refl _⟩, ⟨by refine z2_ ?_;exact BK101.out⟩, ⟨z3_ HB.out⟩⟩
 case rest =>
  clear HC2
  try clear hcz4_0
  try clear hcz4_1
  try clear hcz4_2
  try clear hcz4_3
  try clear hcz4_4
  try clear hcz4_5
  try clear hfz4_0
  obtain ⟨kq, x5_1, rfl, HA, HJ1, BK101, HB⟩ := hcut
  cases kq with
  | zero => exact absurd HA.out (by simp [round_sound.j0])
  | succ kj1 =>
   have H := HA.out
   clear HA
   simp only [round_sound.j0] at H
   by_cases c6 : x5_1 = true
   ·subst c6
    have H1 : (some (!a0_1 && (a0_2 == 0 && (a0_3 == 0 && (a0_4 == 0 && (!a0_5)))))) = some r := by rw [if_pos rfl] at H;exact H
    clear H
    have H := H1
    clear H1
    obtain rfl := Option.some.inj H
    obtain ⟨hcz7_0, hcz7_1, hcz7_2, hcz7_3, hcz7_4, hcz7_5, hfz7_0⟩ := zc6_ BK101.out
    go_wp2
    go_ret
    exact ⟨z6_, z3_ HB.out⟩
   ·replace c6 := Bool.eq_false_iff.mpr c6
    subst c6
    have H1 : (if a0_0 = 1 then (if (a0_3 / 9223372036854775808) = 1 then ((round_held.f a0_2).bind fun t102 => (some (a0_2 == t102))) else (some false)) else (some false)) = some r := by rw [if_neg (show ¬ (false = true) by decide)] at H;exact H
    clear H
    have H := H1
    clear H1
    by_cases c8 : a0_0 = 1
    ·rw [if_pos c8] at H
     have c8b0 : (a0_0 == 1) = true := beq_iff_eq.mpr c8
     have c8b1 : (a0_0 != 1) = false := bne_eq_false_iff_eq.mpr c8
     clear c8
     by_cases c9 : (a0_3 / 9223372036854775808) = 1
     ·rw [if_pos c9] at H
      have c9b0 : ((a0_3 / 9223372036854775808) == 1) = true := beq_iff_eq.mpr c9
      have c9b1 : ((a0_3 / 9223372036854775808) != 1) = false := bne_eq_false_iff_eq.mpr c9
      clear c9
      replace H := Option.bind_eq_some_iff.mp H
      obtain ⟨t102, A100, H⟩ := H
      replace H : (some (a0_2 == t102)) = some r := H
      have A10 := am_ A100
      clear A100
      obtain rfl := Option.some.inj H
      try go_wp2
      have n0_ := am_ (blk_drew BK101.out)
      have n1_ := am_ (below_drew1 HB.out)
      clear BK101
      clear HB
      have BK101 := n0_
      have HB := n1_
      clear n0_ n1_
      refine start_ (n := 13) (S := fun w' => w'.cell? ⟨gb101, 0, none⟩ = some (.int .i64 a0_0) ∧ w'.cell? ⟨gb101, 1, none⟩ = some (.bool a0_1) ∧ w'.cell? ⟨gb101, 2, none⟩ = some (.int .i64 a0_2) ∧ w'.cell? ⟨gb101, 3, none⟩ = some (.int .u64 a0_3) ∧ w'.cell? ⟨gb101, 4, none⟩ = some (.int .u64 a0_4) ∧ w'.cell? ⟨gb101, 5, none⟩ = some (.bool a0_5)) (ds := []) #[false,false,false,false,false,false,false,false,false,false,false,false,false] (by kernel_rfl) rfl rfl ⟨(blk_cell BK101.out 0).trans rfl, (blk_cell BK101.out 1).trans rfl, (blk_cell BK101.out 2).trans rfl, (blk_cell BK101.out 3).trans rfl, (blk_cell BK101.out 4).trans rfl, (blk_cell BK101.out 5).trans rfl⟩ (fun hHeld => ?_);refine with_tabW round_sound.tab6 round_sound.bits6 (fun HT_ HW_ => ?_)
      generalize wc.drew = w11 at BK101 HB hHeld ⊢
      refine pure_ (i := 0) (N := some 15) (v := ?_) (a' := ?_) #[true,false,false,false,false,false,false,false,false,false,false,false,false] rfl rfl (any_of HT_.out (by kernel_rfl)) (fun _ _ _ h => h) (Or.inl ⟨by rfl, ?_⟩) ?_ ?_
      rotate_left
      ·intro w'
       go_simp
       with_reducible rfl
      rotate_left
      ·simp only [Act.put, List.setIfInBounds_toArray, List.set_cons_zero, List.set_cons_succ, i64_w, i32_w]
       rfl
      refine take_ (i := 1) (N := some 16) (v := ?_) (a' := ?_) #[true,true,false,false,false,false,false,false,false,false,false,false,false] rfl rfl (take_ofW HT_.out HW_.out (by kernel_rfl)) (fun _ _ _ h => h) (Or.inl ⟨by rfl, ?_⟩) hHeld ?_ ?_
      rotate_left
      ·rintro w' ⟨s0, s1, s2, s3, s4, s5⟩
       go_simp
       with_reducible rfl
      rotate_left
      ·simp only [Act.put, List.setIfInBounds_toArray, List.set_cons_zero, List.set_cons_succ, i64_w, i32_w]
       rfl
      refine pure_ (i := 2) (N := some 17) (v := ?_) (a' := ?_) #[true,true,true,false,false,false,false,false,false,false,false,false,false] rfl rfl (any_of HT_.out (by kernel_rfl)) (fun _ _ _ h => h) (Or.inl ⟨by rfl, ?_⟩) ?_ ?_
      rotate_left
      ·intro w'
       go_simp
       with_reducible rfl
      rotate_left
      ·simp only [Act.put, List.setIfInBounds_toArray, List.set_cons_zero, List.set_cons_succ, i64_w, i32_w]
       rfl
      refine pure_ (i := 3) (N := some 18) (v := ?_) (a' := ?_) #[true,true,true,true,false,false,false,false,false,false,false,false,false] rfl rfl (any_of HT_.out (by kernel_rfl)) (fun _ _ _ h => h) (Or.inl ⟨by rfl, ?_⟩) ?_ ?_
      rotate_left
      ·intro w'
       go_simp
       with_reducible rfl
      rotate_left
      ·simp only [Act.put, List.setIfInBounds_toArray, List.set_cons_zero, List.set_cons_succ, i64_w, i32_w]
       rfl
      refine pure_ (i := 4) (N := some 19) (v := ?_) (a' := ?_) #[true,true,true,true,true,false,false,false,false,false,false,false,false] rfl rfl (any_of HT_.out (by kernel_rfl)) (fun _ _ _ h => h) (Or.inl ⟨by rfl, ?_⟩) ?_ ?_
      rotate_left
      ·intro w'
       go_simp
       with_reducible rfl
      rotate_left
      ·simp only [Act.put, List.setIfInBounds_toArray, List.set_cons_zero, List.set_cons_succ, i64_w, i32_w]
       rfl
      refine pure_ (i := 5) (N := some 20) (v := ?_) (a' := ?_) #[true,true,true,true,true,true,false,false,false,false,false,false,false] rfl rfl (any_of HT_.out (by kernel_rfl)) (fun _ _ _ h => h) (Or.inl ⟨by rfl, ?_⟩) ?_ ?_
      rotate_left
      ·intro w'
       go_simp
       with_reducible rfl
      rotate_left
      ·simp only [Act.put, List.setIfInBounds_toArray, List.set_cons_zero, List.set_cons_succ, i64_w, i32_w]
       rfl
      refine pure_ (i := 7) (N := some 22) (v := ?_) (a' := ?_) #[true,true,true,true,true,true,false,true,false,false,false,false,false] rfl rfl (any_of HT_.out (by kernel_rfl)) (fun _ _ _ h => h) (Or.inl ⟨by rfl, ?_⟩) ?_ ?_
      rotate_left
      ·intro w'
       go_simp
       with_reducible rfl
      rotate_left
      ·simp only [Act.put, List.setIfInBounds_toArray, List.set_cons_zero, List.set_cons_succ, i64_w, i32_w]
       rfl
      refine take_ (i := 6) (N := some 21) (v := ?_) (a' := ?_) #[true,true,true,true,true,true,true,true,false,false,false,false,false] rfl rfl (take_ofW HT_.out HW_.out (by kernel_rfl)) (fun _ _ _ h => h) (Or.inl ⟨by rfl, ?_⟩) hHeld ?_ ?_
      rotate_left
      ·rintro w' ⟨s0, s1, s2, s3, s4, s5⟩
       go_simp
       with_reducible rfl
      rotate_left
      ·simp only [Act.put, List.setIfInBounds_toArray, List.set_cons_zero, List.set_cons_succ, i64_w, i32_w]
       rfl
      refine take_ (i := 8) (N := some 23) (v := ?_) (a' := ?_) #[true,true,true,true,true,true,true,true,true,false,false,false,false] rfl rfl (take_ofW HT_.out HW_.out (by kernel_rfl)) (fun _ _ _ h => h) (Or.inl ⟨by rfl, ?_⟩) hHeld ?_ ?_
      rotate_left
      ·rintro w' ⟨s0, s1, s2, s3, s4, s5⟩
       go_simp
       with_reducible rfl
      rotate_left
      ·simp only [Act.put, List.setIfInBounds_toArray, List.set_cons_zero, List.set_cons_succ, i64_w, i32_w]
       rfl
      refine one_ (i := 9) (N := some 24) #[true,true,true,true,true,true,true,true,true,true,false,false,false] rfl rfl (one_of HT_.out (by kernel_rfl)) (by decide) (fun K hK => ?_)
      refine goes_ Try.func39 (by kernel_rfl) rfl #[.int .i64 a0_2] (by rfl) rfl rfl z5_ ?_
      with_reducible refine (round_held.calls a0_2 t102 _ A10.out).mono ?_
      rintro e w12 ⟨rfl, hb⟩
      refine ⟨_, rfl, ?_⟩
      have n0_ := am_ (blk_below (g := gb101) (z1_ BK101.out) hb)
      have n1_ := am_ (below_step (z3_ HB.out) hb)
      clear BK101
      clear HB
      have BK101 := n0_
      have HB := n1_
      clear n0_ n1_
      (try clear hb)
      (try clear hb2)
      (try clear hk)
      (try clear hi)
      refine hK.out _ _ ⟨(blk_cell BK101.out 0).trans rfl, (blk_cell BK101.out 1).trans rfl, (blk_cell BK101.out 2).trans rfl, (blk_cell BK101.out 3).trans rfl, (blk_cell BK101.out 4).trans rfl, (blk_cell BK101.out 5).trans rfl⟩ (fun hHeld => ?_)
      clear hK K
      refine norm_ (a' := ?_) ?_ ?_
      rotate_left
      ·show Act.put _ (some 24) _ = _
       simp only [Act.put, List.setIfInBounds_toArray, List.set_cons_zero, List.set_cons_succ, i64_w, i32_w]
       rfl
      refine pure_ (i := 10) (N := some 25) (v := ?_) (a' := ?_) #[true,true,true,true,true,true,true,true,true,true,true,false,false] rfl rfl (any_of HT_.out (by kernel_rfl)) (fun _ _ _ h => h) (Or.inl ⟨by rfl, ?_⟩) ?_ ?_
      rotate_left
      ·intro w'
       go_simp
       with_reducible rfl
      rotate_left
      ·simp only [Act.put, List.setIfInBounds_toArray, List.set_cons_zero, List.set_cons_succ, i64_w, i32_w]
       rfl
      refine pure_ (i := 11) (N := some 26) (v := ?_) (a' := ?_) #[true,true,true,true,true,true,true,true,true,true,true,true,false] rfl rfl (any_of HT_.out (by kernel_rfl)) (fun _ _ _ h => h) (Or.inl ⟨by rfl, ?_⟩) ?_ ?_
      rotate_left
      ·intro w'
       go_simp
       with_reducible rfl
      rotate_left
      ·simp only [Act.put, List.setIfInBounds_toArray, List.set_cons_zero, List.set_cons_succ, i64_w, i32_w]
       rfl
      refine pure_ (i := 12) (N := some 2) (v := ?_) (a' := ?_) #[true,true,true,true,true,true,true,true,true,true,true,true,true] rfl rfl (any_of HT_.out (by kernel_rfl)) (fun _ _ _ h => h) (Or.inl ⟨by rfl, ?_⟩) ?_ ?_
      rotate_left
      ·intro w'
       go_simp
       with_reducible rfl
      rotate_left
      ·simp only [Act.put, List.setIfInBounds_toArray, List.set_cons_zero, List.set_cons_succ, i64_w, i32_w]
       rfl
      refine done_ (done_of HT_.out (by kernel_rfl)) ?_
      try go_wp2
      go_ret
      exact ⟨z6_, z3_ HB.out⟩
     ·rw [if_neg c9] at H
      have c9b0 : ((a0_3 / 9223372036854775808) == 1) = false := beq_eq_false_iff_ne.mpr c9
      have c9b1 : ((a0_3 / 9223372036854775808) != 1) = true := bne_iff_ne.mpr c9
      obtain rfl := Option.some.inj H
      try go_wp2
      have n0_ := am_ (blk_drew BK101.out)
      have n1_ := am_ (below_drew1 HB.out)
      clear BK101
      clear HB
      have BK101 := n0_
      have HB := n1_
      clear n0_ n1_
      refine start_ (n := 13) (S := fun w' => w'.cell? ⟨gb101, 0, none⟩ = some (.int .i64 a0_0) ∧ w'.cell? ⟨gb101, 1, none⟩ = some (.bool a0_1) ∧ w'.cell? ⟨gb101, 2, none⟩ = some (.int .i64 a0_2) ∧ w'.cell? ⟨gb101, 3, none⟩ = some (.int .u64 a0_3) ∧ w'.cell? ⟨gb101, 4, none⟩ = some (.int .u64 a0_4) ∧ w'.cell? ⟨gb101, 5, none⟩ = some (.bool a0_5)) (ds := []) #[false,false,false,false,false,false,false,false,false,false,false,false,false] (by kernel_rfl) rfl rfl ⟨(blk_cell BK101.out 0).trans rfl, (blk_cell BK101.out 1).trans rfl, (blk_cell BK101.out 2).trans rfl, (blk_cell BK101.out 3).trans rfl, (blk_cell BK101.out 4).trans rfl, (blk_cell BK101.out 5).trans rfl⟩ (fun hHeld => ?_);refine with_tabW round_sound.tab6 round_sound.bits6 (fun HT_ HW_ => ?_)
      generalize wc.drew = w13 at BK101 HB hHeld ⊢
      refine pure_ (i := 0) (N := some 15) (v := ?_) (a' := ?_) #[true,false,false,false,false,false,false,false,false,false,false,false,false] rfl rfl (any_of HT_.out (by kernel_rfl)) (fun _ _ _ h => h) (Or.inl ⟨by rfl, ?_⟩) ?_ ?_
      rotate_left
      ·intro w'
       go_simp
       with_reducible rfl
      rotate_left
      ·simp only [Act.put, List.setIfInBounds_toArray, List.set_cons_zero, List.set_cons_succ, i64_w, i32_w]
       rfl
      refine take_ (i := 1) (N := some 16) (v := ?_) (a' := ?_) #[true,true,false,false,false,false,false,false,false,false,false,false,false] rfl rfl (take_ofW HT_.out HW_.out (by kernel_rfl)) (fun _ _ _ h => h) (Or.inl ⟨by rfl, ?_⟩) hHeld ?_ ?_
      rotate_left
      ·rintro w' ⟨s0, s1, s2, s3, s4, s5⟩
       go_simp
       with_reducible rfl
      rotate_left
      ·simp only [Act.put, List.setIfInBounds_toArray, List.set_cons_zero, List.set_cons_succ, i64_w, i32_w]
       rfl
      refine pure_ (i := 2) (N := some 17) (v := ?_) (a' := ?_) #[true,true,true,false,false,false,false,false,false,false,false,false,false] rfl rfl (any_of HT_.out (by kernel_rfl)) (fun _ _ _ h => h) (Or.inl ⟨by rfl, ?_⟩) ?_ ?_
      rotate_left
      ·intro w'
       go_simp
       with_reducible rfl
      rotate_left
      ·simp only [Act.put, List.setIfInBounds_toArray, List.set_cons_zero, List.set_cons_succ, i64_w, i32_w]
       rfl
      refine pure_ (i := 3) (N := some 18) (v := ?_) (a' := ?_) #[true,true,true,true,false,false,false,false,false,false,false,false,false] rfl rfl (any_of HT_.out (by kernel_rfl)) (fun _ _ _ h => h) (Or.inl ⟨by rfl, ?_⟩) ?_ ?_
      rotate_left
      ·intro w'
       go_simp
       with_reducible rfl
      rotate_left
      ·simp only [Act.put, List.setIfInBounds_toArray, List.set_cons_zero, List.set_cons_succ, i64_w, i32_w]
       rfl
      refine pure_ (i := 4) (N := some 19) (v := ?_) (a' := ?_) #[true,true,true,true,true,false,false,false,false,false,false,false,false] rfl rfl (any_of HT_.out (by kernel_rfl)) (fun _ _ _ h => h) (Or.inl ⟨by rfl, ?_⟩) ?_ ?_
      rotate_left
      ·intro w'
       go_simp
       with_reducible rfl
      rotate_left
      ·simp only [Act.put, List.setIfInBounds_toArray, List.set_cons_zero, List.set_cons_succ, i64_w, i32_w]
       rfl
      refine pure_ (i := 5) (N := some 20) (v := undef) (a' := ?_) #[true,true,true,true,true,true,false,false,false,false,false,false,false] rfl rfl (any_of HT_.out (by kernel_rfl)) (fun _ _ _ h => h) (Or.inr ⟨by rfl, rfl⟩) ?_ ?_
      rotate_left
      ·simp only [Act.put, List.setIfInBounds_toArray, List.set_cons_zero, List.set_cons_succ, i64_w, i32_w]
       rfl
      refine pure_ (i := 6) (N := some 21) (v := undef) (a' := ?_) #[true,true,true,true,true,true,true,false,false,false,false,false,false] rfl rfl (any_of HT_.out (by kernel_rfl)) (fun _ _ _ h => h) (Or.inr ⟨by rfl, rfl⟩) ?_ ?_
      rotate_left
      ·simp only [Act.put, List.setIfInBounds_toArray, List.set_cons_zero, List.set_cons_succ, i64_w, i32_w]
       rfl
      refine pure_ (i := 7) (N := some 22) (v := undef) (a' := ?_) #[true,true,true,true,true,true,true,true,false,false,false,false,false] rfl rfl (any_of HT_.out (by kernel_rfl)) (fun _ _ _ h => h) (Or.inr ⟨by rfl, rfl⟩) ?_ ?_
      rotate_left
      ·simp only [Act.put, List.setIfInBounds_toArray, List.set_cons_zero, List.set_cons_succ, i64_w, i32_w]
       rfl
      refine pure_ (i := 8) (N := some 23) (v := undef) (a' := ?_) #[true,true,true,true,true,true,true,true,true,false,false,false,false] rfl rfl (any_of HT_.out (by kernel_rfl)) (fun _ _ _ h => h) (Or.inr ⟨by rfl, rfl⟩) ?_ ?_
      rotate_left
      ·simp only [Act.put, List.setIfInBounds_toArray, List.set_cons_zero, List.set_cons_succ, i64_w, i32_w]
       rfl
      refine pure_ (i := 9) (N := some 24) (v := undef) (a' := ?_) #[true,true,true,true,true,true,true,true,true,true,false,false,false] rfl rfl (any_of HT_.out (by kernel_rfl)) (fun _ _ _ h => h) (Or.inr ⟨by rfl, rfl⟩) ?_ ?_
      rotate_left
      ·simp only [Act.put, List.setIfInBounds_toArray, List.set_cons_zero, List.set_cons_succ, i64_w, i32_w]
       rfl
      refine pure_ (i := 10) (N := some 25) (v := undef) (a' := ?_) #[true,true,true,true,true,true,true,true,true,true,true,false,false] rfl rfl (any_of HT_.out (by kernel_rfl)) (fun _ _ _ h => h) (Or.inr ⟨by rfl, rfl⟩) ?_ ?_
      rotate_left
      ·simp only [Act.put, List.setIfInBounds_toArray, List.set_cons_zero, List.set_cons_succ, i64_w, i32_w]
       rfl
      refine pure_ (i := 11) (N := some 26) (v := ?_) (a' := ?_) #[true,true,true,true,true,true,true,true,true,true,true,true,false] rfl rfl (any_of HT_.out (by kernel_rfl)) (fun _ _ _ h => h) (Or.inl ⟨by rfl, ?_⟩) ?_ ?_
      rotate_left
      ·intro w'
       go_simp
       with_reducible rfl
      rotate_left
      ·simp only [Act.put, List.setIfInBounds_toArray, List.set_cons_zero, List.set_cons_succ, i64_w, i32_w]
       rfl
      refine pure_ (i := 12) (N := some 2) (v := ?_) (a' := ?_) #[true,true,true,true,true,true,true,true,true,true,true,true,true] rfl rfl (any_of HT_.out (by kernel_rfl)) (fun _ _ _ h => h) (Or.inl ⟨by rfl, ?_⟩) ?_ ?_
      rotate_left
      ·intro w'
       go_simp
       with_reducible rfl
      rotate_left
      ·simp only [Act.put, List.setIfInBounds_toArray, List.set_cons_zero, List.set_cons_succ, i64_w, i32_w]
       rfl
      refine done_ (done_of HT_.out (by kernel_rfl)) ?_
      try go_wp2
      go_ret
      exact ⟨z6_, z3_ HB.out⟩
    ·rw [if_neg c8] at H
     have c8b0 : (a0_0 == 1) = false := beq_eq_false_iff_ne.mpr c8
     have c8b1 : (a0_0 != 1) = true := bne_iff_ne.mpr c8
     obtain rfl := Option.some.inj H
     go_wp2
     go_ret
     exact ⟨z6_, z3_ HB.out⟩
end Go.Proofs.Ytebhpipfkomhjaa.PAll
namespace Go.Proofs.Ytebhpipfkomhjaa.PAll
open Go.RowKit Go.Proofs.YtebhpipfkomhjaaW.PrintWords Go.Proofs.YtebhpipfkomhjaaW.PrintLast Go.Proofs.YtebhpipfkomhjaaW.PrintMore
attribute [local go_sem] max2_int min2_int max_two min_two max_three min_three max_four min_four
set_option linter.unusedVariables false
set_option linter.unusedSimpArgs false
def round_Of.f (k : Nat) (a0_0 : Int) (a0_1 : Bool) (a0_2 : Int) (a0_3 : Int) : Option (Int × Bool × Int × Int × Int × Bool × Option Int) := (round_sound.f k a0_0 a0_1 a0_2 a0_3 0 false).bind fun t106 => (if t106 = true then (if a0_2 < (-1073741824) then (some (0, false,0, 0, 0, false,some 1)) else (if a0_2 > 1073741824 then (some (0, false,0, 0, 0, false,some 1)) else (some (a0_0, a0_1, a0_2, a0_3, 0, false,none)))) else (some (0, false,0, 0, 0, false,some 1)))
theorem round_Of.mono : ∀ a0 a1 a2 a3 k, LeO (round_Of.f k a0 a1 a2 a3) (round_Of.f (k + 1) a0 a1 a2 a3) := by
 intro a0 a1 a2 a3 k
 unfold round_Of.f
 repeat' first
   | (with_reducible exact round_sound.mono _ _ _ _ _ _ _)
   | (with_reducible exact LeO.refl _)
   | (with_reducible exact LeO.none _)
   | (with_reducible refine LeO.ite ?_ ?_)
   | (with_reducible refine LeO.bind ?_ (fun _ => ?_))
   | exact round_sound.mono _ _ _ _ _ _ _
   | exact LeO.none _
   | refine LeO.ite ?_ ?_
   | refine LeO.bind ?_ (fun _ => ?_)
set_option maxHeartbeats 8000000 in
set_option maxRecDepth 100000 in
theorem round_Of.calls (k : Nat) (a0_0 : Int) (a0_1 : Bool) (a0_2 : Int) (a0_3 : Int) (r1 : Int) (r2 : Bool) (r3 : Int) (r4 : Int) (r5 : Int) (r6 : Bool) (r7 : Option Int) (w : World) (h : round_Of.f k a0_0 a0_1 a0_2 a0_3 = some (r1, r2, r3, r4, r5, r6, r7)) :
  Calls Try.prog 21 #[.agg #[.int .i64 a0_0,.bool a0_1,.int .i64 a0_2,.int .u64 a0_3]] w fun e w' => e = .returned (.tuple #[.agg #[.int .i64 r1,.bool r2,.int .i64 r3,.int .u64 r4,.int .u64 r5,.bool r6], errW r7]) ∧ Below w.heap.size w w' := by
 have hu24 := Try.underlying24
 have hu27 := Try.underlying27
 have hu29 := Try.underlying29
 have hu42 := Try.underlying42
 have HB := am_ (Below.refl w.heap.size w)
 have H : ((round_sound.f k a0_0 a0_1 a0_2 a0_3 0 false).bind fun t106 => (if t106 = true then (if a0_2 < (-1073741824) then (some (0, false,0, 0, 0, false,some 1)) else (if a0_2 > 1073741824 then (some (0, false,0, 0, 0, false,some 1)) else (some (a0_0, a0_1, a0_2, a0_3, 0, false,none)))) else (some (0, false,0, 0, 0, false,some 1)))) = some (r1, r2, r3, r4, r5, r6, r7) := h
 clear h
 replace H := Option.bind_eq_some_iff.mp H
 obtain ⟨t106, A20, H⟩ := H
 replace H : (if t106 = true then (if a0_2 < (-1073741824) then (some (0, false,0, 0, 0, false,some 1)) else (if a0_2 > 1073741824 then (some (0, false,0, 0, 0, false,some 1)) else (some (a0_0, a0_1, a0_2, a0_3, 0, false,none)))) else (some (0, false,0, 0, 0, false,some 1))) = some (r1, r2, r3, r4, r5, r6, r7) := H
 have A2 := am_ A20
 clear A20
 by_cases c3 : t106 = true
 ·subst c3
  have H1 : (if a0_2 < (-1073741824) then (some (0, false,0, 0, 0, false,some 1)) else (if a0_2 > 1073741824 then (some (0, false,0, 0, 0, false,some 1)) else (some (a0_0, a0_1, a0_2, a0_3, 0, false,none)))) = some (r1, r2, r3, r4, r5, r6, r7) := by rw [if_pos rfl] at H;exact H
  clear H
  have H := H1
  clear H1
  by_cases c4 : a0_2 < (-1073741824)
  ·rw [if_pos c4] at H
   have c4b0 : decide (a0_2 < (-1073741824)) = true := decide_eq_true c4
   clear c4
   simp only [Option.some.injEq, Prod.mk.injEq] at H
   obtain ⟨rfl, rfl, rfl, rfl, rfl, rfl, rfl⟩ := H
   go_enter Try.func21, Try.ntmps21
   go_wp2_with (first | ((with_reducible refine gate_dst (N := 1) rfl ?_);refine box_event ?hg (N := 1) ?hd (cs := #[.int .i64 a0_0,.bool a0_1,.int .i64 a0_2,.int .u64 a0_3]) (t := 24) ?hr ?_;(case hd => rfl);(case hg => rfl);(case hr => first | (go_simp;done) | (go_simp;rfl));intro gb103 hg w5 hbox hb;have n0_ := am_ (below_step (z3_ HB.out) hb);have n1_ := am_ (hbox);have n2_ := am_ ((by rw [hg];exact (below_size (z3_ HB.out)) : w.heap.size ≤ gb103));have n3_ := am_ ((by rw [hg];exact (below_size (z3_ HB.out)) : w.heap.size ≤ gb103));clear HB;have HB := n0_;have BK103 := n1_;have GW103 := n2_;have GE103 := n3_;clear n0_ n1_ n2_ n3_;clear hb hbox hg) | ((with_reducible refine gate_dst (N := 2) rfl ?_);refine box_event ?hg (N := 2) ?hd (cs := #[.int .i64 0,.bool false,.int .i64 0,.int .u64 0,.int .u64 0,.bool false]) (t := 27) ?hr ?_;(case hd => rfl);(case hg => rfl);(case hr => first | (go_simp;done) | (go_simp;rfl));intro gb104 hg w6 hbox hb;have n0_ := am_ (blk_below (g := gb103) (z1_ BK103.out) hb);have n1_ := am_ (below_step (z3_ HB.out) hb);have n2_ := am_ (hbox);have n3_ := am_ ((by rw [hg];exact (below_size (z3_ HB.out)) : w.heap.size ≤ gb104));have n4_ := am_ ((by rw [hg];exact (below_size (z3_ HB.out)) : w.heap.size ≤ gb104));have n5_ := am_ ((by rw [hg];exact Nat.ne_of_lt (blk_lt (g := gb103) (o := .cells #[.int .i64 a0_0,.bool a0_1,.int .i64 a0_2,.int .u64 a0_3] 24 (0, 0)) (z1_ BK103.out)) : gb103 ≠ gb104));have n6_ := am_ ((by rw [hg];exact Nat.ne_of_gt (blk_lt (g := gb103) (o := .cells #[.int .i64 a0_0,.bool a0_1,.int .i64 a0_2,.int .u64 a0_3] 24 (0, 0)) (z1_ BK103.out)) : gb104 ≠ gb103));clear BK103;clear HB;have BK103 := n0_;have HB := n1_;have BK104 := n2_;have GW104 := n3_;have GE104 := n4_;have NB103_104 := n5_;have NB104_103 := n6_;clear n0_ n1_ n2_ n3_ n4_ n5_ n6_;clear hb hbox hg;have hnb7 := NB103_104.out;have hnc7 := NB104_103.out;obtain ⟨hcz8_0, hcz8_1, hcz8_2, hcz8_3, hfz8_0⟩ := zc4_ BK103.out) | ((with_reducible refine gate_dst (N := 4) rfl ?_);refine box_event ?hg (N := 4) ?hd (cs := #[.int .i64 0,.bool false,.int .i64 0,.int .u64 0,.int .u64 0,.bool false]) (t := 27) ?hr ?_;(case hd => rfl);(case hg => rfl);(case hr => first | (go_simp;done) | (go_simp;rfl));intro gb105 hg w9 hbox hb;have n0_ := am_ (blk_below (g := gb103) (z1_ BK103.out) hb);have n1_ := am_ (blk_below (g := gb104) (z1_ BK104.out) hb);have n2_ := am_ (below_step (z3_ HB.out) hb);have n3_ := am_ (hbox);have n4_ := am_ ((by rw [hg];exact (below_size (z3_ HB.out)) : w.heap.size ≤ gb105));have n5_ := am_ ((by rw [hg];exact (below_size (z3_ HB.out)) : w.heap.size ≤ gb105));have n6_ := am_ ((by rw [hg];exact Nat.ne_of_lt (blk_lt (g := gb103) (o := .cells #[.int .i64 a0_0,.bool a0_1,.int .i64 a0_2,.int .u64 a0_3] 24 (0, 0)) (z1_ BK103.out)) : gb103 ≠ gb105));have n7_ := am_ ((by rw [hg];exact Nat.ne_of_gt (blk_lt (g := gb103) (o := .cells #[.int .i64 a0_0,.bool a0_1,.int .i64 a0_2,.int .u64 a0_3] 24 (0, 0)) (z1_ BK103.out)) : gb105 ≠ gb103));have n8_ := am_ ((by rw [hg];exact Nat.ne_of_lt (blk_lt (g := gb104) (o := .cells #[.int .i64 0,.bool false,.int .i64 0,.int .u64 0,.int .u64 0,.bool false] 27 (0, 0)) (z1_ BK104.out)) : gb104 ≠ gb105));have n9_ := am_ ((by rw [hg];exact Nat.ne_of_gt (blk_lt (g := gb104) (o := .cells #[.int .i64 0,.bool false,.int .i64 0,.int .u64 0,.int .u64 0,.bool false] 27 (0, 0)) (z1_ BK104.out)) : gb105 ≠ gb104));clear BK103;clear BK104;clear HB;have BK103 := n0_;have BK104 := n1_;have HB := n2_;have BK105 := n3_;have GW105 := n4_;have GE105 := n5_;have NB103_105 := n6_;have NB105_103 := n7_;have NB104_105 := n8_;have NB105_104 := n9_;clear n0_ n1_ n2_ n3_ n4_ n5_ n6_ n7_ n8_ n9_;clear hb hbox hg;have hnb10 := NB105_103.out;have hnc10 := NB103_105.out;have hnb11 := NB105_104.out;have hnc11 := NB104_105.out;obtain ⟨hcz12_0, hcz12_1, hcz12_2, hcz12_3, hcz12_4, hcz12_5, hfz12_0⟩ := zc6_ BK105.out) | ((with_reducible refine gate_callee (f := 36) rfl ?_);refine goesL_ (some 15) rfl rfl Try.func36 (by kernel_rfl) rfl #[.agg #[.int .i64 a0_0,.bool a0_1,.int .i64 a0_2,.int .u64 a0_3,.int .u64 0,.bool false]] rfl z5_ ?_;(with_reducible refine (round_sound.calls k a0_0 a0_1 a0_2 a0_3 0 false true _ A2.out).mono ?_);rintro e w13 ⟨rfl, hb⟩;refine ⟨_, rfl, ?_⟩;have n0_ := am_ (blk_below (g := gb103) (o := .cells #[.int .i64 a0_0,.bool a0_1,.int .i64 a0_2,.int .u64 a0_3] 24 (0, 0)) (by refine z2_ ?_;refine blk_far ?_ NB103_105.out _;refine z2_ ?_;refine blk_far ?_ NB103_105.out _;refine z2_ ?_;refine blk_far ?_ NB103_105.out _;refine z2_ ?_;refine blk_far ?_ NB103_105.out _;refine z2_ ?_;refine blk_far ?_ NB103_105.out _;refine z2_ ?_;refine blk_far ?_ NB103_105.out _;refine z2_ ?_;exact BK103.out) hb);have n1_ := am_ (blk_below (g := gb104) (o := .cells #[.int .i64 0,.bool false,.int .i64 0,.int .u64 0,.int .u64 0,.bool false] 27 (0, 0)) (by refine z2_ ?_;refine blk_far ?_ NB104_105.out _;refine z2_ ?_;refine blk_far ?_ NB104_105.out _;refine z2_ ?_;refine blk_far ?_ NB104_105.out _;refine z2_ ?_;refine blk_far ?_ NB104_105.out _;refine z2_ ?_;refine blk_far ?_ NB104_105.out _;refine z2_ ?_;refine blk_far ?_ NB104_105.out _;refine z2_ ?_;exact BK104.out) hb);have n2_ := am_ (blk_below (g := gb105) (o := .cells #[.int .i64 a0_0,.bool a0_1,.int .i64 a0_2,.int .u64 a0_3,.int .u64 0,.bool false] 27 (0, 0)) (by refine z2_ ?_;refine blk_put (cs := #[.int .i64 a0_0,.bool a0_1,.int .i64 a0_2,.int .u64 a0_3,.int .u64 0,.bool false]) ?_ 5 _ rfl;refine z2_ ?_;refine blk_put (cs := #[.int .i64 a0_0,.bool a0_1,.int .i64 a0_2,.int .u64 a0_3,.int .u64 0,.bool false]) ?_ 4 _ rfl;refine z2_ ?_;refine blk_put (cs := #[.int .i64 a0_0,.bool a0_1,.int .i64 a0_2,.int .u64 0,.int .u64 0,.bool false]) ?_ 3 _ rfl;refine z2_ ?_;refine blk_put (cs := #[.int .i64 a0_0,.bool a0_1,.int .i64 0,.int .u64 0,.int .u64 0,.bool false]) ?_ 2 _ rfl;refine z2_ ?_;refine blk_put (cs := #[.int .i64 a0_0,.bool false,.int .i64 0,.int .u64 0,.int .u64 0,.bool false]) ?_ 1 _ rfl;refine z2_ ?_;refine blk_put (cs := #[.int .i64 0,.bool false,.int .i64 0,.int .u64 0,.int .u64 0,.bool false]) ?_ 0 _ rfl;refine z2_ ?_;exact BK105.out) hb);have n3_ := am_ (below_step (z3_ HB.out) hb);clear BK103;clear BK104;clear BK105;clear HB;have BK103 := n0_;have BK104 := n1_;have BK105 := n2_;have HB := n3_;clear n0_ n1_ n2_ n3_;(try clear hb);obtain ⟨hcz14_0, hcz14_1, hcz14_2, hcz14_3, hfz14_0⟩ := zc4_ BK103.out;obtain ⟨hcz15_0, hcz15_1, hcz15_2, hcz15_3, hcz15_4, hcz15_5, hfz15_0⟩ := zc6_ BK104.out))
   refine bodyPost_ret (results_ct rfl _ _ gb104 27 #[.int .i64 0,.bool false,.int .i64 0,.int .u64 0,.int .u64 0,.bool false] (0, 0) _ rfl (by refine z2_ ?_;refine blk_put (cs := #[.int .i64 0,.bool false,.int .i64 0,.int .u64 0,.int .u64 0,.bool false]) ?_ 5 _ rfl;refine z2_ ?_;refine blk_put (cs := #[.int .i64 0,.bool false,.int .i64 0,.int .u64 0,.int .u64 0,.bool false]) ?_ 4 _ rfl;refine z2_ ?_;refine blk_put (cs := #[.int .i64 0,.bool false,.int .i64 0,.int .u64 0,.int .u64 0,.bool false]) ?_ 3 _ rfl;refine z2_ ?_;refine blk_put (cs := #[.int .i64 0,.bool false,.int .i64 0,.int .u64 0,.int .u64 0,.bool false]) ?_ 2 _ rfl;refine z2_ ?_;refine blk_put (cs := #[.int .i64 0,.bool false,.int .i64 0,.int .u64 0,.int .u64 0,.bool false]) ?_ 1 _ rfl;refine z2_ ?_;refine blk_put (cs := #[.int .i64 0,.bool false,.int .i64 0,.int .u64 0,.int .u64 0,.bool false]) ?_ 0 _ rfl;refine z2_ ?_;exact BK104.out) Try.underlying27 rfl (by kernel_rfl)) rfl ?_
   exact ⟨z6_, z3_ HB.out⟩
  ·rw [if_neg c4] at H
   have c4b0 : decide (a0_2 < (-1073741824)) = false := decide_eq_false c4
   clear c4
   by_cases c16 : a0_2 > 1073741824
   ·rw [if_pos c16] at H
    have c16b0 : decide (1073741824 < a0_2) = true := decide_eq_true c16
    clear c16
    simp only [Option.some.injEq, Prod.mk.injEq] at H
    obtain ⟨rfl, rfl, rfl, rfl, rfl, rfl, rfl⟩ := H
    go_enter Try.func21, Try.ntmps21
    go_wp2_with (first | ((with_reducible refine gate_dst (N := 1) rfl ?_);refine box_event ?hg (N := 1) ?hd (cs := #[.int .i64 a0_0,.bool a0_1,.int .i64 a0_2,.int .u64 a0_3]) (t := 24) ?hr ?_;(case hd => rfl);(case hg => rfl);(case hr => first | (go_simp;done) | (go_simp;rfl));intro gb103 hg w17 hbox hb;have n0_ := am_ (below_step (z3_ HB.out) hb);have n1_ := am_ (hbox);have n2_ := am_ ((by rw [hg];exact (below_size (z3_ HB.out)) : w.heap.size ≤ gb103));have n3_ := am_ ((by rw [hg];exact (below_size (z3_ HB.out)) : w.heap.size ≤ gb103));clear HB;have HB := n0_;have BK103 := n1_;have GW103 := n2_;have GE103 := n3_;clear n0_ n1_ n2_ n3_;clear hb hbox hg) | ((with_reducible refine gate_dst (N := 2) rfl ?_);refine box_event ?hg (N := 2) ?hd (cs := #[.int .i64 0,.bool false,.int .i64 0,.int .u64 0,.int .u64 0,.bool false]) (t := 27) ?hr ?_;(case hd => rfl);(case hg => rfl);(case hr => first | (go_simp;done) | (go_simp;rfl));intro gb104 hg w18 hbox hb;have n0_ := am_ (blk_below (g := gb103) (z1_ BK103.out) hb);have n1_ := am_ (below_step (z3_ HB.out) hb);have n2_ := am_ (hbox);have n3_ := am_ ((by rw [hg];exact (below_size (z3_ HB.out)) : w.heap.size ≤ gb104));have n4_ := am_ ((by rw [hg];exact (below_size (z3_ HB.out)) : w.heap.size ≤ gb104));have n5_ := am_ ((by rw [hg];exact Nat.ne_of_lt (blk_lt (g := gb103) (o := .cells #[.int .i64 a0_0,.bool a0_1,.int .i64 a0_2,.int .u64 a0_3] 24 (0, 0)) (z1_ BK103.out)) : gb103 ≠ gb104));have n6_ := am_ ((by rw [hg];exact Nat.ne_of_gt (blk_lt (g := gb103) (o := .cells #[.int .i64 a0_0,.bool a0_1,.int .i64 a0_2,.int .u64 a0_3] 24 (0, 0)) (z1_ BK103.out)) : gb104 ≠ gb103));clear BK103;clear HB;have BK103 := n0_;have HB := n1_;have BK104 := n2_;have GW104 := n3_;have GE104 := n4_;have NB103_104 := n5_;have NB104_103 := n6_;clear n0_ n1_ n2_ n3_ n4_ n5_ n6_;clear hb hbox hg;have hnb19 := NB103_104.out;have hnc19 := NB104_103.out;obtain ⟨hcz20_0, hcz20_1, hcz20_2, hcz20_3, hfz20_0⟩ := zc4_ BK103.out) | ((with_reducible refine gate_dst (N := 4) rfl ?_);refine box_event ?hg (N := 4) ?hd (cs := #[.int .i64 0,.bool false,.int .i64 0,.int .u64 0,.int .u64 0,.bool false]) (t := 27) ?hr ?_;(case hd => rfl);(case hg => rfl);(case hr => first | (go_simp;done) | (go_simp;rfl));intro gb105 hg w21 hbox hb;have n0_ := am_ (blk_below (g := gb103) (z1_ BK103.out) hb);have n1_ := am_ (blk_below (g := gb104) (z1_ BK104.out) hb);have n2_ := am_ (below_step (z3_ HB.out) hb);have n3_ := am_ (hbox);have n4_ := am_ ((by rw [hg];exact (below_size (z3_ HB.out)) : w.heap.size ≤ gb105));have n5_ := am_ ((by rw [hg];exact (below_size (z3_ HB.out)) : w.heap.size ≤ gb105));have n6_ := am_ ((by rw [hg];exact Nat.ne_of_lt (blk_lt (g := gb103) (o := .cells #[.int .i64 a0_0,.bool a0_1,.int .i64 a0_2,.int .u64 a0_3] 24 (0, 0)) (z1_ BK103.out)) : gb103 ≠ gb105));have n7_ := am_ ((by rw [hg];exact Nat.ne_of_gt (blk_lt (g := gb103) (o := .cells #[.int .i64 a0_0,.bool a0_1,.int .i64 a0_2,.int .u64 a0_3] 24 (0, 0)) (z1_ BK103.out)) : gb105 ≠ gb103));have n8_ := am_ ((by rw [hg];exact Nat.ne_of_lt (blk_lt (g := gb104) (o := .cells #[.int .i64 0,.bool false,.int .i64 0,.int .u64 0,.int .u64 0,.bool false] 27 (0, 0)) (z1_ BK104.out)) : gb104 ≠ gb105));have n9_ := am_ ((by rw [hg];exact Nat.ne_of_gt (blk_lt (g := gb104) (o := .cells #[.int .i64 0,.bool false,.int .i64 0,.int .u64 0,.int .u64 0,.bool false] 27 (0, 0)) (z1_ BK104.out)) : gb105 ≠ gb104));clear BK103;clear BK104;clear HB;have BK103 := n0_;have BK104 := n1_;have HB := n2_;have BK105 := n3_;have GW105 := n4_;have GE105 := n5_;have NB103_105 := n6_;have NB105_103 := n7_;have NB104_105 := n8_;have NB105_104 := n9_;clear n0_ n1_ n2_ n3_ n4_ n5_ n6_ n7_ n8_ n9_;clear hb hbox hg;have hnb22 := NB105_103.out;have hnc22 := NB103_105.out;have hnb23 := NB105_104.out;have hnc23 := NB104_105.out;obtain ⟨hcz24_0, hcz24_1, hcz24_2, hcz24_3, hcz24_4, hcz24_5, hfz24_0⟩ := zc6_ BK105.out) | ((with_reducible refine gate_callee (f := 36) rfl ?_);refine goesL_ (some 15) rfl rfl Try.func36 (by kernel_rfl) rfl #[.agg #[.int .i64 a0_0,.bool a0_1,.int .i64 a0_2,.int .u64 a0_3,.int .u64 0,.bool false]] rfl z5_ ?_;(with_reducible refine (round_sound.calls k a0_0 a0_1 a0_2 a0_3 0 false true _ A2.out).mono ?_);rintro e w25 ⟨rfl, hb⟩;refine ⟨_, rfl, ?_⟩;have n0_ := am_ (blk_below (g := gb103) (o := .cells #[.int .i64 a0_0,.bool a0_1,.int .i64 a0_2,.int .u64 a0_3] 24 (0, 0)) (by refine z2_ ?_;refine blk_far ?_ NB103_105.out _;refine z2_ ?_;refine blk_far ?_ NB103_105.out _;refine z2_ ?_;refine blk_far ?_ NB103_105.out _;refine z2_ ?_;refine blk_far ?_ NB103_105.out _;refine z2_ ?_;refine blk_far ?_ NB103_105.out _;refine z2_ ?_;refine blk_far ?_ NB103_105.out _;refine z2_ ?_;exact BK103.out) hb);have n1_ := am_ (blk_below (g := gb104) (o := .cells #[.int .i64 0,.bool false,.int .i64 0,.int .u64 0,.int .u64 0,.bool false] 27 (0, 0)) (by refine z2_ ?_;refine blk_far ?_ NB104_105.out _;refine z2_ ?_;refine blk_far ?_ NB104_105.out _;refine z2_ ?_;refine blk_far ?_ NB104_105.out _;refine z2_ ?_;refine blk_far ?_ NB104_105.out _;refine z2_ ?_;refine blk_far ?_ NB104_105.out _;refine z2_ ?_;refine blk_far ?_ NB104_105.out _;refine z2_ ?_;exact BK104.out) hb);have n2_ := am_ (blk_below (g := gb105) (o := .cells #[.int .i64 a0_0,.bool a0_1,.int .i64 a0_2,.int .u64 a0_3,.int .u64 0,.bool false] 27 (0, 0)) (by refine z2_ ?_;refine blk_put (cs := #[.int .i64 a0_0,.bool a0_1,.int .i64 a0_2,.int .u64 a0_3,.int .u64 0,.bool false]) ?_ 5 _ rfl;refine z2_ ?_;refine blk_put (cs := #[.int .i64 a0_0,.bool a0_1,.int .i64 a0_2,.int .u64 a0_3,.int .u64 0,.bool false]) ?_ 4 _ rfl;refine z2_ ?_;refine blk_put (cs := #[.int .i64 a0_0,.bool a0_1,.int .i64 a0_2,.int .u64 0,.int .u64 0,.bool false]) ?_ 3 _ rfl;refine z2_ ?_;refine blk_put (cs := #[.int .i64 a0_0,.bool a0_1,.int .i64 0,.int .u64 0,.int .u64 0,.bool false]) ?_ 2 _ rfl;refine z2_ ?_;refine blk_put (cs := #[.int .i64 a0_0,.bool false,.int .i64 0,.int .u64 0,.int .u64 0,.bool false]) ?_ 1 _ rfl;refine z2_ ?_;refine blk_put (cs := #[.int .i64 0,.bool false,.int .i64 0,.int .u64 0,.int .u64 0,.bool false]) ?_ 0 _ rfl;refine z2_ ?_;exact BK105.out) hb);have n3_ := am_ (below_step (z3_ HB.out) hb);clear BK103;clear BK104;clear BK105;clear HB;have BK103 := n0_;have BK104 := n1_;have BK105 := n2_;have HB := n3_;clear n0_ n1_ n2_ n3_;(try clear hb);obtain ⟨hcz26_0, hcz26_1, hcz26_2, hcz26_3, hfz26_0⟩ := zc4_ BK103.out;obtain ⟨hcz27_0, hcz27_1, hcz27_2, hcz27_3, hcz27_4, hcz27_5, hfz27_0⟩ := zc6_ BK104.out))
    refine bodyPost_ret (results_ct rfl _ _ gb104 27 #[.int .i64 0,.bool false,.int .i64 0,.int .u64 0,.int .u64 0,.bool false] (0, 0) _ rfl (by refine z2_ ?_;refine blk_put (cs := #[.int .i64 0,.bool false,.int .i64 0,.int .u64 0,.int .u64 0,.bool false]) ?_ 5 _ rfl;refine z2_ ?_;refine blk_put (cs := #[.int .i64 0,.bool false,.int .i64 0,.int .u64 0,.int .u64 0,.bool false]) ?_ 4 _ rfl;refine z2_ ?_;refine blk_put (cs := #[.int .i64 0,.bool false,.int .i64 0,.int .u64 0,.int .u64 0,.bool false]) ?_ 3 _ rfl;refine z2_ ?_;refine blk_put (cs := #[.int .i64 0,.bool false,.int .i64 0,.int .u64 0,.int .u64 0,.bool false]) ?_ 2 _ rfl;refine z2_ ?_;refine blk_put (cs := #[.int .i64 0,.bool false,.int .i64 0,.int .u64 0,.int .u64 0,.bool false]) ?_ 1 _ rfl;refine z2_ ?_;refine blk_put (cs := #[.int .i64 0,.bool false,.int .i64 0,.int .u64 0,.int .u64 0,.bool false]) ?_ 0 _ rfl;refine z2_ ?_;exact BK104.out) Try.underlying27 rfl (by kernel_rfl)) rfl ?_
    exact ⟨z6_, z3_ HB.out⟩
   ·rw [if_neg c16] at H
    have c16b0 : decide (1073741824 < a0_2) = false := decide_eq_false c16
    clear c16
    simp only [Option.some.injEq, Prod.mk.injEq] at H
    obtain ⟨rfl, rfl, rfl, rfl, rfl, rfl, rfl⟩ := H
    go_enter Try.func21, Try.ntmps21
    go_wp2_with (first | ((with_reducible refine gate_dst (N := 1) rfl ?_);refine box_event ?hg (N := 1) ?hd (cs := #[.int .i64 a0_0,.bool a0_1,.int .i64 a0_2,.int .u64 a0_3]) (t := 24) ?hr ?_;(case hd => rfl);(case hg => rfl);(case hr => first | (go_simp;done) | (go_simp;rfl));intro gb103 hg w28 hbox hb;have n0_ := am_ (below_step (z3_ HB.out) hb);have n1_ := am_ (hbox);have n2_ := am_ ((by rw [hg];exact (below_size (z3_ HB.out)) : w.heap.size ≤ gb103));have n3_ := am_ ((by rw [hg];exact (below_size (z3_ HB.out)) : w.heap.size ≤ gb103));clear HB;have HB := n0_;have BK103 := n1_;have GW103 := n2_;have GE103 := n3_;clear n0_ n1_ n2_ n3_;clear hb hbox hg) | ((with_reducible refine gate_dst (N := 2) rfl ?_);refine box_event ?hg (N := 2) ?hd (cs := #[.int .i64 0,.bool false,.int .i64 0,.int .u64 0,.int .u64 0,.bool false]) (t := 27) ?hr ?_;(case hd => rfl);(case hg => rfl);(case hr => first | (go_simp;done) | (go_simp;rfl));intro gb104 hg w29 hbox hb;have n0_ := am_ (blk_below (g := gb103) (z1_ BK103.out) hb);have n1_ := am_ (below_step (z3_ HB.out) hb);have n2_ := am_ (hbox);have n3_ := am_ ((by rw [hg];exact (below_size (z3_ HB.out)) : w.heap.size ≤ gb104));have n4_ := am_ ((by rw [hg];exact (below_size (z3_ HB.out)) : w.heap.size ≤ gb104));have n5_ := am_ ((by rw [hg];exact Nat.ne_of_lt (blk_lt (g := gb103) (o := .cells #[.int .i64 a0_0,.bool a0_1,.int .i64 a0_2,.int .u64 a0_3] 24 (0, 0)) (z1_ BK103.out)) : gb103 ≠ gb104));have n6_ := am_ ((by rw [hg];exact Nat.ne_of_gt (blk_lt (g := gb103) (o := .cells #[.int .i64 a0_0,.bool a0_1,.int .i64 a0_2,.int .u64 a0_3] 24 (0, 0)) (z1_ BK103.out)) : gb104 ≠ gb103));clear BK103;clear HB;have BK103 := n0_;have HB := n1_;have BK104 := n2_;have GW104 := n3_;have GE104 := n4_;have NB103_104 := n5_;have NB104_103 := n6_;clear n0_ n1_ n2_ n3_ n4_ n5_ n6_;clear hb hbox hg;have hnb30 := NB103_104.out;have hnc30 := NB104_103.out;obtain ⟨hcz31_0, hcz31_1, hcz31_2, hcz31_3, hfz31_0⟩ := zc4_ BK103.out) | ((with_reducible refine gate_dst (N := 4) rfl ?_);refine box_event ?hg (N := 4) ?hd (cs := #[.int .i64 0,.bool false,.int .i64 0,.int .u64 0,.int .u64 0,.bool false]) (t := 27) ?hr ?_;(case hd => rfl);(case hg => rfl);(case hr => first | (go_simp;done) | (go_simp;rfl));intro gb105 hg w32 hbox hb;have n0_ := am_ (blk_below (g := gb103) (z1_ BK103.out) hb);have n1_ := am_ (blk_below (g := gb104) (z1_ BK104.out) hb);have n2_ := am_ (below_step (z3_ HB.out) hb);have n3_ := am_ (hbox);have n4_ := am_ ((by rw [hg];exact (below_size (z3_ HB.out)) : w.heap.size ≤ gb105));have n5_ := am_ ((by rw [hg];exact (below_size (z3_ HB.out)) : w.heap.size ≤ gb105));have n6_ := am_ ((by rw [hg];exact Nat.ne_of_lt (blk_lt (g := gb103) (o := .cells #[.int .i64 a0_0,.bool a0_1,.int .i64 a0_2,.int .u64 a0_3] 24 (0, 0)) (z1_ BK103.out)) : gb103 ≠ gb105));have n7_ := am_ ((by rw [hg];exact Nat.ne_of_gt (blk_lt (g := gb103) (o := .cells #[.int .i64 a0_0,.bool a0_1,.int .i64 a0_2,.int .u64 a0_3] 24 (0, 0)) (z1_ BK103.out)) : gb105 ≠ gb103));have n8_ := am_ ((by rw [hg];exact Nat.ne_of_lt (blk_lt (g := gb104) (o := .cells #[.int .i64 0,.bool false,.int .i64 0,.int .u64 0,.int .u64 0,.bool false] 27 (0, 0)) (z1_ BK104.out)) : gb104 ≠ gb105));have n9_ := am_ ((by rw [hg];exact Nat.ne_of_gt (blk_lt (g := gb104) (o := .cells #[.int .i64 0,.bool false,.int .i64 0,.int .u64 0,.int .u64 0,.bool false] 27 (0, 0)) (z1_ BK104.out)) : gb105 ≠ gb104));clear BK103;clear BK104;clear HB;have BK103 := n0_;have BK104 := n1_;have HB := n2_;have BK105 := n3_;have GW105 := n4_;have GE105 := n5_;have NB103_105 := n6_;have NB105_103 := n7_;have NB104_105 := n8_;have NB105_104 := n9_;clear n0_ n1_ n2_ n3_ n4_ n5_ n6_ n7_ n8_ n9_;clear hb hbox hg;have hnb33 := NB105_103.out;have hnc33 := NB103_105.out;have hnb34 := NB105_104.out;have hnc34 := NB104_105.out;obtain ⟨hcz35_0, hcz35_1, hcz35_2, hcz35_3, hcz35_4, hcz35_5, hfz35_0⟩ := zc6_ BK105.out) | ((with_reducible refine gate_callee (f := 36) rfl ?_);refine goesL_ (some 15) rfl rfl Try.func36 (by kernel_rfl) rfl #[.agg #[.int .i64 a0_0,.bool a0_1,.int .i64 a0_2,.int .u64 a0_3,.int .u64 0,.bool false]] rfl z5_ ?_;(with_reducible refine (round_sound.calls k a0_0 a0_1 a0_2 a0_3 0 false true _ A2.out).mono ?_);rintro e w36 ⟨rfl, hb⟩;refine ⟨_, rfl, ?_⟩;have n0_ := am_ (blk_below (g := gb103) (o := .cells #[.int .i64 a0_0,.bool a0_1,.int .i64 a0_2,.int .u64 a0_3] 24 (0, 0)) (by refine z2_ ?_;refine blk_far ?_ NB103_105.out _;refine z2_ ?_;refine blk_far ?_ NB103_105.out _;refine z2_ ?_;refine blk_far ?_ NB103_105.out _;refine z2_ ?_;refine blk_far ?_ NB103_105.out _;refine z2_ ?_;refine blk_far ?_ NB103_105.out _;refine z2_ ?_;refine blk_far ?_ NB103_105.out _;refine z2_ ?_;exact BK103.out) hb);have n1_ := am_ (blk_below (g := gb104) (o := .cells #[.int .i64 0,.bool false,.int .i64 0,.int .u64 0,.int .u64 0,.bool false] 27 (0, 0)) (by refine z2_ ?_;refine blk_far ?_ NB104_105.out _;refine z2_ ?_;refine blk_far ?_ NB104_105.out _;refine z2_ ?_;refine blk_far ?_ NB104_105.out _;refine z2_ ?_;refine blk_far ?_ NB104_105.out _;refine z2_ ?_;refine blk_far ?_ NB104_105.out _;refine z2_ ?_;refine blk_far ?_ NB104_105.out _;refine z2_ ?_;exact BK104.out) hb);have n2_ := am_ (blk_below (g := gb105) (o := .cells #[.int .i64 a0_0,.bool a0_1,.int .i64 a0_2,.int .u64 a0_3,.int .u64 0,.bool false] 27 (0, 0)) (by refine z2_ ?_;refine blk_put (cs := #[.int .i64 a0_0,.bool a0_1,.int .i64 a0_2,.int .u64 a0_3,.int .u64 0,.bool false]) ?_ 5 _ rfl;refine z2_ ?_;refine blk_put (cs := #[.int .i64 a0_0,.bool a0_1,.int .i64 a0_2,.int .u64 a0_3,.int .u64 0,.bool false]) ?_ 4 _ rfl;refine z2_ ?_;refine blk_put (cs := #[.int .i64 a0_0,.bool a0_1,.int .i64 a0_2,.int .u64 0,.int .u64 0,.bool false]) ?_ 3 _ rfl;refine z2_ ?_;refine blk_put (cs := #[.int .i64 a0_0,.bool a0_1,.int .i64 0,.int .u64 0,.int .u64 0,.bool false]) ?_ 2 _ rfl;refine z2_ ?_;refine blk_put (cs := #[.int .i64 a0_0,.bool false,.int .i64 0,.int .u64 0,.int .u64 0,.bool false]) ?_ 1 _ rfl;refine z2_ ?_;refine blk_put (cs := #[.int .i64 0,.bool false,.int .i64 0,.int .u64 0,.int .u64 0,.bool false]) ?_ 0 _ rfl;refine z2_ ?_;exact BK105.out) hb);have n3_ := am_ (below_step (z3_ HB.out) hb);clear BK103;clear BK104;clear BK105;clear HB;have BK103 := n0_;have BK104 := n1_;have BK105 := n2_;have HB := n3_;clear n0_ n1_ n2_ n3_;(try clear hb);obtain ⟨hcz37_0, hcz37_1, hcz37_2, hcz37_3, hfz37_0⟩ := zc4_ BK103.out;obtain ⟨hcz38_0, hcz38_1, hcz38_2, hcz38_3, hcz38_4, hcz38_5, hfz38_0⟩ := zc6_ BK105.out;obtain ⟨hcz39_0, hcz39_1, hcz39_2, hcz39_3, hcz39_4, hcz39_5, hfz39_0⟩ := zc6_ BK104.out))
    refine bodyPost_ret (results_ct rfl _ _ gb104 27 #[.int .i64 a0_0,.bool a0_1,.int .i64 a0_2,.int .u64 a0_3,.int .u64 0,.bool false] (0, 0) _ rfl (by refine z2_ ?_;refine blk_put (cs := #[.int .i64 a0_0,.bool a0_1,.int .i64 a0_2,.int .u64 a0_3,.int .u64 0,.bool false]) ?_ 5 _ rfl;refine z2_ ?_;refine blk_put (cs := #[.int .i64 a0_0,.bool a0_1,.int .i64 a0_2,.int .u64 a0_3,.int .u64 0,.bool false]) ?_ 4 _ rfl;refine z2_ ?_;refine blk_put (cs := #[.int .i64 a0_0,.bool a0_1,.int .i64 a0_2,.int .u64 0,.int .u64 0,.bool false]) ?_ 3 _ rfl;refine z2_ ?_;refine blk_put (cs := #[.int .i64 a0_0,.bool a0_1,.int .i64 0,.int .u64 0,.int .u64 0,.bool false]) ?_ 2 _ rfl;refine z2_ ?_;refine blk_put (cs := #[.int .i64 a0_0,.bool false,.int .i64 0,.int .u64 0,.int .u64 0,.bool false]) ?_ 1 _ rfl;refine z2_ ?_;refine blk_put (cs := #[.int .i64 0,.bool false,.int .i64 0,.int .u64 0,.int .u64 0,.bool false]) ?_ 0 _ rfl;refine z2_ ?_;exact BK104.out) Try.underlying27 rfl (by kernel_rfl)) rfl ?_
    exact ⟨z6_, z3_ HB.out⟩
 ·replace c3 := Bool.eq_false_iff.mpr c3
  subst c3
  have H1 : (some (0, false,0, 0, 0, false,some 1)) = some (r1, r2, r3, r4, r5, r6, r7) := by rw [if_neg (show ¬ (false = true) by decide)] at H;exact H
  clear H
  have H := H1
  clear H1
  simp only [Option.some.injEq, Prod.mk.injEq] at H
  obtain ⟨rfl, rfl, rfl, rfl, rfl, rfl, rfl⟩ := H
  go_enter Try.func21, Try.ntmps21
  go_wp2_with (first | ((with_reducible refine gate_dst (N := 1) rfl ?_);refine box_event ?hg (N := 1) ?hd (cs := #[.int .i64 a0_0,.bool a0_1,.int .i64 a0_2,.int .u64 a0_3]) (t := 24) ?hr ?_;(case hd => rfl);(case hg => rfl);(case hr => first | (go_simp;done) | (go_simp;rfl));intro gb103 hg w40 hbox hb;have n0_ := am_ (below_step (z3_ HB.out) hb);have n1_ := am_ (hbox);have n2_ := am_ ((by rw [hg];exact (below_size (z3_ HB.out)) : w.heap.size ≤ gb103));have n3_ := am_ ((by rw [hg];exact (below_size (z3_ HB.out)) : w.heap.size ≤ gb103));clear HB;have HB := n0_;have BK103 := n1_;have GW103 := n2_;have GE103 := n3_;clear n0_ n1_ n2_ n3_;clear hb hbox hg) | ((with_reducible refine gate_dst (N := 2) rfl ?_);refine box_event ?hg (N := 2) ?hd (cs := #[.int .i64 0,.bool false,.int .i64 0,.int .u64 0,.int .u64 0,.bool false]) (t := 27) ?hr ?_;(case hd => rfl);(case hg => rfl);(case hr => first | (go_simp;done) | (go_simp;rfl));intro gb104 hg w41 hbox hb;have n0_ := am_ (blk_below (g := gb103) (z1_ BK103.out) hb);have n1_ := am_ (below_step (z3_ HB.out) hb);have n2_ := am_ (hbox);have n3_ := am_ ((by rw [hg];exact (below_size (z3_ HB.out)) : w.heap.size ≤ gb104));have n4_ := am_ ((by rw [hg];exact (below_size (z3_ HB.out)) : w.heap.size ≤ gb104));have n5_ := am_ ((by rw [hg];exact Nat.ne_of_lt (blk_lt (g := gb103) (o := .cells #[.int .i64 a0_0,.bool a0_1,.int .i64 a0_2,.int .u64 a0_3] 24 (0, 0)) (z1_ BK103.out)) : gb103 ≠ gb104));have n6_ := am_ ((by rw [hg];exact Nat.ne_of_gt (blk_lt (g := gb103) (o := .cells #[.int .i64 a0_0,.bool a0_1,.int .i64 a0_2,.int .u64 a0_3] 24 (0, 0)) (z1_ BK103.out)) : gb104 ≠ gb103));clear BK103;clear HB;have BK103 := n0_;have HB := n1_;have BK104 := n2_;have GW104 := n3_;have GE104 := n4_;have NB103_104 := n5_;have NB104_103 := n6_;clear n0_ n1_ n2_ n3_ n4_ n5_ n6_;clear hb hbox hg;have hnb42 := NB103_104.out;have hnc42 := NB104_103.out;obtain ⟨hcz43_0, hcz43_1, hcz43_2, hcz43_3, hfz43_0⟩ := zc4_ BK103.out) | ((with_reducible refine gate_dst (N := 4) rfl ?_);refine box_event ?hg (N := 4) ?hd (cs := #[.int .i64 0,.bool false,.int .i64 0,.int .u64 0,.int .u64 0,.bool false]) (t := 27) ?hr ?_;(case hd => rfl);(case hg => rfl);(case hr => first | (go_simp;done) | (go_simp;rfl));intro gb105 hg w44 hbox hb;have n0_ := am_ (blk_below (g := gb103) (z1_ BK103.out) hb);have n1_ := am_ (blk_below (g := gb104) (z1_ BK104.out) hb);have n2_ := am_ (below_step (z3_ HB.out) hb);have n3_ := am_ (hbox);have n4_ := am_ ((by rw [hg];exact (below_size (z3_ HB.out)) : w.heap.size ≤ gb105));have n5_ := am_ ((by rw [hg];exact (below_size (z3_ HB.out)) : w.heap.size ≤ gb105));have n6_ := am_ ((by rw [hg];exact Nat.ne_of_lt (blk_lt (g := gb103) (o := .cells #[.int .i64 a0_0,.bool a0_1,.int .i64 a0_2,.int .u64 a0_3] 24 (0, 0)) (z1_ BK103.out)) : gb103 ≠ gb105));have n7_ := am_ ((by rw [hg];exact Nat.ne_of_gt (blk_lt (g := gb103) (o := .cells #[.int .i64 a0_0,.bool a0_1,.int .i64 a0_2,.int .u64 a0_3] 24 (0, 0)) (z1_ BK103.out)) : gb105 ≠ gb103));have n8_ := am_ ((by rw [hg];exact Nat.ne_of_lt (blk_lt (g := gb104) (o := .cells #[.int .i64 0,.bool false,.int .i64 0,.int .u64 0,.int .u64 0,.bool false] 27 (0, 0)) (z1_ BK104.out)) : gb104 ≠ gb105));have n9_ := am_ ((by rw [hg];exact Nat.ne_of_gt (blk_lt (g := gb104) (o := .cells #[.int .i64 0,.bool false,.int .i64 0,.int .u64 0,.int .u64 0,.bool false] 27 (0, 0)) (z1_ BK104.out)) : gb105 ≠ gb104));clear BK103;clear BK104;clear HB;have BK103 := n0_;have BK104 := n1_;have HB := n2_;have BK105 := n3_;have GW105 := n4_;have GE105 := n5_;have NB103_105 := n6_;have NB105_103 := n7_;have NB104_105 := n8_;have NB105_104 := n9_;clear n0_ n1_ n2_ n3_ n4_ n5_ n6_ n7_ n8_ n9_;clear hb hbox hg;have hnb45 := NB105_103.out;have hnc45 := NB103_105.out;have hnb46 := NB105_104.out;have hnc46 := NB104_105.out;obtain ⟨hcz47_0, hcz47_1, hcz47_2, hcz47_3, hcz47_4, hcz47_5, hfz47_0⟩ := zc6_ BK105.out) | ((with_reducible refine gate_callee (f := 36) rfl ?_);refine goesL_ (some 15) rfl rfl Try.func36 (by kernel_rfl) rfl #[.agg #[.int .i64 a0_0,.bool a0_1,.int .i64 a0_2,.int .u64 a0_3,.int .u64 0,.bool false]] rfl z5_ ?_;(with_reducible refine (round_sound.calls k a0_0 a0_1 a0_2 a0_3 0 false false _ A2.out).mono ?_);rintro e w48 ⟨rfl, hb⟩;refine ⟨_, rfl, ?_⟩;have n0_ := am_ (blk_below (g := gb103) (o := .cells #[.int .i64 a0_0,.bool a0_1,.int .i64 a0_2,.int .u64 a0_3] 24 (0, 0)) (by refine z2_ ?_;refine blk_far ?_ NB103_105.out _;refine z2_ ?_;refine blk_far ?_ NB103_105.out _;refine z2_ ?_;refine blk_far ?_ NB103_105.out _;refine z2_ ?_;refine blk_far ?_ NB103_105.out _;refine z2_ ?_;refine blk_far ?_ NB103_105.out _;refine z2_ ?_;refine blk_far ?_ NB103_105.out _;refine z2_ ?_;exact BK103.out) hb);have n1_ := am_ (blk_below (g := gb104) (o := .cells #[.int .i64 0,.bool false,.int .i64 0,.int .u64 0,.int .u64 0,.bool false] 27 (0, 0)) (by refine z2_ ?_;refine blk_far ?_ NB104_105.out _;refine z2_ ?_;refine blk_far ?_ NB104_105.out _;refine z2_ ?_;refine blk_far ?_ NB104_105.out _;refine z2_ ?_;refine blk_far ?_ NB104_105.out _;refine z2_ ?_;refine blk_far ?_ NB104_105.out _;refine z2_ ?_;refine blk_far ?_ NB104_105.out _;refine z2_ ?_;exact BK104.out) hb);have n2_ := am_ (blk_below (g := gb105) (o := .cells #[.int .i64 a0_0,.bool a0_1,.int .i64 a0_2,.int .u64 a0_3,.int .u64 0,.bool false] 27 (0, 0)) (by refine z2_ ?_;refine blk_put (cs := #[.int .i64 a0_0,.bool a0_1,.int .i64 a0_2,.int .u64 a0_3,.int .u64 0,.bool false]) ?_ 5 _ rfl;refine z2_ ?_;refine blk_put (cs := #[.int .i64 a0_0,.bool a0_1,.int .i64 a0_2,.int .u64 a0_3,.int .u64 0,.bool false]) ?_ 4 _ rfl;refine z2_ ?_;refine blk_put (cs := #[.int .i64 a0_0,.bool a0_1,.int .i64 a0_2,.int .u64 0,.int .u64 0,.bool false]) ?_ 3 _ rfl;refine z2_ ?_;refine blk_put (cs := #[.int .i64 a0_0,.bool a0_1,.int .i64 0,.int .u64 0,.int .u64 0,.bool false]) ?_ 2 _ rfl;refine z2_ ?_;refine blk_put (cs := #[.int .i64 a0_0,.bool false,.int .i64 0,.int .u64 0,.int .u64 0,.bool false]) ?_ 1 _ rfl;refine z2_ ?_;refine blk_put (cs := #[.int .i64 0,.bool false,.int .i64 0,.int .u64 0,.int .u64 0,.bool false]) ?_ 0 _ rfl;refine z2_ ?_;exact BK105.out) hb);have n3_ := am_ (below_step (z3_ HB.out) hb);clear BK103;clear BK104;clear BK105;clear HB;have BK103 := n0_;have BK104 := n1_;have BK105 := n2_;have HB := n3_;clear n0_ n1_ n2_ n3_;(try clear hb);obtain ⟨hcz49_0, hcz49_1, hcz49_2, hcz49_3, hcz49_4, hcz49_5, hfz49_0⟩ := zc6_ BK104.out))
  refine bodyPost_ret (results_ct rfl _ _ gb104 27 #[.int .i64 0,.bool false,.int .i64 0,.int .u64 0,.int .u64 0,.bool false] (0, 0) _ rfl (by refine z2_ ?_;refine blk_put (cs := #[.int .i64 0,.bool false,.int .i64 0,.int .u64 0,.int .u64 0,.bool false]) ?_ 5 _ rfl;refine z2_ ?_;refine blk_put (cs := #[.int .i64 0,.bool false,.int .i64 0,.int .u64 0,.int .u64 0,.bool false]) ?_ 4 _ rfl;refine z2_ ?_;refine blk_put (cs := #[.int .i64 0,.bool false,.int .i64 0,.int .u64 0,.int .u64 0,.bool false]) ?_ 3 _ rfl;refine z2_ ?_;refine blk_put (cs := #[.int .i64 0,.bool false,.int .i64 0,.int .u64 0,.int .u64 0,.bool false]) ?_ 2 _ rfl;refine z2_ ?_;refine blk_put (cs := #[.int .i64 0,.bool false,.int .i64 0,.int .u64 0,.int .u64 0,.bool false]) ?_ 1 _ rfl;refine z2_ ?_;refine blk_put (cs := #[.int .i64 0,.bool false,.int .i64 0,.int .u64 0,.int .u64 0,.bool false]) ?_ 0 _ rfl;refine z2_ ?_;exact BK104.out) Try.underlying27 rfl (by kernel_rfl)) rfl ?_
  exact ⟨z6_, z3_ HB.out⟩
def bits_Mul64.f (a0 : Int) (a1 : Int) : Option (Int × Int) := some (IntKind.u64.wrap ((IntKind.u64.wrap ((IntKind.u64.wrap ((a0 / 4294967296) * (a1 / 4294967296))) + ((IntKind.u64.wrap ((IntKind.u64.wrap ((a0 / 4294967296) * (Go.bits .and .u64 a1 4294967295))) + ((IntKind.u64.wrap ((Go.bits .and .u64 a0 4294967295) * (Go.bits .and .u64 a1 4294967295))) / 4294967296))) / 4294967296))) + ((IntKind.u64.wrap ((Go.bits .and .u64 (IntKind.u64.wrap ((IntKind.u64.wrap ((a0 / 4294967296) * (Go.bits .and .u64 a1 4294967295))) + ((IntKind.u64.wrap ((Go.bits .and .u64 a0 4294967295) * (Go.bits .and .u64 a1 4294967295))) / 4294967296))) 4294967295) + (IntKind.u64.wrap ((Go.bits .and .u64 a0 4294967295) * (a1 / 4294967296))))) / 4294967296)), IntKind.u64.wrap (a0 * a1))
set_option maxHeartbeats 8000000 in
set_option maxRecDepth 100000 in
theorem bits_Mul64.calls (a0 : Int) (a1 : Int) (r1 : Int) (r2 : Int) (w : World) (h : bits_Mul64.f a0 a1 = some (r1, r2)) :
  Calls Try.prog 37 #[.int .u64 a0,.int .u64 a1] w fun e w' => e = .returned (.tuple #[.int .u64 r1,.int .u64 r2]) ∧ Drawn0 w w' := by
 have H : (some (IntKind.u64.wrap ((IntKind.u64.wrap ((IntKind.u64.wrap ((a0 / 4294967296) * (a1 / 4294967296))) + ((IntKind.u64.wrap ((IntKind.u64.wrap ((a0 / 4294967296) * (Go.bits .and .u64 a1 4294967295))) + ((IntKind.u64.wrap ((Go.bits .and .u64 a0 4294967295) * (Go.bits .and .u64 a1 4294967295))) / 4294967296))) / 4294967296))) + ((IntKind.u64.wrap ((Go.bits .and .u64 (IntKind.u64.wrap ((IntKind.u64.wrap ((a0 / 4294967296) * (Go.bits .and .u64 a1 4294967295))) + ((IntKind.u64.wrap ((Go.bits .and .u64 a0 4294967295) * (Go.bits .and .u64 a1 4294967295))) / 4294967296))) 4294967295) + (IntKind.u64.wrap ((Go.bits .and .u64 a0 4294967295) * (a1 / 4294967296))))) / 4294967296)), IntKind.u64.wrap (a0 * a1))) = some (r1, r2) := h
 clear h
 simp only [Option.some.injEq, Prod.mk.injEq] at H
 obtain ⟨rfl, rfl⟩ := H
 go_enter Try.func37, Try.ntmps37
 go_wp2
 go_ret2
 exact ⟨by first | rfl | (simp;done) | (simp [*];done), by repeat (first | exact Drawn0.refl _ | apply Drawn0.step)⟩
def twin_Mul.f (a0 : Int) (a1 : Int) : Option (Int × Int) := (bits_Mul64.f a0 a1).bind fun bt108 => (some (bt108.1, bt108.2))
set_option maxHeartbeats 8000000 in
set_option maxRecDepth 100000 in
theorem twin_Mul.calls (a0 : Int) (a1 : Int) (r1 : Int) (r2 : Int) (w : World) (h : twin_Mul.f a0 a1 = some (r1, r2)) :
  Calls Try.prog 22 #[.int .u64 a0,.int .u64 a1] w fun e w' => e = .returned (.agg #[.int .u64 r1,.int .u64 r2]) ∧ Below w.heap.size w w' := by
 have hu54 := Try.underlying54
 have HB := am_ (Below.refl w.heap.size w)
 have H : ((bits_Mul64.f a0 a1).bind fun bt108 => (some (bt108.1, bt108.2))) = some (r1, r2) := h
 clear h
 replace H := Option.bind_eq_some_iff.mp H
 obtain ⟨⟨t108, t109⟩, A30, H⟩ := H
 replace H : (some (t108, t109)) = some (r1, r2) := H
 have A3 := am_ A30
 clear A30
 simp only [Option.some.injEq, Prod.mk.injEq] at H
 obtain ⟨rfl, rfl⟩ := H
 go_enter Try.func22, Try.ntmps22
 go_wp2_with (first | ((with_reducible refine gate_dst (N := 4) rfl ?_);refine box_event ?hg (N := 4) ?hd (cs := #[.int .u64 0,.int .u64 0]) (t := 54) ?hr ?_;(case hd => rfl);(case hg => rfl);(case hr => first | (go_simp;done) | (go_simp;rfl));intro gb107 hg w4 hbox hb;have n0_ := am_ (below_step (z3_ HB.out) hb);have n1_ := am_ (hbox);have n2_ := am_ ((by rw [hg];exact (below_size (z3_ HB.out)) : w.heap.size ≤ gb107));have n3_ := am_ ((by rw [hg];exact (below_size (z3_ HB.out)) : w.heap.size ≤ gb107));clear HB;have HB := n0_;have BK107 := n1_;have GW107 := n2_;have GE107 := n3_;clear n0_ n1_ n2_ n3_;clear hb hbox hg) | ((with_reducible refine gate_callee (f := 37) rfl ?_);refine goesL_ (some 10) rfl rfl Try.func37 (by kernel_rfl) rfl #[.int .u64 a0,.int .u64 a1] rfl z5_ ?_;(with_reducible refine (bits_Mul64.calls a0 a1 t108 t109 _ A3.out).mono ?_);rintro e w' ⟨rfl, ⟨nd, rfl⟩⟩;refine ⟨_, rfl, ?_⟩;(try (rw [drewN_self w4];generalize hq_ : World.drewN w4 _ = w4;have n0_ : Aside0 (w4.heap[gb107]? = some (.cells #[.int .u64 0,.int .u64 0] 54 (0, 0))) := ⟨by rw [← hq_];exact (z1_ BK107.out)⟩;have n1_ : Aside0 (Below w.heap.size w w4) := ⟨by rw [← hq_];exact (z3_ HB.out)⟩;clear BK107 HB hq_;have BK107 := n0_;have HB := n1_;clear n0_ n1_));obtain ⟨hcz5_0, hcz5_1, hfz5_0⟩ := zc2_ BK107.out))
 refine bodyPost_ret (results_cell_row rfl _ _ gb107 54 #[.int .u64 t108,.int .u64 t109] (0, 0) _ rfl (by refine z2_ ?_;refine blk_put (cs := #[.int .u64 t108,.int .u64 0]) ?_ 1 _ rfl;refine z2_ ?_;refine blk_put (cs := #[.int .u64 0,.int .u64 0]) ?_ 0 _ rfl;refine z2_ ?_;exact BK107.out) Try.underlying54 rfl (by kernel_rfl)) rfl ?_
 exact ⟨z6_, z3_ HB.out⟩
theorem eqA54 (d : Nat) (w : World) (x0 y0 : Int) (x1 y1 : Int) :
  (Op.equalIn (d + 2) 54 (.agg #[.int .u64 x0,.int .u64 x1]) (.agg #[.int .u64 y0,.int .u64 y1])).run Try.prog w = .ok (x0 == y0 && (x1 == y1)) w := by
 refine eqA_of Try.underlying54 (by kernel_rfl) ?_
 refine eqf_cons (by rfl) (by go_simp;rfl) (by go_simp;rfl) (by go_simp) ?_
 exact eqf_last (by rfl) (by go_simp;rfl) (by go_simp;rfl) (by go_simp)
def bits_Len64.f (a0 : Int) : Option (Int) := if 0 ≤ a0 ∧ a0 ≤ 18446744073709551615 then some (Lib.bitLen a0.toNat : Int) else none
theorem bits_Len64.calls (a0 : Int) (r : Int) (w : World) (h : bits_Len64.f a0 = some r) :
  Calls Try.prog 76 #[.int .u64 a0] w fun e w' => e = .returned (.int .i64 r) ∧ Drawn0 w w' := by
 unfold bits_Len64.f at h
 split at h
 ·rename_i hb
  obtain rfl := Option.some.inj h
  exact (Go.Proofs.Ytebhpipfkomhjaa.GLen.len64 a0 w hb.1 hb.2).mono fun e w' ⟨he, hw⟩ => ⟨he, by rw [hw];exact Drawn0.refl _⟩
 ·cases h
def twin_Len.f (a0_0 : Int) (a0_1 : Int) : Option (Int) := if a0_0 > 0 then ((bits_Len64.f a0_0).bind fun t111 => (some (wrap64 (64 + t111)))) else ((bits_Len64.f a0_1).bind fun t112 => (some t112))
set_option maxHeartbeats 8000000 in
set_option maxRecDepth 100000 in
theorem twin_Len.calls (a0_0 : Int) (a0_1 : Int) (r : Int) (w : World) (h : twin_Len.f a0_0 a0_1 = some r) :
  Calls Try.prog 59 #[.agg #[.int .u64 a0_0,.int .u64 a0_1]] w fun e w' => e = .returned (.int .i64 r) ∧ Below w.heap.size w w' := by
 have hu54 := Try.underlying54
 have HB := am_ (Below.refl w.heap.size w)
 have H : (if a0_0 > 0 then ((bits_Len64.f a0_0).bind fun t111 => (some (wrap64 (64 + t111)))) else ((bits_Len64.f a0_1).bind fun t112 => (some t112))) = some r := h
 clear h
 by_cases c2 : a0_0 > 0
 ·rw [if_pos c2] at H
  have c2b0 : decide (0 < a0_0) = true := decide_eq_true c2
  clear c2
  replace H := Option.bind_eq_some_iff.mp H
  obtain ⟨t111, A30, H⟩ := H
  replace H : (some (wrap64 (64 + t111))) = some r := H
  have A3 := am_ A30
  clear A30
  obtain rfl := Option.some.inj H
  go_enter Try.func59, Try.ntmps59
  go_wp2_with (first | ((with_reducible refine gate_dst (N := 1) rfl ?_);refine box_event ?hg (N := 1) ?hd (cs := #[.int .u64 a0_0,.int .u64 a0_1]) (t := 54) ?hr ?_;(case hd => rfl);(case hg => rfl);(case hr => first | (go_simp;done) | (go_simp;rfl));intro gb110 hg w4 hbox hb;have n0_ := am_ (below_step (z3_ HB.out) hb);have n1_ := am_ (hbox);have n2_ := am_ ((by rw [hg];exact (below_size (z3_ HB.out)) : w.heap.size ≤ gb110));have n3_ := am_ ((by rw [hg];exact (below_size (z3_ HB.out)) : w.heap.size ≤ gb110));clear HB;have HB := n0_;have BK110 := n1_;have GW110 := n2_;have GE110 := n3_;clear n0_ n1_ n2_ n3_;clear hb hbox hg;obtain ⟨hcz5_0, hcz5_1, hfz5_0⟩ := zc2_ BK110.out) | ((with_reducible refine gate_callee (f := 76) rfl ?_);refine goesL_ (some 8) rfl rfl Try.func76 (by kernel_rfl) rfl #[.int .u64 a0_0] rfl z5_ ?_;(with_reducible refine (bits_Len64.calls a0_0 t111 _ A3.out).mono ?_);rintro e w' ⟨rfl, ⟨nd, rfl⟩⟩;refine ⟨_, rfl, ?_⟩))
  go_ret
  exact ⟨z6_, z3_ HB.out⟩
 ·rw [if_neg c2] at H
  have c2b0 : decide (0 < a0_0) = false := decide_eq_false c2
  clear c2
  replace H := Option.bind_eq_some_iff.mp H
  obtain ⟨t112, A60, H⟩ := H
  replace H : (some t112) = some r := H
  have A6 := am_ A60
  clear A60
  obtain rfl := Option.some.inj H
  go_enter Try.func59, Try.ntmps59
  go_wp2_with (first | ((with_reducible refine gate_dst (N := 1) rfl ?_);refine box_event ?hg (N := 1) ?hd (cs := #[.int .u64 a0_0,.int .u64 a0_1]) (t := 54) ?hr ?_;(case hd => rfl);(case hg => rfl);(case hr => first | (go_simp;done) | (go_simp;rfl));intro gb110 hg w7 hbox hb;have n0_ := am_ (below_step (z3_ HB.out) hb);have n1_ := am_ (hbox);have n2_ := am_ ((by rw [hg];exact (below_size (z3_ HB.out)) : w.heap.size ≤ gb110));have n3_ := am_ ((by rw [hg];exact (below_size (z3_ HB.out)) : w.heap.size ≤ gb110));clear HB;have HB := n0_;have BK110 := n1_;have GW110 := n2_;have GE110 := n3_;clear n0_ n1_ n2_ n3_;clear hb hbox hg;obtain ⟨hcz8_0, hcz8_1, hfz8_0⟩ := zc2_ BK110.out) | ((with_reducible refine gate_callee (f := 76) rfl ?_);refine goesL_ (some 12) rfl rfl Try.func76 (by kernel_rfl) rfl #[.int .u64 a0_1] rfl z5_ ?_;(with_reducible refine (bits_Len64.calls a0_1 t112 _ A6.out).mono ?_);rintro e w' ⟨rfl, ⟨nd, rfl⟩⟩;refine ⟨_, rfl, ?_⟩))
  go_ret
  exact ⟨z6_, z3_ HB.out⟩
def twin_shl.f (a0_0 : Int) (a0_1 : Int) (a1 : Int) : Option (Int × Int) := if a1 ≥ 64 then (if 0 ≤ (wrap64 (a1 - 64)) then (some (shl .u64 a0_1 (wrap64 (a1 - 64)), 0)) else (none)) else (if 0 ≤ a1 then (if 0 ≤ (wrap64 (64 - a1)) then (some (Go.bits .or .u64 (shl .u64 a0_0 a1) (shr .u64 a0_1 (wrap64 (64 - a1))), shl .u64 a0_1 a1)) else (none)) else (none))
def twin_shl.T3 : Bool × List (List Nat × List Nat) := (true,[([], []), ([0], [0]), ([], []), ([1, 2], [1, 2]), ([], []), ([4], [4]), ([], []), ([6], [6]), ([5, 7], [5, 7]), ([3, 8], [3, 8]), ([], []), ([10], [10]), ([], []), ([11, 12], [11, 12]), ([9, 13], [9, 13]), ([14, 0, 1, 2, 3, 4, 5, 6, 7, 8, 9, 10, 11, 12, 13, 14], [14])])
def twin_shl.B3 : List Nat := [0, 1, 0, 7, 0, 16, 0, 64, 240, 511, 0, 1024, 0, 7168, 16383, 32767]
theorem twin_shl.tab3 : rtab .any (opsOf Try.f60 3) = twin_shl.T3 := by kernel_rfl
theorem twin_shl.bits3 : waitsOk twin_shl.T3.2 twin_shl.B3 = true := by kernel_rfl
set_option maxHeartbeats 8000000 in
set_option maxRecDepth 100000 in
theorem twin_shl.calls (a0_0 : Int) (a0_1 : Int) (a1 : Int) (r1 : Int) (r2 : Int) (w : World) (h : twin_shl.f a0_0 a0_1 a1 = some (r1, r2)) :
  Calls Try.prog 60 #[.agg #[.int .u64 a0_0,.int .u64 a0_1],.int .i64 a1] w fun e w' => e = .returned (.agg #[.int .u64 r1,.int .u64 r2]) ∧ Below w.heap.size w w' := by
 have hu54 := Try.underlying54
 have HB := am_ (Below.refl w.heap.size w)
 have H : (if a1 ≥ 64 then (if 0 ≤ (wrap64 (a1 - 64)) then (some (shl .u64 a0_1 (wrap64 (a1 - 64)), 0)) else (none)) else (if 0 ≤ a1 then (if 0 ≤ (wrap64 (64 - a1)) then (some (Go.bits .or .u64 (shl .u64 a0_0 a1) (shr .u64 a0_1 (wrap64 (64 - a1))), shl .u64 a0_1 a1)) else (none)) else (none))) = some (r1, r2) := h
 clear h
 by_cases c3 : a1 ≥ 64
 ·rw [if_pos c3] at H
  have c3b0 : decide (64 ≤ a1) = true := decide_eq_true c3
  clear c3
  obtain ⟨ji4, hji4⟩ : ∃ j_ : Int, (wrap64 (a1 - 64)) = j_ := ⟨_, rfl⟩
  replace H : (if 0 ≤ (ji4) then (some (shl .u64 a0_1 (ji4), 0)) else (none)) = some (r1, r2) := by first | (rw [hji4] at H;exact H) | (simp only [hji4] at H ⊢;exact H)
  have hji4w : (IntKind.i64.wrap (a1 - 64)) = ji4 := (i64_w _).trans hji4
  by_cases c5 : 0 ≤ (ji4)
  ·rw [if_pos c5] at H
   have c5b0 := eq_true c5
   have c5b1 : decide (0 ≤ (ji4)) = true := decide_eq_true c5
   clear c5
   obtain ⟨ji6, hji6⟩ : ∃ j_ : Int, (shl .u64 a0_1 (ji4)) = j_ := ⟨_, rfl⟩
   replace H : (some (ji6, 0)) = some (r1, r2) := by first | (rw [hji6] at H;exact H) | (simp only [hji6] at H ⊢;exact H)
   have hji6_ : (IntKind.u64.wrap (a0_1 * 2 ^ min (ji4).toNat 64)) = ji6 := hji6
   have hji6z : (ji4) ≤ 64 → (IntKind.u64.wrap (a0_1 * 2 ^ (ji4).toNat)) = ji6 := shl_small hji6
   (try (have hji6Z_ := hji6z (by omega)))
   simp only [Option.some.injEq, Prod.mk.injEq] at H
   obtain ⟨rfl, rfl⟩ := H
   go_enter Try.func60, Try.ntmps60
   go_wp2_with (first | ((with_reducible refine gate_dst (N := 2) rfl ?_);refine box_event ?hg (N := 2) ?hd (cs := #[.int .u64 a0_0,.int .u64 a0_1]) (t := 54) ?hr ?_;(case hd => rfl);(case hg => rfl);(case hr => first | (go_simp;done) | (go_simp;rfl));intro gb113 hg w7 hbox hb;have n0_ := am_ (below_step (z3_ HB.out) hb);have n1_ := am_ (hbox);have n2_ := am_ ((by rw [hg];exact (below_size (z3_ HB.out)) : w.heap.size ≤ gb113));have n3_ := am_ ((by rw [hg];exact (below_size (z3_ HB.out)) : w.heap.size ≤ gb113));clear HB;have HB := n0_;have BK113 := n1_;have GW113 := n2_;have GE113 := n3_;clear n0_ n1_ n2_ n3_;clear hb hbox hg) | ((with_reducible refine gate_dst (N := 4) rfl ?_);refine box_event ?hg (N := 4) ?hd (cs := #[.int .u64 0,.int .u64 0]) (t := 54) ?hr ?_;(case hd => rfl);(case hg => rfl);(case hr => first | (go_simp;done) | (go_simp;rfl));intro gb114 hg w8 hbox hb;have n0_ := am_ (blk_below (g := gb113) (z1_ BK113.out) hb);have n1_ := am_ (below_step (z3_ HB.out) hb);have n2_ := am_ (hbox);have n3_ := am_ ((by rw [hg];exact (below_size (z3_ HB.out)) : w.heap.size ≤ gb114));have n4_ := am_ ((by rw [hg];exact (below_size (z3_ HB.out)) : w.heap.size ≤ gb114));have n5_ := am_ ((by rw [hg];exact Nat.ne_of_lt (blk_lt (g := gb113) (o := .cells #[.int .u64 a0_0,.int .u64 a0_1] 54 (0, 0)) (z1_ BK113.out)) : gb113 ≠ gb114));have n6_ := am_ ((by rw [hg];exact Nat.ne_of_gt (blk_lt (g := gb113) (o := .cells #[.int .u64 a0_0,.int .u64 a0_1] 54 (0, 0)) (z1_ BK113.out)) : gb114 ≠ gb113));clear BK113;clear HB;have BK113 := n0_;have HB := n1_;have BK114 := n2_;have GW114 := n3_;have GE114 := n4_;have NB113_114 := n5_;have NB114_113 := n6_;clear n0_ n1_ n2_ n3_ n4_ n5_ n6_;clear hb hbox hg;have hnb9 := NB113_114.out;have hnc9 := NB114_113.out;obtain ⟨hcz10_0, hcz10_1, hfz10_0⟩ := zc2_ BK113.out;obtain ⟨hcz11_0, hcz11_1, hfz11_0⟩ := zc2_ BK114.out))
   refine bodyPost_ret (results_cell_row rfl _ _ gb114 54 #[.int .u64 ji6,.int .u64 0] (0, 0) _ rfl (by refine z2_ ?_;refine blk_put (cs := #[.int .u64 ji6,.int .u64 0]) ?_ 1 _ rfl;refine z2_ ?_;refine blk_put (cs := #[.int .u64 0,.int .u64 0]) ?_ 0 _ rfl;refine z2_ ?_;exact BK114.out) Try.underlying54 rfl (by kernel_rfl)) rfl ?_
   exact ⟨by first | rfl | (simp [errW_none, errW_some] <;> rfl) | (simp only [← hji4, ← hji6];first | rfl | (simp [errW_none, errW_some] <;> rfl)) | (simp [*, errW_none, errW_some] <;> rfl), z3_ HB.out⟩
  ·rw [if_neg c5] at H
   exact absurd H (by simp)
 ·rw [if_neg c3] at H
  have c3b0 : decide (64 ≤ a1) = false := decide_eq_false c3
  clear c3
  by_cases c12 : 0 ≤ a1
  ·rw [if_pos c12] at H
   have c12b0 := eq_true c12
   have c12b1 : decide (0 ≤ a1) = true := decide_eq_true c12
   clear c12
   obtain ⟨ji13, hji13⟩ : ∃ j_ : Int, (shl .u64 a0_0 a1) = j_ := ⟨_, rfl⟩
   replace H : (if 0 ≤ (wrap64 (64 - a1)) then (some (Go.bits .or .u64 (ji13) (shr .u64 a0_1 (wrap64 (64 - a1))), shl .u64 a0_1 a1)) else (none)) = some (r1, r2) := by first | (rw [hji13] at H;exact H) | (simp only [hji13] at H ⊢;exact H)
   have hji13_ : (IntKind.u64.wrap (a0_0 * 2 ^ min a1.toNat 64)) = ji13 := hji13
   have hji13z : a1 ≤ 64 → (IntKind.u64.wrap (a0_0 * 2 ^ a1.toNat)) = ji13 := shl_small hji13
   (try (have hji13Z_ := hji13z (by omega)))
   obtain ⟨ji14, hji14⟩ : ∃ j_ : Int, (wrap64 (64 - a1)) = j_ := ⟨_, rfl⟩
   replace H : (if 0 ≤ (ji14) then (some (Go.bits .or .u64 (ji13) (shr .u64 a0_1 (ji14)), shl .u64 a0_1 a1)) else (none)) = some (r1, r2) := by first | (rw [hji14] at H;exact H) | (simp only [hji14] at H ⊢;exact H)
   have hji14w : (IntKind.i64.wrap (64 - a1)) = ji14 := (i64_w _).trans hji14
   by_cases c15 : 0 ≤ (ji14)
   ·rw [if_pos c15] at H
    have c15b0 := eq_true c15
    have c15b1 : decide (0 ≤ (ji14)) = true := decide_eq_true c15
    clear c15
    obtain ⟨ji16, hji16⟩ : ∃ j_ : Int, (shr .u64 a0_1 (ji14)) = j_ := ⟨_, rfl⟩
    replace H : (some (Go.bits .or .u64 (ji13) (ji16), shl .u64 a0_1 a1)) = some (r1, r2) := by first | (rw [hji16] at H;exact H) | (simp only [hji16] at H ⊢;exact H)
    have hji16_ : (a0_1 / 2 ^ min (ji14).toNat 64) = ji16 := hji16
    have hji16z : (ji14) ≤ 64 → (a0_1 / 2 ^ (ji14).toNat) = ji16 := shr_small hji16
    (try (have hji16Z_ := hji16z (by omega)))
    have c17b0 := eq_true (of_decide_eq_true (by first | (with_reducible assumption) | assumption) : 0 ≤ a1)
    obtain ⟨ji18, hji18⟩ : ∃ j_ : Int, (shl .u64 a0_1 a1) = j_ := ⟨_, rfl⟩
    replace H : (some (Go.bits .or .u64 (ji13) (ji16), ji18)) = some (r1, r2) := by first | (rw [hji18] at H;exact H) | (simp only [hji18] at H ⊢;exact H)
    have hji18_ : (IntKind.u64.wrap (a0_1 * 2 ^ min a1.toNat 64)) = ji18 := hji18
    have hji18z : a1 ≤ 64 → (IntKind.u64.wrap (a0_1 * 2 ^ a1.toNat)) = ji18 := shl_small hji18
    (try (have hji18Z_ := hji18z (by omega)))
    simp only [Option.some.injEq, Prod.mk.injEq] at H
    obtain ⟨rfl, rfl⟩ := H
    go_enter Try.func60, Try.ntmps60
    try go_wp2_with (first | ((with_reducible refine gate_dst (N := 2) rfl ?_);refine box_event ?hg (N := 2) ?hd (cs := #[.int .u64 a0_0,.int .u64 a0_1]) (t := 54) ?hr ?_;(case hd => rfl);(case hg => rfl);(case hr => first | (go_simp;done) | (go_simp;rfl));intro gb113 hg w19 hbox hb;have n0_ := am_ (below_step (z3_ HB.out) hb);have n1_ := am_ (hbox);have n2_ := am_ ((by rw [hg];exact (below_size (z3_ HB.out)) : w.heap.size ≤ gb113));have n3_ := am_ ((by rw [hg];exact (below_size (z3_ HB.out)) : w.heap.size ≤ gb113));clear HB;have HB := n0_;have BK113 := n1_;have GW113 := n2_;have GE113 := n3_;clear n0_ n1_ n2_ n3_;clear hb hbox hg) | ((with_reducible refine gate_dst (N := 4) rfl ?_);refine box_event ?hg (N := 4) ?hd (cs := #[.int .u64 0,.int .u64 0]) (t := 54) ?hr ?_;(case hd => rfl);(case hg => rfl);(case hr => first | (go_simp;done) | (go_simp;rfl));intro gb114 hg w20 hbox hb;have n0_ := am_ (blk_below (g := gb113) (z1_ BK113.out) hb);have n1_ := am_ (below_step (z3_ HB.out) hb);have n2_ := am_ (hbox);have n3_ := am_ ((by rw [hg];exact (below_size (z3_ HB.out)) : w.heap.size ≤ gb114));have n4_ := am_ ((by rw [hg];exact (below_size (z3_ HB.out)) : w.heap.size ≤ gb114));have n5_ := am_ ((by rw [hg];exact Nat.ne_of_lt (blk_lt (g := gb113) (o := .cells #[.int .u64 a0_0,.int .u64 a0_1] 54 (0, 0)) (z1_ BK113.out)) : gb113 ≠ gb114));have n6_ := am_ ((by rw [hg];exact Nat.ne_of_gt (blk_lt (g := gb113) (o := .cells #[.int .u64 a0_0,.int .u64 a0_1] 54 (0, 0)) (z1_ BK113.out)) : gb114 ≠ gb113));clear BK113;clear HB;have BK113 := n0_;have HB := n1_;have BK114 := n2_;have GW114 := n3_;have GE114 := n4_;have NB113_114 := n5_;have NB114_113 := n6_;clear n0_ n1_ n2_ n3_ n4_ n5_ n6_;clear hb hbox hg))
    have n0_ := am_ (blk_drew BK113.out)
    have n1_ := am_ (blk_drew BK114.out)
    have n2_ := am_ (below_drew1 HB.out)
    clear BK113
    clear BK114
    clear HB
    have BK113 := n0_
    have BK114 := n1_
    have HB := n2_
    clear n0_ n1_ n2_
    refine start_ (n := 16) (S := fun w' => w'.cell? ⟨gb113, 0, none⟩ = some (.int .u64 a0_0) ∧ w'.cell? ⟨gb113, 1, none⟩ = some (.int .u64 a0_1)) (ds := []) #[false,false,false,false,false,false,false,false,false,false,false,false,false,false,false,false] (by kernel_rfl) rfl rfl ⟨(blk_cell BK113.out 0).trans rfl, (blk_cell BK113.out 1).trans rfl⟩ (fun hHeld => ?_);refine with_tabW twin_shl.tab3 twin_shl.bits3 (fun HT_ HW_ => ?_)
    generalize w20.drew = w21 at BK113 BK114 HB hHeld ⊢
    refine pure_ (i := 0) (N := some 13) (v := ?_) (a' := ?_) #[true,false,false,false,false,false,false,false,false,false,false,false,false,false,false,false] rfl rfl (any_of HT_.out (by kernel_rfl)) (fun _ _ _ h => h) (Or.inl ⟨by rfl, ?_⟩) ?_ ?_
    rotate_left
    ·intro w'
     go_simp
     with_reducible rfl
    rotate_left
    ·simp only [Act.put, List.setIfInBounds_toArray, List.set_cons_zero, List.set_cons_succ, i64_w, i32_w]
     rfl
    refine pure_ (i := 2) (N := some 15) (v := ?_) (a' := ?_) #[true,false,true,false,false,false,false,false,false,false,false,false,false,false,false,false] rfl rfl (any_of HT_.out (by kernel_rfl)) (fun _ _ _ h => h) (Or.inl ⟨by rfl, ?_⟩) ?_ ?_
    rotate_left
    ·intro w'
     go_simp
     with_reducible rfl
    rotate_left
    ·simp only [Act.put, List.setIfInBounds_toArray, List.set_cons_zero, List.set_cons_succ, i64_w, i32_w]
     rfl
    refine pure_ (i := 4) (N := some 17) (v := ?_) (a' := ?_) #[true,false,true,false,true,false,false,false,false,false,false,false,false,false,false,false] rfl rfl (any_of HT_.out (by kernel_rfl)) (fun _ _ _ h => h) (Or.inl ⟨by rfl, ?_⟩) ?_ ?_
    rotate_left
    ·intro w'
     go_simp
     with_reducible rfl
    rotate_left
    ·simp only [Act.put, List.setIfInBounds_toArray, List.set_cons_zero, List.set_cons_succ, i64_w, i32_w]
     rfl
    refine pure_ (i := 6) (N := some 19) (v := ?_) (a' := ?_) #[true,false,true,false,true,false,true,false,false,false,false,false,false,false,false,false] rfl rfl (any_of HT_.out (by kernel_rfl)) (fun _ _ _ h => h) (Or.inl ⟨by rfl, ?_⟩) ?_ ?_
    rotate_left
    ·intro w'
     go_simp
     with_reducible rfl
    rotate_left
    ·simp only [Act.put, List.setIfInBounds_toArray, List.set_cons_zero, List.set_cons_succ, i64_w, i32_w]
     rfl
    refine pure_ (i := 7) (N := some 20) (v := ?_) (a' := ?_) #[true,false,true,false,true,false,true,true,false,false,false,false,false,false,false,false] rfl rfl (any_of HT_.out (by kernel_rfl)) (fun _ _ _ h => h) (Or.inl ⟨by rfl, ?_⟩) ?_ ?_
    rotate_left
    ·intro w'
     go_simp
     with_reducible rfl
    rotate_left
    ·simp only [Act.put, List.setIfInBounds_toArray, List.set_cons_zero, List.set_cons_succ, i64_w, i32_w]
     rfl
    refine pure_ (i := 10) (N := some 23) (v := ?_) (a' := ?_) #[true,false,true,false,true,false,true,true,false,false,true,false,false,false,false,false] rfl rfl (any_of HT_.out (by kernel_rfl)) (fun _ _ _ h => h) (Or.inl ⟨by rfl, ?_⟩) ?_ ?_
    rotate_left
    ·intro w'
     go_simp
     with_reducible rfl
    rotate_left
    ·simp only [Act.put, List.setIfInBounds_toArray, List.set_cons_zero, List.set_cons_succ, i64_w, i32_w]
     rfl
    refine pure_ (i := 12) (N := some 25) (v := ?_) (a' := ?_) #[true,false,true,false,true,false,true,true,false,false,true,false,true,false,false,false] rfl rfl (any_of HT_.out (by kernel_rfl)) (fun _ _ _ h => h) (Or.inl ⟨by rfl, ?_⟩) ?_ ?_
    rotate_left
    ·intro w'
     go_simp
     with_reducible rfl
    rotate_left
    ·simp only [Act.put, List.setIfInBounds_toArray, List.set_cons_zero, List.set_cons_succ, i64_w, i32_w]
     rfl
    refine take_ (i := 1) (N := some 14) (v := ?_) (a' := ?_) #[true,true,true,false,true,false,true,true,false,false,true,false,true,false,false,false] rfl rfl (take_ofW HT_.out HW_.out (by kernel_rfl)) (fun _ _ _ h => h) (Or.inl ⟨by rfl, ?_⟩) hHeld ?_ ?_
    rotate_left
    ·rintro w' ⟨s0, s1⟩
     go_simp
     with_reducible rfl
    rotate_left
    ·simp only [Act.put, List.setIfInBounds_toArray, List.set_cons_zero, List.set_cons_succ, i64_w, i32_w]
     rfl
    refine pure_ (i := 3) (N := some 16) (v := ?_) (a' := ?_) #[true,true,true,true,true,false,true,true,false,false,true,false,true,false,false,false] rfl rfl (any_of HT_.out (by kernel_rfl)) (fun _ _ _ h => h) (Or.inl ⟨by rfl, ?_⟩) ?_ ?_
    rotate_left
    ·intro w'
     go_simp
     with_reducible rfl
    rotate_left
    ·simp only [Act.put, List.setIfInBounds_toArray, List.set_cons_zero, List.set_cons_succ, i64_w, i32_w]
     rfl
    refine take_ (i := 5) (N := some 18) (v := ?_) (a' := ?_) #[true,true,true,true,true,true,true,true,false,false,true,false,true,false,false,false] rfl rfl (take_ofW HT_.out HW_.out (by kernel_rfl)) (fun _ _ _ h => h) (Or.inl ⟨by rfl, ?_⟩) hHeld ?_ ?_
    rotate_left
    ·rintro w' ⟨s0, s1⟩
     go_simp
     with_reducible rfl
    rotate_left
    ·simp only [Act.put, List.setIfInBounds_toArray, List.set_cons_zero, List.set_cons_succ, i64_w, i32_w]
     rfl
    refine pure_ (i := 8) (N := some 21) (v := ?_) (a' := ?_) #[true,true,true,true,true,true,true,true,true,false,true,false,true,false,false,false] rfl rfl (any_of HT_.out (by kernel_rfl)) (fun _ _ _ h => h) (Or.inl ⟨by rfl, ?_⟩) ?_ ?_
    rotate_left
    ·intro w'
     go_simp
     with_reducible rfl
    rotate_left
    ·simp only [Act.put, List.setIfInBounds_toArray, List.set_cons_zero, List.set_cons_succ, i64_w, i32_w]
     rfl
    refine pure_ (i := 9) (N := some 22) (v := ?_) (a' := ?_) #[true,true,true,true,true,true,true,true,true,true,true,false,true,false,false,false] rfl rfl (any_of HT_.out (by kernel_rfl)) (fun _ _ _ h => h) (Or.inl ⟨by rfl, ?_⟩) ?_ ?_
    rotate_left
    ·intro w'
     go_simp
     with_reducible rfl
    rotate_left
    ·simp only [Act.put, List.setIfInBounds_toArray, List.set_cons_zero, List.set_cons_succ, i64_w, i32_w]
     rfl
    refine take_ (i := 11) (N := some 24) (v := ?_) (a' := ?_) #[true,true,true,true,true,true,true,true,true,true,true,true,true,false,false,false] rfl rfl (take_ofW HT_.out HW_.out (by kernel_rfl)) (fun _ _ _ h => h) (Or.inl ⟨by rfl, ?_⟩) hHeld ?_ ?_
    rotate_left
    ·rintro w' ⟨s0, s1⟩
     go_simp
     with_reducible rfl
    rotate_left
    ·simp only [Act.put, List.setIfInBounds_toArray, List.set_cons_zero, List.set_cons_succ, i64_w, i32_w]
     rfl
    refine pure_ (i := 13) (N := some 26) (v := ?_) (a' := ?_) #[true,true,true,true,true,true,true,true,true,true,true,true,true,true,false,false] rfl rfl (any_of HT_.out (by kernel_rfl)) (fun _ _ _ h => h) (Or.inl ⟨by rfl, ?_⟩) ?_ ?_
    rotate_left
    ·intro w'
     go_simp
     with_reducible rfl
    rotate_left
    ·simp only [Act.put, List.setIfInBounds_toArray, List.set_cons_zero, List.set_cons_succ, i64_w, i32_w]
     rfl
    refine pure_ (i := 14) (N := some 27) (v := ?_) (a' := ?_) #[true,true,true,true,true,true,true,true,true,true,true,true,true,true,true,false] rfl rfl (any_of HT_.out (by kernel_rfl)) (fun _ _ _ h => h) (Or.inl ⟨by rfl, ?_⟩) ?_ ?_
    rotate_left
    ·intro w'
     go_simp
     with_reducible rfl
    rotate_left
    ·simp only [Act.put, List.setIfInBounds_toArray, List.set_cons_zero, List.set_cons_succ, i64_w, i32_w]
     rfl
    refine one_ (i := 15) (N := none) #[true,true,true,true,true,true,true,true,true,true,true,true,true,true,true,true] rfl rfl (one_of HT_.out (by kernel_rfl)) (by decide) (fun K hK => ?_)
    have hs22 : w21.cell? ⟨gb114, 0, none⟩ = some (.int .u64 0) := (blk_cell BK114.out 0).trans rfl
    have hfs22 := blk_frozen BK114.out 0
    have hns22_0 := NB113_114.out
    have hms22_0 := NB114_113.out
    have hs23 : w21.cell? ⟨gb114, 1, none⟩ = some (.int .u64 0) := (blk_cell BK114.out 1).trans rfl
    have hfs23 := blk_frozen BK114.out 1
    have hns23_0 := NB113_114.out
    have hms23_0 := NB114_113.out
    refine skip_ (w1 := ?_) (by rfl) rfl ?_ ?_
    rotate_left
    ·go_simp
     rfl
    refine hK.out _ _ ⟨((cell_far (p := ⟨gb114, _, none⟩) NB113_114.out _).trans (((cell_far (p := ⟨gb114, _, none⟩) NB113_114.out _).trans (hHeld.1)))), ((cell_far (p := ⟨gb114, _, none⟩) NB113_114.out _).trans (((cell_far (p := ⟨gb114, _, none⟩) NB113_114.out _).trans (hHeld.2))))⟩ (fun hHeld => ?_)
    clear hK K
    refine done_ (done_of HT_.out (by kernel_rfl)) ?_
    try go_wp2
    refine bodyPost_ret (results_cell_row rfl _ _ gb114 54 #[.int .u64 (Go.bits .or .u64 (ji13) (ji16)),.int .u64 ji18] (0, 0) _ rfl (by refine z2_ ?_;refine blk_put (cs := #[.int .u64 (Go.bits .or .u64 (ji13) (ji16)),.int .u64 0]) ?_ 1 _ rfl;refine z2_ ?_;refine blk_put (cs := #[.int .u64 0,.int .u64 0]) ?_ 0 _ rfl;refine z2_ ?_;exact BK114.out) Try.underlying54 rfl (by kernel_rfl)) rfl ?_
    exact ⟨by first | rfl | (simp [errW_none, errW_some] <;> rfl) | (simp only [← hji13, ← hji14, ← hji16, ← hji18];first | rfl | (simp [errW_none, errW_some] <;> rfl)) | (simp [*, errW_none, errW_some] <;> rfl), z3_ HB.out⟩
   ·rw [if_neg c15] at H
    exact absurd H (by simp)
  ·rw [if_neg c12] at H
   exact absurd H (by simp)
end Go.Proofs.Ytebhpipfkomhjaa.PAll
namespace Go.Proofs.Ytebhpipfkomhjaa.PAll
open Go.RowKit Go.Proofs.YtebhpipfkomhjaaW.PrintWords Go.Proofs.YtebhpipfkomhjaaW.PrintLast Go.Proofs.YtebhpipfkomhjaaW.PrintMore
attribute [local go_sem] max2_int min2_int max_two min_two max_three min_three max_four min_four
set_option linter.unusedVariables false
set_option linter.unusedSimpArgs false
attribute [local go_sem high] eqA54
def twin_Norm.f (a0_0 : Int) (a0_1 : Int) : Option (Int × Int × Int) := if (a0_0 == 0 && (a0_1 == 0)) = true then (some (a0_0, a0_1, 0)) else ((twin_Len.f a0_0 a0_1).bind fun t117 => ((twin_shl.f a0_0 a0_1 (wrap64 (128 - t117))).bind fun bt118 => (some (bt118.1, bt118.2, wrap64 (128 - t117)))))
set_option maxHeartbeats 8000000 in
set_option maxRecDepth 100000 in
theorem twin_Norm.calls (a0_0 : Int) (a0_1 : Int) (r1 : Int) (r2 : Int) (r3 : Int) (w : World) (h : twin_Norm.f a0_0 a0_1 = some (r1, r2, r3)) :
  Calls Try.prog 38 #[.agg #[.int .u64 a0_0,.int .u64 a0_1]] w fun e w' => e = .returned (.tuple #[.agg #[.int .u64 r1,.int .u64 r2],.int .i64 r3]) ∧ Below w.heap.size w w' := by
 have hu54 := Try.underlying54
 have HB := am_ (Below.refl w.heap.size w)
 have H : (if (a0_0 == 0 && (a0_1 == 0)) = true then (some (a0_0, a0_1, 0)) else ((twin_Len.f a0_0 a0_1).bind fun t117 => ((twin_shl.f a0_0 a0_1 (wrap64 (128 - t117))).bind fun bt118 => (some (bt118.1, bt118.2, wrap64 (128 - t117)))))) = some (r1, r2, r3) := h
 clear h
 by_cases c2 : (a0_0 == 0 && (a0_1 == 0)) = true
 ·rw [if_pos c2] at H
  have c2b0 : (a0_0 == 0 && (a0_1 == 0)) = true := c2
  (try (have c2b1 : decide (a0_0 = 0 && (a0_1 == 0)) = true := by simpa using c2))
  (try (have c2b2 : (a0_0 == 0 && (a0_1 == 0)) = true := by simpa using c2))
  clear c2
  simp only [Option.some.injEq, Prod.mk.injEq] at H
  obtain ⟨rfl, rfl, rfl⟩ := H
  go_enter Try.func38, Try.ntmps38
  go_wp2_with (first | ((with_reducible refine gate_dst (N := 1) rfl ?_);refine box_event ?hg (N := 1) ?hd (cs := #[.int .u64 a0_0,.int .u64 a0_1]) (t := 54) ?hr ?_;(case hd => rfl);(case hg => rfl);(case hr => first | (go_simp;done) | (go_simp;rfl));intro gb115 hg w3 hbox hb;have n0_ := am_ (below_step (z3_ HB.out) hb);have n1_ := am_ (hbox);have n2_ := am_ ((by rw [hg];exact (below_size (z3_ HB.out)) : w.heap.size ≤ gb115));have n3_ := am_ ((by rw [hg];exact (below_size (z3_ HB.out)) : w.heap.size ≤ gb115));clear HB;have HB := n0_;have BK115 := n1_;have GW115 := n2_;have GE115 := n3_;clear n0_ n1_ n2_ n3_;clear hb hbox hg) | ((with_reducible refine gate_dst (N := 2) rfl ?_);refine box_event ?hg (N := 2) ?hd (cs := #[.int .u64 0,.int .u64 0]) (t := 54) ?hr ?_;(case hd => rfl);(case hg => rfl);(case hr => first | (go_simp;done) | (go_simp;rfl));intro gb116 hg w4 hbox hb;have n0_ := am_ (blk_below (g := gb115) (z1_ BK115.out) hb);have n1_ := am_ (below_step (z3_ HB.out) hb);have n2_ := am_ (hbox);have n3_ := am_ ((by rw [hg];exact (below_size (z3_ HB.out)) : w.heap.size ≤ gb116));have n4_ := am_ ((by rw [hg];exact (below_size (z3_ HB.out)) : w.heap.size ≤ gb116));have n5_ := am_ ((by rw [hg];exact Nat.ne_of_lt (blk_lt (g := gb115) (o := .cells #[.int .u64 a0_0,.int .u64 a0_1] 54 (0, 0)) (z1_ BK115.out)) : gb115 ≠ gb116));have n6_ := am_ ((by rw [hg];exact Nat.ne_of_gt (blk_lt (g := gb115) (o := .cells #[.int .u64 a0_0,.int .u64 a0_1] 54 (0, 0)) (z1_ BK115.out)) : gb116 ≠ gb115));clear BK115;clear HB;have BK115 := n0_;have HB := n1_;have BK116 := n2_;have GW116 := n3_;have GE116 := n4_;have NB115_116 := n5_;have NB116_115 := n6_;clear n0_ n1_ n2_ n3_ n4_ n5_ n6_;clear hb hbox hg;have hnb5 := NB115_116.out;have hnc5 := NB116_115.out;obtain ⟨hcz6_0, hcz6_1, hfz6_0⟩ := zc2_ BK115.out;obtain ⟨hcz7_0, hcz7_1, hfz7_0⟩ := zc2_ BK116.out))
  refine bodyPost_ret (results_ct rfl _ _ gb116 54 #[.int .u64 a0_0,.int .u64 a0_1] (0, 0) _ rfl (by refine z2_ ?_;refine blk_put (cs := #[.int .u64 a0_0,.int .u64 0]) ?_ 1 _ rfl;refine z2_ ?_;refine blk_put (cs := #[.int .u64 0,.int .u64 0]) ?_ 0 _ rfl;refine z2_ ?_;exact BK116.out) Try.underlying54 rfl (by kernel_rfl)) rfl ?_
  exact ⟨z6_, z3_ HB.out⟩
 ·rw [if_neg c2] at H
  have c2b0 : (a0_0 == 0 && (a0_1 == 0)) = false := by simpa using c2
  (try (have c2b1 : decide (a0_0 = 0 && (a0_1 == 0)) = false := by simpa using c2))
  (try (have c2b2 : (a0_0 == 0 && (a0_1 == 0)) = false := by simpa using c2))
  (try (have c2b3 : ¬ (a0_0 = 0 && (a0_1 == 0)) := by simpa using c2))
  clear c2
  replace H := Option.bind_eq_some_iff.mp H
  obtain ⟨t117, A80, H⟩ := H
  replace H : ((twin_shl.f a0_0 a0_1 (wrap64 (128 - t117))).bind fun bt118 => (some (bt118.1, bt118.2, wrap64 (128 - t117)))) = some (r1, r2, r3) := H
  have A8 := am_ A80
  clear A80
  replace H := Option.bind_eq_some_iff.mp H
  obtain ⟨⟨t118, t119⟩, A90, H⟩ := H
  replace H : (some (t118, t119, wrap64 (128 - t117))) = some (r1, r2, r3) := H
  have A9 := am_ A90
  clear A90
  simp only [Option.some.injEq, Prod.mk.injEq] at H
  obtain ⟨rfl, rfl, rfl⟩ := H
  go_enter Try.func38, Try.ntmps38
  go_wp2_with (first | ((with_reducible refine gate_dst (N := 1) rfl ?_);refine box_event ?hg (N := 1) ?hd (cs := #[.int .u64 a0_0,.int .u64 a0_1]) (t := 54) ?hr ?_;(case hd => rfl);(case hg => rfl);(case hr => first | (go_simp;done) | (go_simp;rfl));intro gb115 hg w10 hbox hb;have n0_ := am_ (below_step (z3_ HB.out) hb);have n1_ := am_ (hbox);have n2_ := am_ ((by rw [hg];exact (below_size (z3_ HB.out)) : w.heap.size ≤ gb115));have n3_ := am_ ((by rw [hg];exact (below_size (z3_ HB.out)) : w.heap.size ≤ gb115));clear HB;have HB := n0_;have BK115 := n1_;have GW115 := n2_;have GE115 := n3_;clear n0_ n1_ n2_ n3_;clear hb hbox hg) | ((with_reducible refine gate_dst (N := 2) rfl ?_);refine box_event ?hg (N := 2) ?hd (cs := #[.int .u64 0,.int .u64 0]) (t := 54) ?hr ?_;(case hd => rfl);(case hg => rfl);(case hr => first | (go_simp;done) | (go_simp;rfl));intro gb116 hg w11 hbox hb;have n0_ := am_ (blk_below (g := gb115) (z1_ BK115.out) hb);have n1_ := am_ (below_step (z3_ HB.out) hb);have n2_ := am_ (hbox);have n3_ := am_ ((by rw [hg];exact (below_size (z3_ HB.out)) : w.heap.size ≤ gb116));have n4_ := am_ ((by rw [hg];exact (below_size (z3_ HB.out)) : w.heap.size ≤ gb116));have n5_ := am_ ((by rw [hg];exact Nat.ne_of_lt (blk_lt (g := gb115) (o := .cells #[.int .u64 a0_0,.int .u64 a0_1] 54 (0, 0)) (z1_ BK115.out)) : gb115 ≠ gb116));have n6_ := am_ ((by rw [hg];exact Nat.ne_of_gt (blk_lt (g := gb115) (o := .cells #[.int .u64 a0_0,.int .u64 a0_1] 54 (0, 0)) (z1_ BK115.out)) : gb116 ≠ gb115));clear BK115;clear HB;have BK115 := n0_;have HB := n1_;have BK116 := n2_;have GW116 := n3_;have GE116 := n4_;have NB115_116 := n5_;have NB116_115 := n6_;clear n0_ n1_ n2_ n3_ n4_ n5_ n6_;clear hb hbox hg;have hnb12 := NB115_116.out;have hnc12 := NB116_115.out;obtain ⟨hcz13_0, hcz13_1, hfz13_0⟩ := zc2_ BK115.out) | ((with_reducible refine gate_callee (f := 59) rfl ?_);refine goesL_ (some 10) rfl rfl Try.func59 (by kernel_rfl) rfl #[.agg #[.int .u64 a0_0,.int .u64 a0_1]] rfl z5_ ?_;(with_reducible refine (twin_Len.calls a0_0 a0_1 t117 _ A8.out).mono ?_);rintro e w14 ⟨rfl, hb⟩;refine ⟨_, rfl, ?_⟩;have n0_ := am_ (blk_below (g := gb115) (z1_ BK115.out) hb);have n1_ := am_ (blk_below (g := gb116) (z1_ BK116.out) hb);have n2_ := am_ (below_step (z3_ HB.out) hb);clear BK115;clear BK116;clear HB;have BK115 := n0_;have BK116 := n1_;have HB := n2_;clear n0_ n1_ n2_;(try clear hb);obtain ⟨hcz15_0, hcz15_1, hfz15_0⟩ := zc2_ BK115.out) | ((with_reducible refine gate_callee (f := 60) rfl ?_);refine goesL_ (some 14) rfl rfl Try.func60 (by kernel_rfl) rfl #[.agg #[.int .u64 a0_0,.int .u64 a0_1],.int .i64 (wrap64 (128 - t117))] rfl z5_ ?_;(with_reducible refine (twin_shl.calls a0_0 a0_1 (wrap64 (128 - t117)) t118 t119 _ A9.out).mono ?_);rintro e w16 ⟨rfl, hb⟩;refine ⟨_, rfl, ?_⟩;have n0_ := am_ (blk_below (g := gb115) (z1_ BK115.out) hb);have n1_ := am_ (blk_below (g := gb116) (z1_ BK116.out) hb);have n2_ := am_ (below_step (z3_ HB.out) hb);clear BK115;clear BK116;clear HB;have BK115 := n0_;have BK116 := n1_;have HB := n2_;clear n0_ n1_ n2_;(try clear hb);obtain ⟨hcz17_0, hcz17_1, hfz17_0⟩ := zc2_ BK116.out))
  refine bodyPost_ret (results_ct rfl _ _ gb116 54 #[.int .u64 t118,.int .u64 t119] (0, 0) _ rfl (by refine z2_ ?_;refine blk_put (cs := #[.int .u64 t118,.int .u64 0]) ?_ 1 _ rfl;refine z2_ ?_;refine blk_put (cs := #[.int .u64 0,.int .u64 0]) ?_ 0 _ rfl;refine z2_ ?_;exact BK116.out) Try.underlying54 rfl (by kernel_rfl)) rfl ?_
  exact ⟨z6_, z3_ HB.out⟩
end Go.Proofs.Ytebhpipfkomhjaa.PAll
namespace Go.Proofs.Ytebhpipfkomhjaa.PAll
open Go.RowKit Go.Proofs.YtebhpipfkomhjaaW.PrintWords Go.Proofs.YtebhpipfkomhjaaW.PrintLast Go.Proofs.YtebhpipfkomhjaaW.PrintMore
attribute [local go_sem] max2_int min2_int max_two min_two max_three min_three max_four min_four
set_option linter.unusedVariables false
set_option linter.unusedSimpArgs false
attribute [local go_sem high] eqA54
def round_Make.j0 : Nat → Bool → Int → Int → Int → Bool → Bool → Option (Int × Bool × Int × Int × Int × Bool × Option Int)
 | 0, _, _, _, _, _, _ => none
 | k + 1, x0, x1, x2, x3, x4, x19 => if x19 = true then (some (0, false,0, 0, 0, false,some 1)) else ((twin_Norm.f x1 x2).bind fun bt121 => (if (bt121.1 == 0 && (bt121.2.1 == 0)) = true then (some (0, false,0, 0, 0, false,none)) else ((round_held.f (wrap64 ((wrap64 ((mx (-4398046511104) (mn x3 4398046511104)) + 127)) - bt121.2.2))).bind fun t125 => (some (1, x0, t125, bt121.1, bt121.2.1, x4, none)))))
def round_Make.f (k : Nat) (a0 : Bool) (a1 : Int) (a2 : Int) (a3 : Int) (a4 : Bool) : Option (Int × Bool × Int × Int × Int × Bool × Option Int) := if a4 = true then (round_Make.j0 k a0 a1 a2 a3 a4 ((a1 / 9223372036854775808) == 0)) else (round_Make.j0 k a0 a1 a2 a3 a4 false)
theorem round_Make.mono_l : ∀ k, (∀ y0 y1 y2 y3 y4 y5, LeO (round_Make.j0 k y0 y1 y2 y3 y4 y5) (round_Make.j0 (k + 1) y0 y1 y2 y3 y4 y5))
 | 0 => fun _ _ _ _ _ _ r h => by simp [round_Make.j0] at h
 | k + 1 => by
  have ih0 := round_Make.mono_l k
  ·intro y0 y1 y2 y3 y4 y5
   unfold round_Make.j0
   repeat' first
   | (with_reducible exact ih0 _ _ _ _ _ _)
   | (with_reducible exact LeO.refl _)
   | (with_reducible exact LeO.none _)
   | (with_reducible refine LeO.ite ?_ ?_)
   | (with_reducible refine LeO.bind ?_ (fun _ => ?_))
   | exact ih0 _ _ _ _ _ _
   | exact LeO.none _
   | refine LeO.ite ?_ ?_
   | refine LeO.bind ?_ (fun _ => ?_)
theorem round_Make.mono : ∀ a0 a1 a2 a3 a4 k, LeO (round_Make.f k a0 a1 a2 a3 a4) (round_Make.f (k + 1) a0 a1 a2 a3 a4) := by
 intro a0 a1 a2 a3 a4 k
 have ih0 := round_Make.mono_l k
 unfold round_Make.f
 repeat' first
   | (with_reducible exact ih0 _ _ _ _ _ _)
   | (with_reducible exact LeO.refl _)
   | (with_reducible exact LeO.none _)
   | (with_reducible refine LeO.ite ?_ ?_)
   | (with_reducible refine LeO.bind ?_ (fun _ => ?_))
   | exact ih0 _ _ _ _ _ _
   | exact LeO.none _
   | refine LeO.ite ?_ ?_
   | refine LeO.bind ?_ (fun _ => ?_)
def round_Make.T7 : Bool × List (List Nat × List Nat) := (true,[([], []), ([], []), ([1], [1]), ([], []), ([2, 3], [2, 3]), ([4], [4]), ([], []), ([6], [6]), ([], []), ([8], [8]), ([], []), ([0, 5, 7, 9, 10], [0, 5, 7, 9, 10]), ([11, 5, 0, 1, 2, 3, 4, 5, 6, 7, 8, 9, 10, 11], [11]), ([12, 0, 1, 2, 3, 4, 5, 6, 7, 8, 9, 10, 11, 12], [])])
def round_Make.B7 : List Nat := [0, 0, 2, 0, 14, 30, 0, 64, 0, 256, 0, 2047, 4095, 8191]
theorem round_Make.tab7 : rtab .any (opsOf Try.f23 7) = round_Make.T7 := by kernel_rfl
theorem round_Make.bits7 : waitsOk round_Make.T7.2 round_Make.B7 = true := by kernel_rfl
set_option maxHeartbeats 8000000 in
set_option maxRecDepth 100000 in
theorem round_Make.calls (k : Nat) (a0 : Bool) (a1 : Int) (a2 : Int) (a3 : Int) (a4 : Bool) (r1 : Int) (r2 : Bool) (r3 : Int) (r4 : Int) (r5 : Int) (r6 : Bool) (r7 : Option Int) (w : World) (h : round_Make.f k a0 a1 a2 a3 a4 = some (r1, r2, r3, r4, r5, r6, r7)) :
  Calls Try.prog 23 #[.bool a0,.int .u64 a1,.int .u64 a2,.int .i64 a3,.bool a4] w fun e w' => e = .returned (.tuple #[.agg #[.int .i64 r1,.bool r2,.int .i64 r3,.int .u64 r4,.int .u64 r5,.bool r6], errW r7]) ∧ Below w.heap.size w w' := by
 have hu27 := Try.underlying27
 have hu54 := Try.underlying54
 have hu29 := Try.underlying29
 have hu42 := Try.underlying42
 have HB := am_ (Below.refl w.heap.size w)
 have H : (if a4 = true then (round_Make.j0 k a0 a1 a2 a3 a4 ((a1 / 9223372036854775808) == 0)) else (round_Make.j0 k a0 a1 a2 a3 a4 false)) = some (r1, r2, r3, r4, r5, r6, r7) := h
 clear h
 have HC6 := am_ H
 clear H
 go_enter Try.func23, Try.ntmps23
 go_upto_region 1 with (first | ((with_reducible refine gate_dst (N := 10) rfl ?_);refine box_event ?hg (N := 10) ?hd (cs := #[.int .i64 0,.bool false,.int .i64 0,.int .u64 0,.int .u64 0,.bool false]) (t := 27) ?hr ?_;(case hd => rfl);(case hg => rfl);(case hr => first | (go_simp;done) | (go_simp;rfl));intro gb120 hg w7 hbox hb;have n0_ := am_ (below_step (z3_ HB.out) hb);have n1_ := am_ (hbox);have n2_ := am_ ((by rw [hg];exact (below_size (z3_ HB.out)) : w.heap.size ≤ gb120));have n3_ := am_ ((by rw [hg];exact (below_size (z3_ HB.out)) : w.heap.size ≤ gb120));clear HB;have HB := n0_;have BK120 := n1_;have GW120 := n2_;have GE120 := n3_;clear n0_ n1_ n2_ n3_;clear hb hbox hg))
 (try simp only [Act.put, List.setIfInBounds_toArray, List.set_cons_zero, List.set_cons_succ])
 go_cut [19] (fun v19 wc => ∃ (kq : Nat) (x19_5 : Bool), v19 = .bool x19_5 ∧ Aside0 (round_Make.j0 kq a0 a1 a2 a3 a4 x19_5 = some (r1, r2, r3, r4, r5, r6, r7)) ∧ Aside0 (kq ≤ k) ∧ Aside0 (wc.heap[gb120]? = some (.cells #[.int .i64 0,.bool false,.int .i64 0,.int .u64 0,.int .u64 0,.bool false] 27 (0, 0))) ∧ Aside0 (Below w.heap.size w wc))
 case first =>
  have H := HC6.out
  clear HC6
  by_cases c8 : a4 = true
  ·subst c8
   have H1 : (round_Make.j0 k a0 a1 a2 a3 true ((a1 / 9223372036854775808) == 0)) = some (r1, r2, r3, r4, r5, r6, r7) := by rw [if_pos rfl] at H;exact H
   clear H
   have H := H1
   clear H1
   have H' := am_ H
   clear H
   go_wp2
   go_meet
   case rel => exact ⟨_, (((a1 / 9223372036854775808) == 0)), (by first | rfl | (simp;done) | (simp [*];done)), H', ⟨by first | omega | exact Nat.le_refl _⟩, ⟨by refine z2_ ?_;exact BK120.out⟩, ⟨z3_ HB.out⟩⟩
  ·replace c8 := Bool.eq_false_iff.mpr c8
   subst c8
   have H1 : (round_Make.j0 k a0 a1 a2 a3 false false) = some (r1, r2, r3, r4, r5, r6, r7) := by rw [if_neg (show ¬ (false = true) by decide)] at H;exact H
   clear H
   have H := H1
   clear H1
   have H' := am_ H
   clear H
   go_wp2
   go_meet
   case rel => exact ⟨_, (false), (by first | rfl | (simp;done) | (simp [*];done)), H', ⟨by first | omega | exact Nat.le_refl _⟩, ⟨by refine z2_ ?_;exact BK120.out⟩, ⟨z3_ HB.out⟩⟩
 case rest =>
  clear HC6
  obtain ⟨kq, x19_5, rfl, HA, HJ5, BK120, HB⟩ := hcut
  cases kq with
  | zero => exact absurd HA.out (by simp [round_Make.j0])
  | succ kj5 =>
   have H := HA.out
   clear HA
   simp only [round_Make.j0] at H
   by_cases c9 : x19_5 = true
   ·subst c9
    have H1 : (some (0, false,0, 0, 0, false,some 1)) = some (r1, r2, r3, r4, r5, r6, r7) := by rw [if_pos rfl] at H;exact H
    clear H
    have H := H1
    clear H1
    simp only [Option.some.injEq, Prod.mk.injEq] at H
    obtain ⟨rfl, rfl, rfl, rfl, rfl, rfl, rfl⟩ := H
    obtain ⟨hcz10_0, hcz10_1, hcz10_2, hcz10_3, hcz10_4, hcz10_5, hfz10_0⟩ := zc6_ BK120.out
    go_wp2
    refine bodyPost_ret (results_ct rfl _ _ gb120 27 #[.int .i64 0,.bool false,.int .i64 0,.int .u64 0,.int .u64 0,.bool false] (0, 0) _ rfl (by refine z2_ ?_;refine blk_put (cs := #[.int .i64 0,.bool false,.int .i64 0,.int .u64 0,.int .u64 0,.bool false]) ?_ 5 _ rfl;refine z2_ ?_;refine blk_put (cs := #[.int .i64 0,.bool false,.int .i64 0,.int .u64 0,.int .u64 0,.bool false]) ?_ 4 _ rfl;refine z2_ ?_;refine blk_put (cs := #[.int .i64 0,.bool false,.int .i64 0,.int .u64 0,.int .u64 0,.bool false]) ?_ 3 _ rfl;refine z2_ ?_;refine blk_put (cs := #[.int .i64 0,.bool false,.int .i64 0,.int .u64 0,.int .u64 0,.bool false]) ?_ 2 _ rfl;refine z2_ ?_;refine blk_put (cs := #[.int .i64 0,.bool false,.int .i64 0,.int .u64 0,.int .u64 0,.bool false]) ?_ 1 _ rfl;refine z2_ ?_;refine blk_put (cs := #[.int .i64 0,.bool false,.int .i64 0,.int .u64 0,.int .u64 0,.bool false]) ?_ 0 _ rfl;refine z2_ ?_;exact BK120.out) Try.underlying27 rfl (by kernel_rfl)) rfl ?_
    exact ⟨z6_, z3_ HB.out⟩
   ·replace c9 := Bool.eq_false_iff.mpr c9
    subst c9
    have H1 : ((twin_Norm.f a1 a2).bind fun bt121 => (if (bt121.1 == 0 && (bt121.2.1 == 0)) = true then (some (0, false,0, 0, 0, false,none)) else ((round_held.f (wrap64 ((wrap64 ((mx (-4398046511104) (mn a3 4398046511104)) + 127)) - bt121.2.2))).bind fun t125 => (some (1, a0, t125, bt121.1, bt121.2.1, a4, none))))) = some (r1, r2, r3, r4, r5, r6, r7) := by rw [if_neg (show ¬ (false = true) by decide)] at H;exact H
    clear H
    have H := H1
    clear H1
    replace H := Option.bind_eq_some_iff.mp H
    obtain ⟨⟨t121, t122, t123⟩, A110, H⟩ := H
    replace H : (if (t121 == 0 && (t122 == 0)) = true then (some (0, false,0, 0, 0, false,none)) else ((round_held.f (wrap64 ((wrap64 ((mx (-4398046511104) (mn a3 4398046511104)) + 127)) - t123))).bind fun t125 => (some (1, a0, t125, t121, t122, a4, none)))) = some (r1, r2, r3, r4, r5, r6, r7) := H
    have A11 := am_ A110
    clear A110
    by_cases c12 : (t121 == 0 && (t122 == 0)) = true
    ·rw [if_pos c12] at H
     have c12b0 : (t121 == 0 && (t122 == 0)) = true := c12
     (try (have c12b1 : decide (t121 = 0 && (t122 == 0)) = true := by simpa using c12))
     (try (have c12b2 : (t121 == 0 && (t122 == 0)) = true := by simpa using c12))
     clear c12
     simp only [Option.some.injEq, Prod.mk.injEq] at H
     obtain ⟨rfl, rfl, rfl, rfl, rfl, rfl, rfl⟩ := H
     go_wp2_with (first | ((with_reducible refine gate_callee (f := 38) rfl ?_);refine goesL_ (some 26) rfl rfl Try.func38 (by kernel_rfl) rfl #[.agg #[.int .u64 a1,.int .u64 a2]] rfl z5_ ?_;(with_reducible refine (twin_Norm.calls a1 a2 t121 t122 t123 _ A11.out).mono ?_);rintro e w13 ⟨rfl, hb⟩;refine ⟨_, rfl, ?_⟩;have n0_ := am_ (blk_below (g := gb120) (z1_ BK120.out) hb);have n1_ := am_ (below_step (z3_ HB.out) hb);clear BK120;clear HB;have BK120 := n0_;have HB := n1_;clear n0_ n1_;(try clear hb)) | ((with_reducible refine gate_dst (N := 12) rfl ?_);refine box_event ?hg (N := 12) ?hd (cs := #[.int .u64 0,.int .u64 0]) (t := 54) ?hr ?_;(case hd => rfl);(case hg => rfl);(case hr => first | (go_simp;done) | (go_simp;rfl));intro gb124 hg w14 hbox hb;have n0_ := am_ (blk_below (g := gb120) (z1_ BK120.out) hb);have n1_ := am_ (below_step (z3_ HB.out) hb);have n2_ := am_ (hbox);have n3_ := am_ ((by rw [hg];exact (below_size (z3_ HB.out)) : w.heap.size ≤ gb124));have n4_ := am_ ((by rw [hg];exact (below_size (z3_ HB.out)) : w.heap.size ≤ gb124));have n5_ := am_ ((by rw [hg];exact Nat.ne_of_lt (blk_lt (g := gb120) (o := .cells #[.int .i64 0,.bool false,.int .i64 0,.int .u64 0,.int .u64 0,.bool false] 27 (0, 0)) (z1_ BK120.out)) : gb120 ≠ gb124));have n6_ := am_ ((by rw [hg];exact Nat.ne_of_gt (blk_lt (g := gb120) (o := .cells #[.int .i64 0,.bool false,.int .i64 0,.int .u64 0,.int .u64 0,.bool false] 27 (0, 0)) (z1_ BK120.out)) : gb124 ≠ gb120));clear BK120;clear HB;have BK120 := n0_;have HB := n1_;have BK124 := n2_;have GW124 := n3_;have GE124 := n4_;have NB120_124 := n5_;have NB124_120 := n6_;clear n0_ n1_ n2_ n3_ n4_ n5_ n6_;clear hb hbox hg;have hnb15 := NB124_120.out;have hnc15 := NB120_124.out;obtain ⟨hcz16_0, hcz16_1, hfz16_0⟩ := zc2_ BK124.out;obtain ⟨hcz17_0, hcz17_1, hcz17_2, hcz17_3, hcz17_4, hcz17_5, hfz17_0⟩ := zc6_ BK120.out))
     refine bodyPost_ret (results_ct rfl _ _ gb120 27 #[.int .i64 0,.bool false,.int .i64 0,.int .u64 0,.int .u64 0,.bool false] (0, 0) _ rfl (by refine z2_ ?_;refine blk_put (cs := #[.int .i64 0,.bool false,.int .i64 0,.int .u64 0,.int .u64 0,.bool false]) ?_ 5 _ rfl;refine z2_ ?_;refine blk_put (cs := #[.int .i64 0,.bool false,.int .i64 0,.int .u64 0,.int .u64 0,.bool false]) ?_ 4 _ rfl;refine z2_ ?_;refine blk_put (cs := #[.int .i64 0,.bool false,.int .i64 0,.int .u64 0,.int .u64 0,.bool false]) ?_ 3 _ rfl;refine z2_ ?_;refine blk_put (cs := #[.int .i64 0,.bool false,.int .i64 0,.int .u64 0,.int .u64 0,.bool false]) ?_ 2 _ rfl;refine z2_ ?_;refine blk_put (cs := #[.int .i64 0,.bool false,.int .i64 0,.int .u64 0,.int .u64 0,.bool false]) ?_ 1 _ rfl;refine z2_ ?_;refine blk_put (cs := #[.int .i64 0,.bool false,.int .i64 0,.int .u64 0,.int .u64 0,.bool false]) ?_ 0 _ rfl;refine z2_ ?_;refine blk_far ?_ NB120_124.out _;refine z2_ ?_;refine blk_far ?_ NB120_124.out _;refine z2_ ?_;exact BK120.out) Try.underlying27 rfl (by kernel_rfl)) rfl ?_
     exact ⟨z6_, z3_ HB.out⟩
    ·rw [if_neg c12] at H
     have c12b0 : (t121 == 0 && (t122 == 0)) = false := by simpa using c12
     (try (have c12b1 : decide (t121 = 0 && (t122 == 0)) = false := by simpa using c12))
     (try (have c12b2 : (t121 == 0 && (t122 == 0)) = false := by simpa using c12))
     (try (have c12b3 : ¬ (t121 = 0 && (t122 == 0)) := by simpa using c12))
     clear c12
     obtain ⟨ji18, hji18⟩ : ∃ j_ : Int, (mn a3 4398046511104) = j_ := ⟨_, rfl⟩
     replace H : ((round_held.f (wrap64 ((wrap64 ((mx (-4398046511104) (ji18)) + 127)) - t123))).bind fun t125 => (some (1, a0, t125, t121, t122, a4, none))) = some (r1, r2, r3, r4, r5, r6, r7) := by first | (rw [hji18] at H;exact H) | (simp only [hji18] at H ⊢;exact H)
     (try rw [hji18] at A11)
     (try (have hji18h : ji18 ≤ 4398046511104 := by (rw [← hji18];unfold mn;(repeat' split) <;> omega)))
     (try (have hji18g : ji18 ≤ 64 := by omega))
     have hji18_ : (if 4398046511104 < a3 then 4398046511104 else a3) = ji18 := hji18
     obtain ⟨ji19, hji19⟩ : ∃ j_ : Int, (mx (-4398046511104) (ji18)) = j_ := ⟨_, rfl⟩
     replace H : ((round_held.f (wrap64 ((wrap64 ((ji19) + 127)) - t123))).bind fun t125 => (some (1, a0, t125, t121, t122, a4, none))) = some (r1, r2, r3, r4, r5, r6, r7) := by first | (rw [hji19] at H;exact H) | (simp only [hji19] at H ⊢;exact H)
     (try rw [hji19] at A11)
     (try (have hji19h : ji19 ≤ 4398046511104 := by (rw [← hji19];unfold mx;(repeat' split) <;> omega)))
     (try (have hji19g : ji19 ≤ 64 := by omega))
     (try (have hji19l : (-4398046511104) ≤ ji19 := by (rw [← hji19];unfold mx;(repeat' split) <;> omega)))
     have hji19_ : (if (-4398046511104) < (ji18) then (ji18) else (-4398046511104)) = ji19 := hji19
     replace H := Option.bind_eq_some_iff.mp H
     obtain ⟨t125, A200, H⟩ := H
     replace H : (some (1, a0, t125, t121, t122, a4, none)) = some (r1, r2, r3, r4, r5, r6, r7) := H
     have A20 := am_ A200
     clear A200
     simp only [Option.some.injEq, Prod.mk.injEq] at H
     obtain ⟨rfl, rfl, rfl, rfl, rfl, rfl, rfl⟩ := H
     try go_wp2_with (first | ((with_reducible refine gate_callee (f := 38) rfl ?_);refine goesL_ (some 26) rfl rfl Try.func38 (by kernel_rfl) rfl #[.agg #[.int .u64 a1,.int .u64 a2]] rfl z5_ ?_;(with_reducible refine (twin_Norm.calls a1 a2 t121 t122 t123 _ A11.out).mono ?_);rintro e w21 ⟨rfl, hb⟩;refine ⟨_, rfl, ?_⟩;have n0_ := am_ (blk_below (g := gb120) (z1_ BK120.out) hb);have n1_ := am_ (below_step (z3_ HB.out) hb);clear BK120;clear HB;have BK120 := n0_;have HB := n1_;clear n0_ n1_;(try clear hb)) | ((with_reducible refine gate_dst (N := 12) rfl ?_);refine box_event ?hg (N := 12) ?hd (cs := #[.int .u64 0,.int .u64 0]) (t := 54) ?hr ?_;(case hd => rfl);(case hg => rfl);(case hr => first | (go_simp;done) | (go_simp;rfl));intro gb124 hg w22 hbox hb;have n0_ := am_ (blk_below (g := gb120) (z1_ BK120.out) hb);have n1_ := am_ (below_step (z3_ HB.out) hb);have n2_ := am_ (hbox);have n3_ := am_ ((by rw [hg];exact (below_size (z3_ HB.out)) : w.heap.size ≤ gb124));have n4_ := am_ ((by rw [hg];exact (below_size (z3_ HB.out)) : w.heap.size ≤ gb124));have n5_ := am_ ((by rw [hg];exact Nat.ne_of_lt (blk_lt (g := gb120) (o := .cells #[.int .i64 0,.bool false,.int .i64 0,.int .u64 0,.int .u64 0,.bool false] 27 (0, 0)) (z1_ BK120.out)) : gb120 ≠ gb124));have n6_ := am_ ((by rw [hg];exact Nat.ne_of_gt (blk_lt (g := gb120) (o := .cells #[.int .i64 0,.bool false,.int .i64 0,.int .u64 0,.int .u64 0,.bool false] 27 (0, 0)) (z1_ BK120.out)) : gb124 ≠ gb120));clear BK120;clear HB;have BK120 := n0_;have HB := n1_;have BK124 := n2_;have GW124 := n3_;have GE124 := n4_;have NB120_124 := n5_;have NB124_120 := n6_;clear n0_ n1_ n2_ n3_ n4_ n5_ n6_;clear hb hbox hg;have hnb23 := NB124_120.out;have hnc23 := NB120_124.out;obtain ⟨hcz24_0, hcz24_1, hfz24_0⟩ := zc2_ BK124.out))
     have n0_ : Aside0 (((w22.setCell ⟨gb124, 0, none⟩ (.int .u64 t121)).setCell ⟨gb124, 1, none⟩ (.int .u64 t122)).heap[gb120]? = some (.cells #[.int .i64 0,.bool false,.int .i64 0,.int .u64 0,.int .u64 0,.bool false] 27 (0, 0))) := ⟨by refine z2_ ?_;refine blk_far ?_ NB120_124.out _;refine z2_ ?_;refine blk_far ?_ NB120_124.out _;refine z2_ ?_;exact BK120.out⟩
     have n1_ : Aside0 (((w22.setCell ⟨gb124, 0, none⟩ (.int .u64 t121)).setCell ⟨gb124, 1, none⟩ (.int .u64 t122)).heap[gb124]? = some (.cells #[.int .u64 t121,.int .u64 t122] 54 (0, 0))) := ⟨by refine z2_ ?_;refine blk_put (cs := #[.int .u64 t121,.int .u64 0]) ?_ 1 _ rfl;refine z2_ ?_;refine blk_put (cs := #[.int .u64 0,.int .u64 0]) ?_ 0 _ rfl;refine z2_ ?_;exact BK124.out⟩
     have n2_ : Aside0 (Below w.heap.size w ((w22.setCell ⟨gb124, 0, none⟩ (.int .u64 t121)).setCell ⟨gb124, 1, none⟩ (.int .u64 t122))) := ⟨z3_ HB.out⟩
     (try clear BK120)
     (try clear BK124)
     (try clear HB)
     generalize ((w22.setCell ⟨gb124, 0, none⟩ (.int .u64 t121)).setCell ⟨gb124, 1, none⟩ (.int .u64 t122)) = w25 at n0_ n1_ n2_ ⊢
     have BK120 := n0_
     have BK124 := n1_
     have HB := n2_
     clear n0_ n1_ n2_
     have n0_ := am_ (blk_drew BK120.out)
     have n1_ := am_ (blk_drew BK124.out)
     have n2_ := am_ (below_drew1 HB.out)
     clear BK120
     clear BK124
     clear HB
     have BK120 := n0_
     have BK124 := n1_
     have HB := n2_
     clear n0_ n1_ n2_
     refine start_ (n := 14) (S := fun w' => w'.cell? ⟨gb124, 0, none⟩ = some (.int .u64 t121) ∧ w'.cell? ⟨gb124, 1, none⟩ = some (.int .u64 t122)) (ds := []) #[false,false,false,false,false,false,false,false,false,false,false,false,false,false] (by kernel_rfl) rfl rfl ⟨(blk_cell BK124.out 0).trans rfl, (blk_cell BK124.out 1).trans rfl⟩ (fun hHeld => ?_);refine with_tabW round_Make.tab7 round_Make.bits7 (fun HT_ HW_ => ?_)
     generalize w25.drew = w26 at BK120 BK124 HB hHeld ⊢
     refine pure_ (i := 0) (N := some 36) (v := ?_) (a' := ?_) #[true,false,false,false,false,false,false,false,false,false,false,false,false,false] rfl rfl (any_of HT_.out (by kernel_rfl)) (fun _ _ _ h => h) (Or.inl ⟨by rfl, ?_⟩) ?_ ?_
     rotate_left
     ·intro w'
      go_simp
      with_reducible rfl
     rotate_left
     ·simp only [Act.put, List.setIfInBounds_toArray, List.set_cons_zero, List.set_cons_succ, i64_w, i32_w]
      rfl
     refine pure_ (i := 1) (N := some 37) (v := ?_) (a' := ?_) #[true,true,false,false,false,false,false,false,false,false,false,false,false,false] rfl rfl (any_of HT_.out (by kernel_rfl)) (fun _ _ _ h => h) (Or.inl ⟨by rfl, ?_⟩) ?_ ?_
     rotate_left
     ·intro w'
      go_simp
      with_reducible rfl
     rotate_left
     ·simp only [Act.put, List.setIfInBounds_toArray, List.set_cons_zero, List.set_cons_succ, i64_w, i32_w]
      rfl
     refine pure_ (i := 2) (N := some 38) (v := ?_) (a' := ?_) #[true,true,true,false,false,false,false,false,false,false,false,false,false,false] rfl rfl (any_of HT_.out (by kernel_rfl)) (fun _ _ _ h => h) (Or.inl ⟨by rfl, ?_⟩) ?_ ?_
     rotate_left
     ·intro w'
      go_simp
      with_reducible rfl
     rotate_left
     ·simp only [Act.put, List.setIfInBounds_toArray, List.set_cons_zero, List.set_cons_succ, i64_w, i32_w]
      rfl
     refine pure_ (i := 3) (N := some 39) (v := ?_) (a' := ?_) #[true,true,true,true,false,false,false,false,false,false,false,false,false,false] rfl rfl (any_of HT_.out (by kernel_rfl)) (fun _ _ _ h => h) (Or.inl ⟨by rfl, ?_⟩) ?_ ?_
     rotate_left
     ·intro w'
      go_simp
      with_reducible rfl
     rotate_left
     ·simp only [Act.put, List.setIfInBounds_toArray, List.set_cons_zero, List.set_cons_succ, i64_w, i32_w]
      rfl
     refine pure_ (i := 4) (N := some 40) (v := ?_) (a' := ?_) #[true,true,true,true,true,false,false,false,false,false,false,false,false,false] rfl rfl (any_of HT_.out (by kernel_rfl)) (fun _ _ _ h => h) (Or.inl ⟨by rfl, ?_⟩) ?_ ?_
     rotate_left
     ·intro w'
      go_simp
      with_reducible rfl
     rotate_left
     ·simp only [Act.put, List.setIfInBounds_toArray, List.set_cons_zero, List.set_cons_succ, i64_w, i32_w]
      rfl
     refine pure_ (i := 6) (N := some 42) (v := ?_) (a' := ?_) #[true,true,true,true,true,false,true,false,false,false,false,false,false,false] rfl rfl (any_of HT_.out (by kernel_rfl)) (fun _ _ _ h => h) (Or.inl ⟨by rfl, ?_⟩) ?_ ?_
     rotate_left
     ·intro w'
      go_simp
      with_reducible rfl
     rotate_left
     ·simp only [Act.put, List.setIfInBounds_toArray, List.set_cons_zero, List.set_cons_succ, i64_w, i32_w]
      rfl
     refine pure_ (i := 8) (N := some 44) (v := ?_) (a' := ?_) #[true,true,true,true,true,false,true,false,true,false,false,false,false,false] rfl rfl (any_of HT_.out (by kernel_rfl)) (fun _ _ _ h => h) (Or.inl ⟨by rfl, ?_⟩) ?_ ?_
     rotate_left
     ·intro w'
      go_simp
      with_reducible rfl
     rotate_left
     ·simp only [Act.put, List.setIfInBounds_toArray, List.set_cons_zero, List.set_cons_succ, i64_w, i32_w]
      rfl
     refine pure_ (i := 10) (N := some 46) (v := ?_) (a' := ?_) #[true,true,true,true,true,false,true,false,true,false,true,false,false,false] rfl rfl (any_of HT_.out (by kernel_rfl)) (fun _ _ _ h => h) (Or.inl ⟨by rfl, ?_⟩) ?_ ?_
     rotate_left
     ·intro w'
      go_simp
      with_reducible rfl
     rotate_left
     ·simp only [Act.put, List.setIfInBounds_toArray, List.set_cons_zero, List.set_cons_succ, i64_w, i32_w]
      rfl
     refine take_ (i := 7) (N := some 43) (v := ?_) (a' := ?_) #[true,true,true,true,true,false,true,true,true,false,true,false,false,false] rfl rfl (take_ofW HT_.out HW_.out (by kernel_rfl)) (fun _ _ _ h => h) (Or.inl ⟨by rfl, ?_⟩) hHeld ?_ ?_
     rotate_left
     ·rintro w' ⟨s0, s1⟩
      go_simp
      with_reducible rfl
     rotate_left
     ·simp only [Act.put, List.setIfInBounds_toArray, List.set_cons_zero, List.set_cons_succ, i64_w, i32_w]
      rfl
     refine take_ (i := 9) (N := some 45) (v := ?_) (a' := ?_) #[true,true,true,true,true,false,true,true,true,true,true,false,false,false] rfl rfl (take_ofW HT_.out HW_.out (by kernel_rfl)) (fun _ _ _ h => h) (Or.inl ⟨by rfl, ?_⟩) hHeld ?_ ?_
     rotate_left
     ·rintro w' ⟨s0, s1⟩
      go_simp
      with_reducible rfl
     rotate_left
     ·simp only [Act.put, List.setIfInBounds_toArray, List.set_cons_zero, List.set_cons_succ, i64_w, i32_w]
      rfl
     refine one_ (i := 5) (N := some 41) #[true,true,true,true,true,true,true,true,true,true,true,false,false,false] rfl rfl (one_of HT_.out (by kernel_rfl)) (by decide) (fun K hK => ?_)
     refine goes_ Try.func39 (by kernel_rfl) rfl #[.int .i64 (wrap64 ((wrap64 ((ji19) + 127)) - t123))] (by rfl) rfl rfl (by (try simp only [List.map_toArray, List.map_cons, List.map_nil]);first | done | (simp only [hji19];rfl) | rfl | (simp only [List.length_drop, List.length_take];rfl)) ?_
     with_reducible refine (round_held.calls (wrap64 ((wrap64 ((ji19) + 127)) - t123)) t125 _ A20.out).mono ?_
     rintro e w27 ⟨rfl, hb⟩
     refine ⟨_, rfl, ?_⟩
     have n0_ := am_ (blk_below (g := gb120) (z1_ BK120.out) hb)
     have n1_ := am_ (blk_below (g := gb124) (z1_ BK124.out) hb)
     have n2_ := am_ (below_step (z3_ HB.out) hb)
     clear BK120
     clear BK124
     clear HB
     have BK120 := n0_
     have BK124 := n1_
     have HB := n2_
     clear n0_ n1_ n2_
     (try clear hb)
     (try clear hb2)
     (try clear hk)
     (try clear hi)
     refine hK.out _ _ ⟨(blk_cell BK124.out 0).trans rfl, (blk_cell BK124.out 1).trans rfl⟩ (fun hHeld => ?_)
     clear hK K
     refine norm_ (a' := ?_) ?_ ?_
     rotate_left
     ·show Act.put _ (some 41) _ = _
      simp only [Act.put, List.setIfInBounds_toArray, List.set_cons_zero, List.set_cons_succ, i64_w, i32_w]
      rfl
     refine pure_ (i := 11) (N := some 47) (v := ?_) (a' := ?_) #[true,true,true,true,true,true,true,true,true,true,true,true,false,false] rfl rfl (any_of HT_.out (by kernel_rfl)) (fun _ _ _ h => h) (Or.inl ⟨by rfl, ?_⟩) ?_ ?_
     rotate_left
     ·intro w'
      go_simp
      with_reducible rfl
     rotate_left
     ·simp only [Act.put, List.setIfInBounds_toArray, List.set_cons_zero, List.set_cons_succ, i64_w, i32_w]
      rfl
     refine one_ (i := 12) (N := none) #[true,true,true,true,true,true,true,true,true,true,true,true,true,false] rfl rfl (one_of HT_.out (by kernel_rfl)) (by decide) (fun K hK => ?_)
     have hs28 : w27.cell? ⟨gb120, 0, none⟩ = some (.int .i64 0) := (blk_cell BK120.out 0).trans rfl
     have hfs28 := blk_frozen BK120.out 0
     have hns28_1 := NB124_120.out
     have hms28_1 := NB120_124.out
     have hs29 : w27.cell? ⟨gb120, 1, none⟩ = some (.bool false) := (blk_cell BK120.out 1).trans rfl
     have hfs29 := blk_frozen BK120.out 1
     have hns29_1 := NB124_120.out
     have hms29_1 := NB120_124.out
     have hs30 : w27.cell? ⟨gb120, 2, none⟩ = some (.int .i64 0) := (blk_cell BK120.out 2).trans rfl
     have hfs30 := blk_frozen BK120.out 2
     have hns30_1 := NB124_120.out
     have hms30_1 := NB120_124.out
     have hs31 : w27.cell? ⟨gb120, 3, none⟩ = some (.int .u64 0) := (blk_cell BK120.out 3).trans rfl
     have hfs31 := blk_frozen BK120.out 3
     have hns31_1 := NB124_120.out
     have hms31_1 := NB120_124.out
     have hs32 : w27.cell? ⟨gb120, 4, none⟩ = some (.int .u64 0) := (blk_cell BK120.out 4).trans rfl
     have hfs32 := blk_frozen BK120.out 4
     have hns32_1 := NB124_120.out
     have hms32_1 := NB120_124.out
     have hs33 : w27.cell? ⟨gb120, 5, none⟩ = some (.bool false) := (blk_cell BK120.out 5).trans rfl
     have hfs33 := blk_frozen BK120.out 5
     have hns33_1 := NB124_120.out
     have hms33_1 := NB120_124.out
     refine skip_ (w1 := ?_) (by rfl) rfl ?_ ?_
     rotate_left
     ·go_simp
      rfl
     refine hK.out _ _ ⟨((cell_far (p := ⟨gb120, _, none⟩) NB124_120.out _).trans (((cell_far (p := ⟨gb120, _, none⟩) NB124_120.out _).trans (((cell_far (p := ⟨gb120, _, none⟩) NB124_120.out _).trans (((cell_far (p := ⟨gb120, _, none⟩) NB124_120.out _).trans (((cell_far (p := ⟨gb120, _, none⟩) NB124_120.out _).trans (((cell_far (p := ⟨gb120, _, none⟩) NB124_120.out _).trans (hHeld.1)))))))))))), ((cell_far (p := ⟨gb120, _, none⟩) NB124_120.out _).trans (((cell_far (p := ⟨gb120, _, none⟩) NB124_120.out _).trans (((cell_far (p := ⟨gb120, _, none⟩) NB124_120.out _).trans (((cell_far (p := ⟨gb120, _, none⟩) NB124_120.out _).trans (((cell_far (p := ⟨gb120, _, none⟩) NB124_120.out _).trans (((cell_far (p := ⟨gb120, _, none⟩) NB124_120.out _).trans (hHeld.2))))))))))))⟩ (fun hHeld => ?_)
     clear hK K
     refine pure_ (i := 13) (N := some 11) (v := ?_) (a' := ?_) #[true,true,true,true,true,true,true,true,true,true,true,true,true,true] rfl rfl (any_of HT_.out (by kernel_rfl)) (fun _ _ _ h => h) (Or.inl ⟨by rfl, ?_⟩) ?_ ?_
     rotate_left
     ·intro w'
      go_simp
      with_reducible rfl
     rotate_left
     ·simp only [Act.put, List.setIfInBounds_toArray, List.set_cons_zero, List.set_cons_succ, i64_w, i32_w]
      rfl
     refine done_ (done_of HT_.out (by kernel_rfl)) ?_
     try go_wp2
     refine bodyPost_ret (results_ct rfl _ _ gb120 27 #[.int .i64 1,.bool a0,.int .i64 t125,.int .u64 t121,.int .u64 t122,.bool a4] (0, 0) _ rfl (by refine z2_ ?_;refine blk_put (cs := #[.int .i64 1,.bool a0,.int .i64 t125,.int .u64 t121,.int .u64 t122,.bool false]) ?_ 5 _ rfl;refine z2_ ?_;refine blk_put (cs := #[.int .i64 1,.bool a0,.int .i64 t125,.int .u64 t121,.int .u64 0,.bool false]) ?_ 4 _ rfl;refine z2_ ?_;refine blk_put (cs := #[.int .i64 1,.bool a0,.int .i64 t125,.int .u64 0,.int .u64 0,.bool false]) ?_ 3 _ rfl;refine z2_ ?_;refine blk_put (cs := #[.int .i64 1,.bool a0,.int .i64 0,.int .u64 0,.int .u64 0,.bool false]) ?_ 2 _ rfl;refine z2_ ?_;refine blk_put (cs := #[.int .i64 1,.bool false,.int .i64 0,.int .u64 0,.int .u64 0,.bool false]) ?_ 1 _ rfl;refine z2_ ?_;refine blk_put (cs := #[.int .i64 0,.bool false,.int .i64 0,.int .u64 0,.int .u64 0,.bool false]) ?_ 0 _ rfl;refine z2_ ?_;exact BK120.out) Try.underlying27 rfl (by kernel_rfl)) rfl ?_
     exact ⟨by first | rfl | (simp [errW_none, errW_some] <;> rfl) | (simp only [← hji18, ← hji19];first | rfl | (simp [errW_none, errW_some] <;> rfl)) | (simp [*, errW_none, errW_some] <;> rfl), z3_ HB.out⟩
end Go.Proofs.Ytebhpipfkomhjaa.PAll
namespace Go.Proofs.Ytebhpipfkomhjaa.PAll
open Go.RowKit Go.Proofs.YtebhpipfkomhjaaW.PrintWords Go.Proofs.YtebhpipfkomhjaaW.PrintLast Go.Proofs.YtebhpipfkomhjaaW.PrintMore
attribute [local go_sem] max2_int min2_int max_two min_two max_three min_three max_four min_four
set_option linter.unusedVariables false
set_option linter.unusedSimpArgs false
mutual
def prod_Exact.l0 : Nat → List (S24) → Int → Int → Int → Bool → Int → Int → Int → Bool → Int → Int → Option (Int × Bool × Int × Int × Int × Bool × Option Int)
 | 0, _, _, _, _, _, _, _, _, _, _, _ => none
 | k + 1, x13, x14, x15, x127000, x127001, x127002, x127003, x128000, x128001, x128002, x128003 => if x15 < x14 then (if 0 ≤ x15 then (if x15 < (x13.length : Int) then ((round_Of.f k ((rd_T24 x13 x15).f0) ((rd_T24 x13 x15).f1) ((rd_T24 x13 x15).f2) ((rd_T24 x13 x15).f3)).bind fun bt134 => (if bt134.2.2.2.2.2.2.isNone = true then (prod_Exact.l0 k x13 x14 (wrap64 (x15 + 1)) x127000 x127001 x127002 x127003 x128000 x128001 x128002 x128003) else (some (0, false,0, 0, 0, false,some (bt134.2.2.2.2.2.2.getD 0))))) else (none)) else (none)) else (if x127000 = 2 then (prod_Exact.j1 k (x127000 == 2) x127000 x127001 x127002 x127003 x128000 x128001 x128002 x128003) else (prod_Exact.j1 k (x128000 == 2) x127000 x127001 x127002 x127003 x128000 x128001 x128002 x128003))
def prod_Exact.j1 : Nat → Bool → Int → Bool → Int → Int → Int → Bool → Int → Int → Option (Int × Bool × Int × Int × Int × Bool × Option Int)
 | 0, _, _, _, _, _, _, _, _, _ => none
 | k + 1, x29, x127000, x127001, x127002, x127003, x128000, x128001, x128002, x128003 => if x29 = true then (some (2, false,0, 0, 0, false,none)) else (if x127000 = 0 then (prod_Exact.j2 k (x127000 == 0) x127000 x127001 x127002 x127003 x128000 x128001 x128002 x128003) else (prod_Exact.j2 k (x128000 == 0) x127000 x127001 x127002 x127003 x128000 x128001 x128002 x128003))
def prod_Exact.j2 : Nat → Bool → Int → Bool → Int → Int → Int → Bool → Int → Int → Option (Int × Bool × Int × Int × Int × Bool × Option Int)
 | 0, _, _, _, _, _, _, _, _, _ => none
 | k + 1, x37, x127000, x127001, x127002, x127003, x128000, x128001, x128002, x128003 => if x37 = true then (some (0, false,0, 0, 0, false,none)) else ((twin_Mul.f x127003 x128003).bind fun bt143 => ((round_Make.f k (x127001 != x128001) bt143.1 bt143.2 (wrap64 ((wrap64 (x127002 + x128002)) - 126)) false).bind fun bt146 => (some (bt146.1, bt146.2.1, bt146.2.2.1, bt146.2.2.2.1, bt146.2.2.2.2.1, bt146.2.2.2.2.2.1, bt146.2.2.2.2.2.2))))
end
def prod_Exact.f (k : Nat) (a0_0 : Int) (a0_1 : Bool) (a0_2 : Int) (a0_3 : Int) (a1_0 : Int) (a1_1 : Bool) (a1_2 : Int) (a1_3 : Int) : Option (Int × Bool × Int × Int × Int × Bool × Option Int) := (some (([(⟨a0_0, a0_1, a0_2, a0_3⟩ : S24), (⟨a1_0, a1_1, a1_2, a1_3⟩ : S24)] : List (S24)) : List (S24))).bind fun y129 => (prod_Exact.l0 k y129 (y129.length : Int) 0 a0_0 a0_1 a0_2 a0_3 a1_0 a1_1 a1_2 a1_3)
theorem prod_Exact.mono_l : ∀ k, (∀ y0 y1 y2 y3 y4 y5 y6 y7 y8 y9 y10, LeO (prod_Exact.l0 k y0 y1 y2 y3 y4 y5 y6 y7 y8 y9 y10) (prod_Exact.l0 (k + 1) y0 y1 y2 y3 y4 y5 y6 y7 y8 y9 y10)) ∧ (∀ y0 y1 y2 y3 y4 y5 y6 y7 y8, LeO (prod_Exact.j1 k y0 y1 y2 y3 y4 y5 y6 y7 y8) (prod_Exact.j1 (k + 1) y0 y1 y2 y3 y4 y5 y6 y7 y8)) ∧ (∀ y0 y1 y2 y3 y4 y5 y6 y7 y8, LeO (prod_Exact.j2 k y0 y1 y2 y3 y4 y5 y6 y7 y8) (prod_Exact.j2 (k + 1) y0 y1 y2 y3 y4 y5 y6 y7 y8))
 | 0 => ⟨fun _ _ _ _ _ _ _ _ _ _ _ r h => by simp [prod_Exact.l0] at h, fun _ _ _ _ _ _ _ _ _ r h => by simp [prod_Exact.j1] at h, fun _ _ _ _ _ _ _ _ _ r h => by simp [prod_Exact.j2] at h⟩
 | k + 1 => by
  obtain ⟨ih0, ih1, ih2⟩ := prod_Exact.mono_l k
  refine ⟨?_, ?_, ?_⟩
  ·intro y0 y1 y2 y3 y4 y5 y6 y7 y8 y9 y10
   unfold prod_Exact.l0
   repeat' first
   | (with_reducible exact ih0 _ _ _ _ _ _ _ _ _ _ _)
   | (with_reducible exact ih1 _ _ _ _ _ _ _ _ _)
   | (with_reducible exact ih2 _ _ _ _ _ _ _ _ _)
   | (with_reducible exact round_Make.mono _ _ _ _ _ _)
   | (with_reducible exact round_Of.mono _ _ _ _ _)
   | (with_reducible exact LeO.refl _)
   | (with_reducible exact LeO.none _)
   | (with_reducible refine LeO.ite ?_ ?_)
   | (with_reducible refine LeO.bind ?_ (fun _ => ?_))
   | exact ih0 _ _ _ _ _ _ _ _ _ _ _
   | exact ih1 _ _ _ _ _ _ _ _ _
   | exact ih2 _ _ _ _ _ _ _ _ _
   | exact round_Make.mono _ _ _ _ _ _
   | exact round_Of.mono _ _ _ _ _
   | exact LeO.none _
   | refine LeO.ite ?_ ?_
   | refine LeO.bind ?_ (fun _ => ?_)
  ·intro y0 y1 y2 y3 y4 y5 y6 y7 y8
   unfold prod_Exact.j1
   repeat' first
   | (with_reducible exact ih0 _ _ _ _ _ _ _ _ _ _ _)
   | (with_reducible exact ih1 _ _ _ _ _ _ _ _ _)
   | (with_reducible exact ih2 _ _ _ _ _ _ _ _ _)
   | (with_reducible exact round_Make.mono _ _ _ _ _ _)
   | (with_reducible exact round_Of.mono _ _ _ _ _)
   | (with_reducible exact LeO.refl _)
   | (with_reducible exact LeO.none _)
   | (with_reducible refine LeO.ite ?_ ?_)
   | (with_reducible refine LeO.bind ?_ (fun _ => ?_))
   | exact ih0 _ _ _ _ _ _ _ _ _ _ _
   | exact ih1 _ _ _ _ _ _ _ _ _
   | exact ih2 _ _ _ _ _ _ _ _ _
   | exact round_Make.mono _ _ _ _ _ _
   | exact round_Of.mono _ _ _ _ _
   | exact LeO.none _
   | refine LeO.ite ?_ ?_
   | refine LeO.bind ?_ (fun _ => ?_)
  ·intro y0 y1 y2 y3 y4 y5 y6 y7 y8
   unfold prod_Exact.j2
   repeat' first
   | (with_reducible exact ih0 _ _ _ _ _ _ _ _ _ _ _)
   | (with_reducible exact ih1 _ _ _ _ _ _ _ _ _)
   | (with_reducible exact ih2 _ _ _ _ _ _ _ _ _)
   | (with_reducible exact round_Make.mono _ _ _ _ _ _)
   | (with_reducible exact round_Of.mono _ _ _ _ _)
   | (with_reducible exact LeO.refl _)
   | (with_reducible exact LeO.none _)
   | (with_reducible refine LeO.ite ?_ ?_)
   | (with_reducible refine LeO.bind ?_ (fun _ => ?_))
   | exact ih0 _ _ _ _ _ _ _ _ _ _ _
   | exact ih1 _ _ _ _ _ _ _ _ _
   | exact ih2 _ _ _ _ _ _ _ _ _
   | exact round_Make.mono _ _ _ _ _ _
   | exact round_Of.mono _ _ _ _ _
   | exact LeO.none _
   | refine LeO.ite ?_ ?_
   | refine LeO.bind ?_ (fun _ => ?_)
theorem prod_Exact.mono : ∀ a0 a1 a2 a3 a4 a5 a6 a7 k, LeO (prod_Exact.f k a0 a1 a2 a3 a4 a5 a6 a7) (prod_Exact.f (k + 1) a0 a1 a2 a3 a4 a5 a6 a7) := by
 intro a0 a1 a2 a3 a4 a5 a6 a7 k
 obtain ⟨ih0, ih1, ih2⟩ := prod_Exact.mono_l k
 unfold prod_Exact.f
 repeat' first
   | (with_reducible exact ih0 _ _ _ _ _ _ _ _ _ _ _)
   | (with_reducible exact ih1 _ _ _ _ _ _ _ _ _)
   | (with_reducible exact ih2 _ _ _ _ _ _ _ _ _)
   | (with_reducible exact round_Make.mono _ _ _ _ _ _)
   | (with_reducible exact round_Of.mono _ _ _ _ _)
   | (with_reducible exact LeO.refl _)
   | (with_reducible exact LeO.none _)
   | (with_reducible refine LeO.ite ?_ ?_)
   | (with_reducible refine LeO.bind ?_ (fun _ => ?_))
   | exact ih0 _ _ _ _ _ _ _ _ _ _ _
   | exact ih1 _ _ _ _ _ _ _ _ _
   | exact ih2 _ _ _ _ _ _ _ _ _
   | exact round_Make.mono _ _ _ _ _ _
   | exact round_Of.mono _ _ _ _ _
   | exact LeO.none _
   | refine LeO.ite ?_ ?_
   | refine LeO.bind ?_ (fun _ => ?_)
set_option maxHeartbeats 8000000 in
set_option maxRecDepth 100000 in
theorem prod_Exact.calls (k : Nat) (a0_0 : Int) (a0_1 : Bool) (a0_2 : Int) (a0_3 : Int) (a1_0 : Int) (a1_1 : Bool) (a1_2 : Int) (a1_3 : Int) (r1 : Int) (r2 : Bool) (r3 : Int) (r4 : Int) (r5 : Int) (r6 : Bool) (r7 : Option Int) (w : World) (h : prod_Exact.f k a0_0 a0_1 a0_2 a0_3 a1_0 a1_1 a1_2 a1_3 = some (r1, r2, r3, r4, r5, r6, r7)) :
  Calls Try.prog 9 #[.agg #[.int .i64 a0_0,.bool a0_1,.int .i64 a0_2,.int .u64 a0_3],.agg #[.int .i64 a1_0,.bool a1_1,.int .i64 a1_2,.int .u64 a1_3]] w fun e w' => e = .returned (.tuple #[.agg #[.int .i64 r1,.bool r2,.int .i64 r3,.int .u64 r4,.int .u64 r5,.bool r6], errW r7]) ∧ Below w.heap.size w w' := by
 have hu24 := Try.underlying24
 have hu27 := Try.underlying27
 have hu54 := Try.underlying54
 have hu29 := Try.underlying29
 have hu42 := Try.underlying42
 have HB := am_ (Below.refl w.heap.size w)
 have H : ((some (([(⟨a0_0, a0_1, a0_2, a0_3⟩ : S24), (⟨a1_0, a1_1, a1_2, a1_3⟩ : S24)] : List (S24)) : List (S24))).bind fun y129 => (prod_Exact.l0 k y129 (y129.length : Int) 0 a0_0 a0_1 a0_2 a0_3 a1_0 a1_1 a1_2 a1_3)) = some (r1, r2, r3, r4, r5, r6, r7) := h
 clear h
 obtain ⟨y129, hy129⟩ : ∃ y_ : List (S24), y_ = (([(⟨a0_0, a0_1, a0_2, a0_3⟩ : S24), (⟨a1_0, a1_1, a1_2, a1_3⟩ : S24)] : List (S24))) := ⟨_, rfl⟩
 replace H : (prod_Exact.l0 k y129 (y129.length : Int) 0 a0_0 a0_1 a0_2 a0_3 a1_0 a1_1 a1_2 a1_3) = some (r1, r2, r3, r4, r5, r6, r7) := by first | (rw [hy129];with_reducible exact H) | (have H2_ := (Option.bind_some _ _).symm.trans H;rw [hy129];with_reducible exact H2_) | (have H2_ := (Option.bind_some _ _).symm.trans H;with_reducible exact H2_) | with_reducible exact H | (rw [hy129];exact H) | exact H
 have Ny129 := am_ hy129
 clear hy129
 have H' := am_ H
 clear H
 go_enter Try.func9, Try.ntmps9
 go_wp2_with (first | ((with_reducible refine gate_dst (N := 2) rfl ?_);refine box_event ?hg (N := 2) ?hd (cs := #[.int .i64 a0_0,.bool a0_1,.int .i64 a0_2,.int .u64 a0_3]) (t := 24) ?hr ?_;(case hd => rfl);(case hg => rfl);(case hr => first | (go_simp;done) | (go_simp;rfl));intro gb126 hg w3 hbox hb;have n0_ := am_ (below_step (z3_ HB.out) hb);have n1_ := am_ (hbox);have n2_ := am_ ((by rw [hg];exact (below_size (z3_ HB.out)) : w.heap.size ≤ gb126));have n3_ := am_ ((by rw [hg];exact (below_size (z3_ HB.out)) : w.heap.size ≤ gb126));clear HB;have HB := n0_;have BK126 := n1_;have GW126 := n2_;have GE126 := n3_;clear n0_ n1_ n2_ n3_;clear hb hbox hg) | ((with_reducible refine gate_dst (N := 3) rfl ?_);refine box_event ?hg (N := 3) ?hd (cs := #[.int .i64 a1_0,.bool a1_1,.int .i64 a1_2,.int .u64 a1_3]) (t := 24) ?hr ?_;(case hd => rfl);(case hg => rfl);(case hr => first | (go_simp;done) | (go_simp;rfl));intro gb127 hg w4 hbox hb;have n0_ := am_ (blk_below (g := gb126) (z1_ BK126.out) hb);have n1_ := am_ (below_step (z3_ HB.out) hb);have n2_ := am_ (hbox);have n3_ := am_ ((by rw [hg];exact (below_size (z3_ HB.out)) : w.heap.size ≤ gb127));have n4_ := am_ ((by rw [hg];exact (below_size (z3_ HB.out)) : w.heap.size ≤ gb127));have n5_ := am_ ((by rw [hg];exact Nat.ne_of_lt (blk_lt (g := gb126) (o := .cells #[.int .i64 a0_0,.bool a0_1,.int .i64 a0_2,.int .u64 a0_3] 24 (0, 0)) (z1_ BK126.out)) : gb126 ≠ gb127));have n6_ := am_ ((by rw [hg];exact Nat.ne_of_gt (blk_lt (g := gb126) (o := .cells #[.int .i64 a0_0,.bool a0_1,.int .i64 a0_2,.int .u64 a0_3] 24 (0, 0)) (z1_ BK126.out)) : gb127 ≠ gb126));clear BK126;clear HB;have BK126 := n0_;have HB := n1_;have BK127 := n2_;have GW127 := n3_;have GE127 := n4_;have NB126_127 := n5_;have NB127_126 := n6_;clear n0_ n1_ n2_ n3_ n4_ n5_ n6_;clear hb hbox hg) | ((with_reducible refine gate_dst (N := 4) rfl ?_);refine box_event ?hg (N := 4) ?hd (cs := #[.int .i64 0,.bool false,.int .i64 0,.int .u64 0,.int .u64 0,.bool false]) (t := 27) ?hr ?_;(case hd => rfl);(case hg => rfl);(case hr => first | (go_simp;done) | (go_simp;rfl));intro gb128 hg w5 hbox hb;have n0_ := am_ (blk_below (g := gb126) (z1_ BK126.out) hb);have n1_ := am_ (blk_below (g := gb127) (z1_ BK127.out) hb);have n2_ := am_ (below_step (z3_ HB.out) hb);have n3_ := am_ (hbox);have n4_ := am_ ((by rw [hg];exact (below_size (z3_ HB.out)) : w.heap.size ≤ gb128));have n5_ := am_ ((by rw [hg];exact (below_size (z3_ HB.out)) : w.heap.size ≤ gb128));have n6_ := am_ ((by rw [hg];exact Nat.ne_of_lt (blk_lt (g := gb126) (o := .cells #[.int .i64 a0_0,.bool a0_1,.int .i64 a0_2,.int .u64 a0_3] 24 (0, 0)) (z1_ BK126.out)) : gb126 ≠ gb128));have n7_ := am_ ((by rw [hg];exact Nat.ne_of_gt (blk_lt (g := gb126) (o := .cells #[.int .i64 a0_0,.bool a0_1,.int .i64 a0_2,.int .u64 a0_3] 24 (0, 0)) (z1_ BK126.out)) : gb128 ≠ gb126));have n8_ := am_ ((by rw [hg];exact Nat.ne_of_lt (blk_lt (g := gb127) (o := .cells #[.int .i64 a1_0,.bool a1_1,.int .i64 a1_2,.int .u64 a1_3] 24 (0, 0)) (z1_ BK127.out)) : gb127 ≠ gb128));have n9_ := am_ ((by rw [hg];exact Nat.ne_of_gt (blk_lt (g := gb127) (o := .cells #[.int .i64 a1_0,.bool a1_1,.int .i64 a1_2,.int .u64 a1_3] 24 (0, 0)) (z1_ BK127.out)) : gb128 ≠ gb127));clear BK126;clear BK127;clear HB;have BK126 := n0_;have BK127 := n1_;have HB := n2_;have BK128 := n3_;have GW128 := n4_;have GE128 := n5_;have NB126_128 := n6_;have NB128_126 := n7_;have NB127_128 := n8_;have NB128_127 := n9_;clear n0_ n1_ n2_ n3_ n4_ n5_ n6_ n7_ n8_ n9_;clear hb hbox hg;have hnb6 := NB126_127.out;have hnc6 := NB127_126.out;have hnb7 := NB126_128.out;have hnc7 := NB128_126.out;obtain ⟨hcz8_0, hcz8_1, hcz8_2, hcz8_3, hfz8_0⟩ := zc4_ BK126.out;have hnb9 := NB127_128.out;have hnc9 := NB128_127.out;obtain ⟨hcz10_0, hcz10_1, hcz10_2, hcz10_3, hfz10_0⟩ := zc4_ BK127.out) | ((with_reducible refine gate_dst (N := 13) rfl ?_);refine Kd.R_lit k24 _ 24 ?hg (N := 13) ?hd (xs := ([(⟨a0_0, a0_1, a0_2, a0_3⟩ : S24), (⟨a1_0, a1_1, a1_2, a1_3⟩ : S24)] : List (S24))) (inner := [.int .i64 a0_0,.bool a0_1,.int .i64 a0_2,.int .u64 a0_3,.int .i64 a1_0,.bool a1_1,.int .i64 a1_2,.int .u64 a1_3]) (ok := fun _ => True) (okp := fun _ => True) ?hr ?hp (fun _ hk => hk) trivial (Below.refl _ _) (Nat.le_refl _) (by simp) ?_;(case hd => rfl);(case hg => rfl);(case hr => first | (go_simp;done) | (go_simp;rfl));(case hp => exact (Reps.c4 (show Kd.M k24 _ _ _ (⟨a0_0, a0_1, a0_2, a0_3⟩ : S24) [.int .i64 a0_0,.bool a0_1,.int .i64 a0_2,.int .u64 a0_3] from (k24_mkM _ _ _ (⟨a0_0, a0_1, a0_2, a0_3⟩ : S24) )) (Reps.c4 (show Kd.M k24 _ _ _ (⟨a1_0, a1_1, a1_2, a1_3⟩ : S24) [.int .i64 a1_0,.bool a1_1,.int .i64 a1_2,.int .u64 a1_3] from (k24_mkM _ _ _ (⟨a1_0, a1_1, a1_2, a1_3⟩ : S24) )) (Reps.none _ _))));intro v130 w11 ho12 hb hg_ hnew_;clear hg_ hnew_;(first | rw [← Ny129.out] at ho12 | (simp only [Int.reduceToNat] at ho12;rw [← Ny129.out] at ho12));have n0_ := am_ (Kd.R_lower (Kd.R_newB (Kd.R_newB ho12 (g := gb126) (o := .cells #[.int .i64 a0_0,.bool a0_1,.int .i64 a0_2,.int .u64 a0_3] 24 (0, 0)) (z1_ BK126.out)) (g := gb127) (o := .cells #[.int .i64 a1_0,.bool a1_1,.int .i64 a1_2,.int .u64 a1_3] 24 (0, 0)) (z1_ BK127.out)) (below_size (z3_ HB.out)));have n1_ := am_ (blk_below (g := gb126) (z1_ BK126.out) hb);have n2_ := am_ (blk_below (g := gb127) (z1_ BK127.out) hb);have n3_ := am_ (blk_below (g := gb128) (z1_ BK128.out) hb);have n4_ := am_ (below_step (z3_ HB.out) hb);clear BK126;clear BK127;clear BK128;clear HB;have HO131 := n0_;have BK126 := n1_;have BK127 := n2_;have BK128 := n3_;have HB := n4_;clear n0_ n1_ n2_ n3_ n4_;clear hb ho12;obtain ⟨Ao13, co13, eo13⟩ := Kd.R_slice HO131.out;subst eo13))
 go_loopg [15] k (fun kq v15 w' => ∃ (x15_1 : Int) (x129000_1 : Int) (x129001_1 : Bool) (x129002_1 : Int) (x129003_1 : Int) (x129004_1 : Int) (x129005_1 : Bool), v15 = .int .i64 x15_1 ∧ Aside0 (prod_Exact.l0 kq y129 (y129.length : Int) x15_1 a0_0 a0_1 a0_2 a0_3 a1_0 a1_1 a1_2 a1_3 = some (r1, r2, r3, r4, r5, r6, r7)) ∧ Aside0 (kq ≤ k) ∧ Aside0 (Kd.R k24 24 w' w.heap.size (fun k_ => k_ ≠ gb126 ∧ k_ ≠ gb127) (.slice Ao13 y129.length co13) y129) ∧ Aside0 (w'.heap[gb126]? = some (.cells #[.int .i64 a0_0,.bool a0_1,.int .i64 a0_2,.int .u64 a0_3] 24 (0, 0))) ∧ Aside0 (w'.heap[gb127]? = some (.cells #[.int .i64 a1_0,.bool a1_1,.int .i64 a1_2,.int .u64 a1_3] 24 (0, 0))) ∧ Aside0 (w'.heap[gb128]? = some (.cells #[.int .i64 x129000_1,.bool x129001_1,.int .i64 x129002_1,.int .u64 x129003_1,.int .u64 x129004_1,.bool x129005_1] 27 (0, 0))) ∧ Aside0 (Below w.heap.size w w'))
 case atStart => exact ⟨(0), (0), (false), (0), (0), (0), (false), (by first | rfl | (simp;done) | (simp [*];done)), H', ⟨Nat.le_refl _⟩, ⟨by (with_reducible repeat (first | apply Kd.R_alloc | apply Kd.R_drewN | apply Kd.R_drew));exact Kd.R_mono HO131.out (fun _ hk => ⟨hk.1.2, hk.2⟩)⟩, ⟨by refine z2_ ?_;exact BK126.out⟩, ⟨by refine z2_ ?_;exact BK127.out⟩, ⟨by refine z2_ ?_;exact BK128.out⟩, ⟨z3_ HB.out⟩⟩
 case round =>
  clear H'
  try clear hcz10_0
  try clear hcz10_1
  try clear hcz10_2
  try clear hcz10_3
  try clear hcz8_0
  try clear hcz8_1
  try clear hcz8_2
  try clear hcz8_3
  try clear hfz10_0
  try clear hfz8_0
  obtain ⟨x15_1, x129000_1, x129001_1, x129002_1, x129003_1, x129004_1, x129005_1, rfl, HA, HK1, HO_13, BK126, BK127, BK128, HB⟩ := hrel
  cases gk with
  | zero => exact absurd HA.out (by simp [prod_Exact.l0])
  | succ k1 =>
   have H := HA.out
   clear HA
   simp only [prod_Exact.l0] at H
   by_cases c14 : x15_1 < (y129.length : Int)
   ·rw [if_pos c14] at H
    have c14b0 : decide (x15_1 < (y129.length : Int)) = true := decide_eq_true c14
    clear c14
    by_cases c15 : 0 ≤ x15_1
    ·rw [if_pos c15] at H
     have c15b0 : decide (0 ≤ x15_1) = true := decide_eq_true c15
     clear c15
     by_cases c16 : x15_1 < (y129.length : Int)
     ·rw [if_pos c16] at H
      have c16b0 : decide (x15_1 < (y129.length : Int)) = true := decide_eq_true c16
      clear c16
      replace H := Option.bind_eq_some_iff.mp H
      obtain ⟨⟨t134, t135, t136, t137, t138, t139, t140⟩, A170, H⟩ := H
      replace H : (if t140.isNone = true then (prod_Exact.l0 k1 y129 (y129.length : Int) (wrap64 (x15_1 + 1)) a0_0 a0_1 a0_2 a0_3 a1_0 a1_1 a1_2 a1_3) else (some (0, false,0, 0, 0, false,some (t140.getD 0)))) = some (r1, r2, r3, r4, r5, r6, r7) := H
      have A17 := am_ A170
      clear A170
      rcases t140 with _ | q142
      ·have H1 : (prod_Exact.l0 k1 y129 (y129.length : Int) (wrap64 (x15_1 + 1)) a0_0 a0_1 a0_2 a0_3 a1_0 a1_1 a1_2 a1_3) = some (r1, r2, r3, r4, r5, r6, r7) := by rw [if_pos (show (none : Option Int).isNone = true by rfl)] at H;exact H
       clear H
       have H := H1
       clear H1
       try simp only [errW_none, errW_some]
       have H' := am_ H
       clear H
       have p132 : 0 ≤ (x15_1 : Int) := of_decide_eq_true (by first | (with_reducible assumption) | assumption)
       have q132 : x15_1 < (y129.length : Int) := of_decide_eq_true (by first | (with_reducible assumption) | assumption)
       obtain ⟨ad132, e132, hx132_0, hx132_1, hx132_2, hx132_3⟩ := at_T24 (Kd.R_reads' HO_13.out).2.2 x15_1 p132 q132
       cases e132
       replace p132 := eq_true p132
       replace q132 := eq_true q132
       go_wp2_with (first | ((with_reducible refine gate_dst (N := 7) rfl ?_);refine box_event ?hg (N := 7) ?hd (cs := #[.int .i64 0,.bool false,.int .i64 0,.int .u64 0]) (t := 24) ?hr ?_;(case hd => rfl);(case hg => rfl);(case hr => first | (go_simp;done) | (go_simp;rfl));intro gb133 hg w18 hbox hb;have n0_ := am_ (Kd.R_below (Kd.R_elderB (by (with_reducible repeat (first | apply Kd.R_alloc | apply Kd.R_drewN | apply Kd.R_drew));exact HO_13.out) gb133 (Nat.le_of_eq hg.symm)) hb);have n1_ := am_ (blk_below (g := gb126) (z1_ BK126.out) hb);have n2_ := am_ (blk_below (g := gb127) (z1_ BK127.out) hb);have n3_ := am_ (blk_below (g := gb128) (z1_ BK128.out) hb);have n4_ := am_ (below_step (z3_ HB.out) hb);have n5_ := am_ (hbox);have n6_ := am_ ((by rw [hg];exact (below_size (z3_ HB.out)) : w.heap.size ≤ gb133));have n7_ := am_ ((by rw [hg];exact (below_size (z3_ HB.out)) : w.heap.size ≤ gb133));have n8_ := am_ ((by rw [hg];exact Nat.ne_of_lt (blk_lt (g := gb126) (o := .cells #[.int .i64 a0_0,.bool a0_1,.int .i64 a0_2,.int .u64 a0_3] 24 (0, 0)) (z1_ BK126.out)) : gb126 ≠ gb133));have n9_ := am_ ((by rw [hg];exact Nat.ne_of_gt (blk_lt (g := gb126) (o := .cells #[.int .i64 a0_0,.bool a0_1,.int .i64 a0_2,.int .u64 a0_3] 24 (0, 0)) (z1_ BK126.out)) : gb133 ≠ gb126));have n10_ := am_ ((by rw [hg];exact Nat.ne_of_lt (blk_lt (g := gb127) (o := .cells #[.int .i64 a1_0,.bool a1_1,.int .i64 a1_2,.int .u64 a1_3] 24 (0, 0)) (z1_ BK127.out)) : gb127 ≠ gb133));have n11_ := am_ ((by rw [hg];exact Nat.ne_of_gt (blk_lt (g := gb127) (o := .cells #[.int .i64 a1_0,.bool a1_1,.int .i64 a1_2,.int .u64 a1_3] 24 (0, 0)) (z1_ BK127.out)) : gb133 ≠ gb127));have n12_ := am_ ((by rw [hg];exact Nat.ne_of_lt (blk_lt (g := gb128) (o := .cells #[.int .i64 x129000_1,.bool x129001_1,.int .i64 x129002_1,.int .u64 x129003_1,.int .u64 x129004_1,.bool x129005_1] 27 (0, 0)) (z1_ BK128.out)) : gb128 ≠ gb133));have n13_ := am_ ((by rw [hg];exact Nat.ne_of_gt (blk_lt (g := gb128) (o := .cells #[.int .i64 x129000_1,.bool x129001_1,.int .i64 x129002_1,.int .u64 x129003_1,.int .u64 x129004_1,.bool x129005_1] 27 (0, 0)) (z1_ BK128.out)) : gb133 ≠ gb128));clear HO_13;clear BK126;clear BK127;clear BK128;clear HB;have HO_13 := n0_;have BK126 := n1_;have BK127 := n2_;have BK128 := n3_;have HB := n4_;have BK133 := n5_;have GW133 := n6_;have GE133 := n7_;have NB126_133 := n8_;have NB133_126 := n9_;have NB127_133 := n10_;have NB133_127 := n11_;have NB128_133 := n12_;have NB133_128 := n13_;clear n0_ n1_ n2_ n3_ n4_ n5_ n6_ n7_ n8_ n9_ n10_ n11_ n12_ n13_;clear hb hbox hg;have hnb19 := NB133_126.out;have hnc19 := NB126_133.out;have hnb20 := NB133_127.out;have hnc20 := NB127_133.out;have hnb21 := NB133_128.out;have hnc21 := NB128_133.out;obtain ⟨hcz22_0, hcz22_1, hcz22_2, hcz22_3, hfz22_0⟩ := zc4_ BK133.out) | ((with_reducible refine gate_callee (f := 21) rfl ?_);refine goesL_ (some 21) rfl rfl Try.func21 (by kernel_rfl) rfl #[.agg #[.int .i64 ((rd_T24 y129 x15_1).f0),.bool ((rd_T24 y129 x15_1).f1),.int .i64 ((rd_T24 y129 x15_1).f2),.int .u64 ((rd_T24 y129 x15_1).f3)]] rfl z5_ ?_;(with_reducible refine (round_Of.calls k1 ((rd_T24 y129 x15_1).f0) ((rd_T24 y129 x15_1).f1) ((rd_T24 y129 x15_1).f2) ((rd_T24 y129 x15_1).f3) t134 t135 t136 t137 t138 t139 none _ A17.out).mono ?_);rintro e w23 ⟨rfl, hb⟩;refine ⟨_, rfl, ?_⟩;have n0_ := am_ (Kd.R_below (by (with_reducible repeat (first | apply Kd.R_alloc | apply Kd.R_drewN | apply Kd.R_drew));exact (Kd.R_mono (Kd.R_far (p := ⟨gb133, 3, none⟩) (Kd.R_far (p := ⟨gb133, 2, none⟩) (Kd.R_far (p := ⟨gb133, 1, none⟩) (Kd.R_far (p := ⟨gb133, 0, none⟩) (Kd.R_mono HO_13.out (fun k_ hk => (⟨hk, hk.2⟩ : _ ∧ k_ ≠ gb133))) (fun _ hk => hk.2) (.int .i64 ((rd_T24 y129 x15_1).f0))) (fun _ hk => hk.2) (.bool ((rd_T24 y129 x15_1).f1))) (fun _ hk => hk.2) (.int .i64 ((rd_T24 y129 x15_1).f2))) (fun _ hk => hk.2) (.int .u64 ((rd_T24 y129 x15_1).f3))) (fun _ h_ => h_.1))) hb);have n1_ := am_ (blk_below (g := gb126) (o := .cells #[.int .i64 a0_0,.bool a0_1,.int .i64 a0_2,.int .u64 a0_3] 24 (0, 0)) (by refine z2_ ?_;refine blk_far ?_ NB126_133.out _;refine z2_ ?_;refine blk_far ?_ NB126_133.out _;refine z2_ ?_;refine blk_far ?_ NB126_133.out _;refine z2_ ?_;refine blk_far ?_ NB126_133.out _;refine z2_ ?_;exact BK126.out) hb);have n2_ := am_ (blk_below (g := gb127) (o := .cells #[.int .i64 a1_0,.bool a1_1,.int .i64 a1_2,.int .u64 a1_3] 24 (0, 0)) (by refine z2_ ?_;refine blk_far ?_ NB127_133.out _;refine z2_ ?_;refine blk_far ?_ NB127_133.out _;refine z2_ ?_;refine blk_far ?_ NB127_133.out _;refine z2_ ?_;refine blk_far ?_ NB127_133.out _;refine z2_ ?_;exact BK127.out) hb);have n3_ := am_ (blk_below (g := gb128) (o := .cells #[.int .i64 x129000_1,.bool x129001_1,.int .i64 x129002_1,.int .u64 x129003_1,.int .u64 x129004_1,.bool x129005_1] 27 (0, 0)) (by refine z2_ ?_;refine blk_far ?_ NB128_133.out _;refine z2_ ?_;refine blk_far ?_ NB128_133.out _;refine z2_ ?_;refine blk_far ?_ NB128_133.out _;refine z2_ ?_;refine blk_far ?_ NB128_133.out _;refine z2_ ?_;exact BK128.out) hb);have n4_ := am_ (blk_below (g := gb133) (o := .cells #[.int .i64 ((rd_T24 y129 x15_1).f0),.bool ((rd_T24 y129 x15_1).f1),.int .i64 ((rd_T24 y129 x15_1).f2),.int .u64 ((rd_T24 y129 x15_1).f3)] 24 (0, 0)) (by refine z2_ ?_;refine blk_put (cs := #[.int .i64 ((rd_T24 y129 x15_1).f0),.bool ((rd_T24 y129 x15_1).f1),.int .i64 ((rd_T24 y129 x15_1).f2),.int .u64 0]) ?_ 3 _ rfl;refine z2_ ?_;refine blk_put (cs := #[.int .i64 ((rd_T24 y129 x15_1).f0),.bool ((rd_T24 y129 x15_1).f1),.int .i64 0,.int .u64 0]) ?_ 2 _ rfl;refine z2_ ?_;refine blk_put (cs := #[.int .i64 ((rd_T24 y129 x15_1).f0),.bool false,.int .i64 0,.int .u64 0]) ?_ 1 _ rfl;refine z2_ ?_;refine blk_put (cs := #[.int .i64 0,.bool false,.int .i64 0,.int .u64 0]) ?_ 0 _ rfl;refine z2_ ?_;exact BK133.out) hb);have n5_ := am_ (below_step (z3_ HB.out) hb);clear HO_13;clear BK126;clear BK127;clear BK128;clear BK133;clear HB;have HO_13 := n0_;have BK126 := n1_;have BK127 := n2_;have BK128 := n3_;have BK133 := n4_;have HB := n5_;clear n0_ n1_ n2_ n3_ n4_ n5_;(try clear hb);(try simp only [errW_none, errW_some])) | ((with_reducible refine gate_dst (N := 8) rfl ?_);refine box_event ?hg (N := 8) ?hd (cs := #[.int .i64 0,.bool false,.int .i64 0,.int .u64 0,.int .u64 0,.bool false]) (t := 27) ?hr ?_;(case hd => rfl);(case hg => rfl);(case hr => first | (go_simp;done) | (go_simp;rfl));intro gb141 hg w24 hbox hb;have n0_ := am_ (Kd.R_below (by (with_reducible repeat (first | apply Kd.R_alloc | apply Kd.R_drewN | apply Kd.R_drew));exact HO_13.out) hb);have n1_ := am_ (blk_below (g := gb126) (z1_ BK126.out) hb);have n2_ := am_ (blk_below (g := gb127) (z1_ BK127.out) hb);have n3_ := am_ (blk_below (g := gb128) (z1_ BK128.out) hb);have n4_ := am_ (blk_below (g := gb133) (z1_ BK133.out) hb);have n5_ := am_ (below_step (z3_ HB.out) hb);have n6_ := am_ (hbox);have n7_ := am_ ((by rw [hg];exact (below_size (z3_ HB.out)) : w.heap.size ≤ gb141));have n8_ := am_ ((by rw [hg];exact (below_size (z3_ HB.out)) : w.heap.size ≤ gb141));have n9_ := am_ ((by rw [hg];exact Nat.ne_of_lt (blk_lt (g := gb126) (o := .cells #[.int .i64 a0_0,.bool a0_1,.int .i64 a0_2,.int .u64 a0_3] 24 (0, 0)) (z1_ BK126.out)) : gb126 ≠ gb141));have n10_ := am_ ((by rw [hg];exact Nat.ne_of_gt (blk_lt (g := gb126) (o := .cells #[.int .i64 a0_0,.bool a0_1,.int .i64 a0_2,.int .u64 a0_3] 24 (0, 0)) (z1_ BK126.out)) : gb141 ≠ gb126));have n11_ := am_ ((by rw [hg];exact Nat.ne_of_lt (blk_lt (g := gb127) (o := .cells #[.int .i64 a1_0,.bool a1_1,.int .i64 a1_2,.int .u64 a1_3] 24 (0, 0)) (z1_ BK127.out)) : gb127 ≠ gb141));have n12_ := am_ ((by rw [hg];exact Nat.ne_of_gt (blk_lt (g := gb127) (o := .cells #[.int .i64 a1_0,.bool a1_1,.int .i64 a1_2,.int .u64 a1_3] 24 (0, 0)) (z1_ BK127.out)) : gb141 ≠ gb127));have n13_ := am_ ((by rw [hg];exact Nat.ne_of_lt (blk_lt (g := gb128) (o := .cells #[.int .i64 x129000_1,.bool x129001_1,.int .i64 x129002_1,.int .u64 x129003_1,.int .u64 x129004_1,.bool x129005_1] 27 (0, 0)) (z1_ BK128.out)) : gb128 ≠ gb141));have n14_ := am_ ((by rw [hg];exact Nat.ne_of_gt (blk_lt (g := gb128) (o := .cells #[.int .i64 x129000_1,.bool x129001_1,.int .i64 x129002_1,.int .u64 x129003_1,.int .u64 x129004_1,.bool x129005_1] 27 (0, 0)) (z1_ BK128.out)) : gb141 ≠ gb128));have n15_ := am_ ((by rw [hg];exact Nat.ne_of_lt (blk_lt (g := gb133) (o := .cells #[.int .i64 ((rd_T24 y129 x15_1).f0),.bool ((rd_T24 y129 x15_1).f1),.int .i64 ((rd_T24 y129 x15_1).f2),.int .u64 ((rd_T24 y129 x15_1).f3)] 24 (0, 0)) (z1_ BK133.out)) : gb133 ≠ gb141));have n16_ := am_ ((by rw [hg];exact Nat.ne_of_gt (blk_lt (g := gb133) (o := .cells #[.int .i64 ((rd_T24 y129 x15_1).f0),.bool ((rd_T24 y129 x15_1).f1),.int .i64 ((rd_T24 y129 x15_1).f2),.int .u64 ((rd_T24 y129 x15_1).f3)] 24 (0, 0)) (z1_ BK133.out)) : gb141 ≠ gb133));clear HO_13;clear BK126;clear BK127;clear BK128;clear BK133;clear HB;have HO_13 := n0_;have BK126 := n1_;have BK127 := n2_;have BK128 := n3_;have BK133 := n4_;have HB := n5_;have BK141 := n6_;have GW141 := n7_;have GE141 := n8_;have NB126_141 := n9_;have NB141_126 := n10_;have NB127_141 := n11_;have NB141_127 := n12_;have NB128_141 := n13_;have NB141_128 := n14_;have NB133_141 := n15_;have NB141_133 := n16_;clear n0_ n1_ n2_ n3_ n4_ n5_ n6_ n7_ n8_ n9_ n10_ n11_ n12_ n13_ n14_ n15_ n16_;clear hb hbox hg;have hnb25 := NB141_126.out;have hnc25 := NB126_141.out;have hnb26 := NB141_127.out;have hnc26 := NB127_141.out;have hnb27 := NB141_128.out;have hnc27 := NB128_141.out;have hnb28 := NB141_133.out;have hnc28 := NB133_141.out;obtain ⟨hcz29_0, hcz29_1, hcz29_2, hcz29_3, hcz29_4, hcz29_5, hfz29_0⟩ := zc6_ BK141.out))
       go_roundg k1
       case measure => have := HK1.out;omega
       case rel => exact ⟨(wrap64 (x15_1 + 1)), (x129000_1), (x129001_1), (x129002_1), (x129003_1), (x129004_1), (x129005_1), (by first | rfl | (simp;done) | (simp [*];done)), H', ⟨by have := HK1.out;omega⟩, ⟨by (with_reducible repeat (first | apply Kd.R_alloc | apply Kd.R_drewN | apply Kd.R_drew));exact Kd.R_mono (Kd.R_far (p := ⟨gb141, 5, none⟩) (Kd.R_far (p := ⟨gb141, 4, none⟩) (Kd.R_far (p := ⟨gb141, 3, none⟩) (Kd.R_far (p := ⟨gb141, 2, none⟩) (Kd.R_far (p := ⟨gb141, 1, none⟩) (Kd.R_far (p := ⟨gb141, 0, none⟩) (Kd.R_types HO_13.out BK141.out (by decide)) (fun _ hk => hk.2) (.int .i64 t134)) (fun _ hk => hk.2) (.bool t135)) (fun _ hk => hk.2) (.int .i64 t136)) (fun _ hk => hk.2) (.int .u64 t137)) (fun _ hk => hk.2) (.int .u64 t138)) (fun _ hk => hk.2) (.bool t139)) (fun _ hk => ⟨hk.1.1.1, hk.1.1.2⟩)⟩, ⟨by refine z2_ ?_;refine blk_far ?_ NB126_141.out _;refine z2_ ?_;refine blk_far ?_ NB126_141.out _;refine z2_ ?_;refine blk_far ?_ NB126_141.out _;refine z2_ ?_;refine blk_far ?_ NB126_141.out _;refine z2_ ?_;refine blk_far ?_ NB126_141.out _;refine z2_ ?_;refine blk_far ?_ NB126_141.out _;refine z2_ ?_;exact BK126.out⟩, ⟨by refine z2_ ?_;refine blk_far ?_ NB127_141.out _;refine z2_ ?_;refine blk_far ?_ NB127_141.out _;refine z2_ ?_;refine blk_far ?_ NB127_141.out _;refine z2_ ?_;refine blk_far ?_ NB127_141.out _;refine z2_ ?_;refine blk_far ?_ NB127_141.out _;refine z2_ ?_;refine blk_far ?_ NB127_141.out _;refine z2_ ?_;exact BK127.out⟩, ⟨by refine z2_ ?_;refine blk_far ?_ NB128_141.out _;refine z2_ ?_;refine blk_far ?_ NB128_141.out _;refine z2_ ?_;refine blk_far ?_ NB128_141.out _;refine z2_ ?_;refine blk_far ?_ NB128_141.out _;refine z2_ ?_;refine blk_far ?_ NB128_141.out _;refine z2_ ?_;refine blk_far ?_ NB128_141.out _;refine z2_ ?_;exact BK128.out⟩, ⟨z3_ HB.out⟩⟩
      ·have H1 : (some (0, false,0, 0, 0, false,some q142)) = some (r1, r2, r3, r4, r5, r6, r7) := by rw [if_neg (show ¬ (some q142).isNone = true by simp)] at H;exact H
       clear H
       have H := H1
       clear H1
       try simp only [errW_none, errW_some]
       simp only [Option.some.injEq, Prod.mk.injEq] at H
       obtain ⟨rfl, rfl, rfl, rfl, rfl, rfl, rfl⟩ := H
       have p132 : 0 ≤ (x15_1 : Int) := of_decide_eq_true (by first | (with_reducible assumption) | assumption)
       have q132 : x15_1 < (y129.length : Int) := of_decide_eq_true (by first | (with_reducible assumption) | assumption)
       obtain ⟨ad132, e132, hx132_0, hx132_1, hx132_2, hx132_3⟩ := at_T24 (Kd.R_reads' HO_13.out).2.2 x15_1 p132 q132
       cases e132
       replace p132 := eq_true p132
       replace q132 := eq_true q132
       go_wp2_with (first | ((with_reducible refine gate_dst (N := 7) rfl ?_);refine box_event ?hg (N := 7) ?hd (cs := #[.int .i64 0,.bool false,.int .i64 0,.int .u64 0]) (t := 24) ?hr ?_;(case hd => rfl);(case hg => rfl);(case hr => first | (go_simp;done) | (go_simp;rfl));intro gb133 hg w30 hbox hb;have n0_ := am_ (Kd.R_below (Kd.R_elderB (by (with_reducible repeat (first | apply Kd.R_alloc | apply Kd.R_drewN | apply Kd.R_drew));exact HO_13.out) gb133 (Nat.le_of_eq hg.symm)) hb);have n1_ := am_ (blk_below (g := gb126) (z1_ BK126.out) hb);have n2_ := am_ (blk_below (g := gb127) (z1_ BK127.out) hb);have n3_ := am_ (blk_below (g := gb128) (z1_ BK128.out) hb);have n4_ := am_ (below_step (z3_ HB.out) hb);have n5_ := am_ (hbox);have n6_ := am_ ((by rw [hg];exact (below_size (z3_ HB.out)) : w.heap.size ≤ gb133));have n7_ := am_ ((by rw [hg];exact (below_size (z3_ HB.out)) : w.heap.size ≤ gb133));have n8_ := am_ ((by rw [hg];exact Nat.ne_of_lt (blk_lt (g := gb126) (o := .cells #[.int .i64 a0_0,.bool a0_1,.int .i64 a0_2,.int .u64 a0_3] 24 (0, 0)) (z1_ BK126.out)) : gb126 ≠ gb133));have n9_ := am_ ((by rw [hg];exact Nat.ne_of_gt (blk_lt (g := gb126) (o := .cells #[.int .i64 a0_0,.bool a0_1,.int .i64 a0_2,.int .u64 a0_3] 24 (0, 0)) (z1_ BK126.out)) : gb133 ≠ gb126));have n10_ := am_ ((by rw [hg];exact Nat.ne_of_lt (blk_lt (g := gb127) (o := .cells #[.int .i64 a1_0,.bool a1_1,.int .i64 a1_2,.int .u64 a1_3] 24 (0, 0)) (z1_ BK127.out)) : gb127 ≠ gb133));have n11_ := am_ ((by rw [hg];exact Nat.ne_of_gt (blk_lt (g := gb127) (o := .cells #[.int .i64 a1_0,.bool a1_1,.int .i64 a1_2,.int .u64 a1_3] 24 (0, 0)) (z1_ BK127.out)) : gb133 ≠ gb127));have n12_ := am_ ((by rw [hg];exact Nat.ne_of_lt (blk_lt (g := gb128) (o := .cells #[.int .i64 x129000_1,.bool x129001_1,.int .i64 x129002_1,.int .u64 x129003_1,.int .u64 x129004_1,.bool x129005_1] 27 (0, 0)) (z1_ BK128.out)) : gb128 ≠ gb133));have n13_ := am_ ((by rw [hg];exact Nat.ne_of_gt (blk_lt (g := gb128) (o := .cells #[.int .i64 x129000_1,.bool x129001_1,.int .i64 x129002_1,.int .u64 x129003_1,.int .u64 x129004_1,.bool x129005_1] 27 (0, 0)) (z1_ BK128.out)) : gb133 ≠ gb128));clear HO_13;clear BK126;clear BK127;clear BK128;clear HB;have HO_13 := n0_;have BK126 := n1_;have BK127 := n2_;have BK128 := n3_;have HB := n4_;have BK133 := n5_;have GW133 := n6_;have GE133 := n7_;have NB126_133 := n8_;have NB133_126 := n9_;have NB127_133 := n10_;have NB133_127 := n11_;have NB128_133 := n12_;have NB133_128 := n13_;clear n0_ n1_ n2_ n3_ n4_ n5_ n6_ n7_ n8_ n9_ n10_ n11_ n12_ n13_;clear hb hbox hg;have hnb31 := NB133_126.out;have hnc31 := NB126_133.out;have hnb32 := NB133_127.out;have hnc32 := NB127_133.out;have hnb33 := NB133_128.out;have hnc33 := NB128_133.out;obtain ⟨hcz34_0, hcz34_1, hcz34_2, hcz34_3, hfz34_0⟩ := zc4_ BK133.out) | ((with_reducible refine gate_callee (f := 21) rfl ?_);refine goesL_ (some 21) rfl rfl Try.func21 (by kernel_rfl) rfl #[.agg #[.int .i64 ((rd_T24 y129 x15_1).f0),.bool ((rd_T24 y129 x15_1).f1),.int .i64 ((rd_T24 y129 x15_1).f2),.int .u64 ((rd_T24 y129 x15_1).f3)]] rfl z5_ ?_;(with_reducible refine (round_Of.calls k1 ((rd_T24 y129 x15_1).f0) ((rd_T24 y129 x15_1).f1) ((rd_T24 y129 x15_1).f2) ((rd_T24 y129 x15_1).f3) t134 t135 t136 t137 t138 t139 (some q142) _ A17.out).mono ?_);rintro e w35 ⟨rfl, hb⟩;refine ⟨_, rfl, ?_⟩;have n0_ := am_ (Kd.R_below (by (with_reducible repeat (first | apply Kd.R_alloc | apply Kd.R_drewN | apply Kd.R_drew));exact (Kd.R_mono (Kd.R_far (p := ⟨gb133, 3, none⟩) (Kd.R_far (p := ⟨gb133, 2, none⟩) (Kd.R_far (p := ⟨gb133, 1, none⟩) (Kd.R_far (p := ⟨gb133, 0, none⟩) (Kd.R_mono HO_13.out (fun k_ hk => (⟨hk, hk.2⟩ : _ ∧ k_ ≠ gb133))) (fun _ hk => hk.2) (.int .i64 ((rd_T24 y129 x15_1).f0))) (fun _ hk => hk.2) (.bool ((rd_T24 y129 x15_1).f1))) (fun _ hk => hk.2) (.int .i64 ((rd_T24 y129 x15_1).f2))) (fun _ hk => hk.2) (.int .u64 ((rd_T24 y129 x15_1).f3))) (fun _ h_ => h_.1))) hb);have n1_ := am_ (blk_below (g := gb126) (o := .cells #[.int .i64 a0_0,.bool a0_1,.int .i64 a0_2,.int .u64 a0_3] 24 (0, 0)) (by refine z2_ ?_;refine blk_far ?_ NB126_133.out _;refine z2_ ?_;refine blk_far ?_ NB126_133.out _;refine z2_ ?_;refine blk_far ?_ NB126_133.out _;refine z2_ ?_;refine blk_far ?_ NB126_133.out _;refine z2_ ?_;exact BK126.out) hb);have n2_ := am_ (blk_below (g := gb127) (o := .cells #[.int .i64 a1_0,.bool a1_1,.int .i64 a1_2,.int .u64 a1_3] 24 (0, 0)) (by refine z2_ ?_;refine blk_far ?_ NB127_133.out _;refine z2_ ?_;refine blk_far ?_ NB127_133.out _;refine z2_ ?_;refine blk_far ?_ NB127_133.out _;refine z2_ ?_;refine blk_far ?_ NB127_133.out _;refine z2_ ?_;exact BK127.out) hb);have n3_ := am_ (blk_below (g := gb128) (o := .cells #[.int .i64 x129000_1,.bool x129001_1,.int .i64 x129002_1,.int .u64 x129003_1,.int .u64 x129004_1,.bool x129005_1] 27 (0, 0)) (by refine z2_ ?_;refine blk_far ?_ NB128_133.out _;refine z2_ ?_;refine blk_far ?_ NB128_133.out _;refine z2_ ?_;refine blk_far ?_ NB128_133.out _;refine z2_ ?_;refine blk_far ?_ NB128_133.out _;refine z2_ ?_;exact BK128.out) hb);have n4_ := am_ (blk_below (g := gb133) (o := .cells #[.int .i64 ((rd_T24 y129 x15_1).f0),.bool ((rd_T24 y129 x15_1).f1),.int .i64 ((rd_T24 y129 x15_1).f2),.int .u64 ((rd_T24 y129 x15_1).f3)] 24 (0, 0)) (by refine z2_ ?_;refine blk_put (cs := #[.int .i64 ((rd_T24 y129 x15_1).f0),.bool ((rd_T24 y129 x15_1).f1),.int .i64 ((rd_T24 y129 x15_1).f2),.int .u64 0]) ?_ 3 _ rfl;refine z2_ ?_;refine blk_put (cs := #[.int .i64 ((rd_T24 y129 x15_1).f0),.bool ((rd_T24 y129 x15_1).f1),.int .i64 0,.int .u64 0]) ?_ 2 _ rfl;refine z2_ ?_;refine blk_put (cs := #[.int .i64 ((rd_T24 y129 x15_1).f0),.bool false,.int .i64 0,.int .u64 0]) ?_ 1 _ rfl;refine z2_ ?_;refine blk_put (cs := #[.int .i64 0,.bool false,.int .i64 0,.int .u64 0]) ?_ 0 _ rfl;refine z2_ ?_;exact BK133.out) hb);have n5_ := am_ (below_step (z3_ HB.out) hb);clear HO_13;clear BK126;clear BK127;clear BK128;clear BK133;clear HB;have HO_13 := n0_;have BK126 := n1_;have BK127 := n2_;have BK128 := n3_;have BK133 := n4_;have HB := n5_;clear n0_ n1_ n2_ n3_ n4_ n5_;(try clear hb);(try simp only [errW_none, errW_some])) | ((with_reducible refine gate_dst (N := 8) rfl ?_);refine box_event ?hg (N := 8) ?hd (cs := #[.int .i64 0,.bool false,.int .i64 0,.int .u64 0,.int .u64 0,.bool false]) (t := 27) ?hr ?_;(case hd => rfl);(case hg => rfl);(case hr => first | (go_simp;done) | (go_simp;rfl));intro gb141 hg w36 hbox hb;have n0_ := am_ (Kd.R_below (by (with_reducible repeat (first | apply Kd.R_alloc | apply Kd.R_drewN | apply Kd.R_drew));exact HO_13.out) hb);have n1_ := am_ (blk_below (g := gb126) (z1_ BK126.out) hb);have n2_ := am_ (blk_below (g := gb127) (z1_ BK127.out) hb);have n3_ := am_ (blk_below (g := gb128) (z1_ BK128.out) hb);have n4_ := am_ (blk_below (g := gb133) (z1_ BK133.out) hb);have n5_ := am_ (below_step (z3_ HB.out) hb);have n6_ := am_ (hbox);have n7_ := am_ ((by rw [hg];exact (below_size (z3_ HB.out)) : w.heap.size ≤ gb141));have n8_ := am_ ((by rw [hg];exact (below_size (z3_ HB.out)) : w.heap.size ≤ gb141));have n9_ := am_ ((by rw [hg];exact Nat.ne_of_lt (blk_lt (g := gb126) (o := .cells #[.int .i64 a0_0,.bool a0_1,.int .i64 a0_2,.int .u64 a0_3] 24 (0, 0)) (z1_ BK126.out)) : gb126 ≠ gb141));have n10_ := am_ ((by rw [hg];exact Nat.ne_of_gt (blk_lt (g := gb126) (o := .cells #[.int .i64 a0_0,.bool a0_1,.int .i64 a0_2,.int .u64 a0_3] 24 (0, 0)) (z1_ BK126.out)) : gb141 ≠ gb126));have n11_ := am_ ((by rw [hg];exact Nat.ne_of_lt (blk_lt (g := gb127) (o := .cells #[.int .i64 a1_0,.bool a1_1,.int .i64 a1_2,.int .u64 a1_3] 24 (0, 0)) (z1_ BK127.out)) : gb127 ≠ gb141));have n12_ := am_ ((by rw [hg];exact Nat.ne_of_gt (blk_lt (g := gb127) (o := .cells #[.int .i64 a1_0,.bool a1_1,.int .i64 a1_2,.int .u64 a1_3] 24 (0, 0)) (z1_ BK127.out)) : gb141 ≠ gb127));have n13_ := am_ ((by rw [hg];exact Nat.ne_of_lt (blk_lt (g := gb128) (o := .cells #[.int .i64 x129000_1,.bool x129001_1,.int .i64 x129002_1,.int .u64 x129003_1,.int .u64 x129004_1,.bool x129005_1] 27 (0, 0)) (z1_ BK128.out)) : gb128 ≠ gb141));have n14_ := am_ ((by rw [hg];exact Nat.ne_of_gt (blk_lt (g := gb128) (o := .cells #[.int .i64 x129000_1,.bool x129001_1,.int .i64 x129002_1,.int .u64 x129003_1,.int .u64 x129004_1,.bool x129005_1] 27 (0, 0)) (z1_ BK128.out)) : gb141 ≠ gb128));have n15_ := am_ ((by rw [hg];exact Nat.ne_of_lt (blk_lt (g := gb133) (o := .cells #[.int .i64 ((rd_T24 y129 x15_1).f0),.bool ((rd_T24 y129 x15_1).f1),.int .i64 ((rd_T24 y129 x15_1).f2),.int .u64 ((rd_T24 y129 x15_1).f3)] 24 (0, 0)) (z1_ BK133.out)) : gb133 ≠ gb141));have n16_ := am_ ((by rw [hg];exact Nat.ne_of_gt (blk_lt (g := gb133) (o := .cells #[.int .i64 ((rd_T24 y129 x15_1).f0),.bool ((rd_T24 y129 x15_1).f1),.int .i64 ((rd_T24 y129 x15_1).f2),.int .u64 ((rd_T24 y129 x15_1).f3)] 24 (0, 0)) (z1_ BK133.out)) : gb141 ≠ gb133));clear HO_13;clear BK126;clear BK127;clear BK128;clear BK133;clear HB;have HO_13 := n0_;have BK126 := n1_;have BK127 := n2_;have BK128 := n3_;have BK133 := n4_;have HB := n5_;have BK141 := n6_;have GW141 := n7_;have GE141 := n8_;have NB126_141 := n9_;have NB141_126 := n10_;have NB127_141 := n11_;have NB141_127 := n12_;have NB128_141 := n13_;have NB141_128 := n14_;have NB133_141 := n15_;have NB141_133 := n16_;clear n0_ n1_ n2_ n3_ n4_ n5_ n6_ n7_ n8_ n9_ n10_ n11_ n12_ n13_ n14_ n15_ n16_;clear hb hbox hg;have hnb37 := NB141_126.out;have hnc37 := NB126_141.out;have hnb38 := NB141_127.out;have hnc38 := NB127_141.out;have hnb39 := NB141_128.out;have hnc39 := NB128_141.out;have hnb40 := NB141_133.out;have hnc40 := NB133_141.out;obtain ⟨hcz41_0, hcz41_1, hcz41_2, hcz41_3, hcz41_4, hcz41_5, hfz41_0⟩ := zc6_ BK141.out;have hnb42 := NB128_126.out;have hnc42 := NB126_128.out;have hnb43 := NB128_127.out;have hnc43 := NB127_128.out;obtain ⟨hcz44_0, hcz44_1, hcz44_2, hcz44_3, hcz44_4, hcz44_5, hfz44_0⟩ := zc6_ BK128.out))
       refine bodyPost_ret (results_ct rfl _ _ gb128 27 #[.int .i64 0,.bool false,.int .i64 0,.int .u64 0,.int .u64 0,.bool false] (0, 0) _ rfl (by refine z2_ ?_;refine blk_put (cs := #[.int .i64 0,.bool false,.int .i64 0,.int .u64 0,.int .u64 0,.bool x129005_1]) ?_ 5 _ rfl;refine z2_ ?_;refine blk_put (cs := #[.int .i64 0,.bool false,.int .i64 0,.int .u64 0,.int .u64 x129004_1,.bool x129005_1]) ?_ 4 _ rfl;refine z2_ ?_;refine blk_put (cs := #[.int .i64 0,.bool false,.int .i64 0,.int .u64 x129003_1,.int .u64 x129004_1,.bool x129005_1]) ?_ 3 _ rfl;refine z2_ ?_;refine blk_put (cs := #[.int .i64 0,.bool false,.int .i64 x129002_1,.int .u64 x129003_1,.int .u64 x129004_1,.bool x129005_1]) ?_ 2 _ rfl;refine z2_ ?_;refine blk_put (cs := #[.int .i64 0,.bool x129001_1,.int .i64 x129002_1,.int .u64 x129003_1,.int .u64 x129004_1,.bool x129005_1]) ?_ 1 _ rfl;refine z2_ ?_;refine blk_put (cs := #[.int .i64 x129000_1,.bool x129001_1,.int .i64 x129002_1,.int .u64 x129003_1,.int .u64 x129004_1,.bool x129005_1]) ?_ 0 _ rfl;refine z2_ ?_;refine blk_far ?_ NB128_141.out _;refine z2_ ?_;refine blk_far ?_ NB128_141.out _;refine z2_ ?_;refine blk_far ?_ NB128_141.out _;refine z2_ ?_;refine blk_far ?_ NB128_141.out _;refine z2_ ?_;refine blk_far ?_ NB128_141.out _;refine z2_ ?_;refine blk_far ?_ NB128_141.out _;refine z2_ ?_;exact BK128.out) Try.underlying27 rfl (by kernel_rfl)) rfl ?_
       exact ⟨z6_, z3_ HB.out⟩
     ·rw [if_neg c16] at H
      exact absurd H (by simp)
    ·rw [if_neg c15] at H
     exact absurd H (by simp)
   ·rw [if_neg c14] at H
    have c14b0 : decide (x15_1 < (y129.length : Int)) = false := decide_eq_false c14
    clear c14
    have HC45 := am_ H
    clear H
    have hnb46 := NB126_127.out
    have hnc46 := NB127_126.out
    have hnb47 := NB126_128.out
    have hnc47 := NB128_126.out
    obtain ⟨hcz48_0, hcz48_1, hcz48_2, hcz48_3, hfz48_0⟩ := zc4_ BK126.out
    go_upto_if 29 with (fail)
    go_cut [29] (fun v29 wc => ∃ (kq : Nat) (x29_44 : Bool), v29 = .bool x29_44 ∧ Aside0 (prod_Exact.j1 kq x29_44 a0_0 a0_1 a0_2 a0_3 a1_0 a1_1 a1_2 a1_3 = some (r1, r2, r3, r4, r5, r6, r7)) ∧ Aside0 (kq ≤ k1) ∧ Aside0 (wc.heap[gb126]? = some (.cells #[.int .i64 a0_0,.bool a0_1,.int .i64 a0_2,.int .u64 a0_3] 24 (0, 0))) ∧ Aside0 (wc.heap[gb127]? = some (.cells #[.int .i64 a1_0,.bool a1_1,.int .i64 a1_2,.int .u64 a1_3] 24 (0, 0))) ∧ Aside0 (wc.heap[gb128]? = some (.cells #[.int .i64 x129000_1,.bool x129001_1,.int .i64 x129002_1,.int .u64 x129003_1,.int .u64 x129004_1,.bool x129005_1] 27 (0, 0))) ∧ Aside0 (Below w.heap.size w wc))
    case first =>
     have H := HC45.out
     clear HC45
     by_cases c49 : a0_0 = 2
     ·rw [if_pos c49] at H
      have c49b0 : (a0_0 == 2) = true := beq_iff_eq.mpr c49
      have c49b1 : (a0_0 != 2) = false := bne_eq_false_iff_eq.mpr c49
      clear c49
      (first | rw [c49b0] | (simp only [i64_w, i32_w];rw [c49b0]) | skip)
      have H' := am_ H
      clear H
      go_wp2
      go_meet
      case rel => exact ⟨_, ((a0_0 == 2)), (by first | rfl | (simp;done) | (simp [*];done)), H', ⟨by have := HK1.out;first | omega | exact Nat.le_refl _⟩, ⟨by refine z2_ ?_;exact BK126.out⟩, ⟨by refine z2_ ?_;exact BK127.out⟩, ⟨by refine z2_ ?_;exact BK128.out⟩, ⟨z3_ HB.out⟩⟩
     ·rw [if_neg c49] at H
      have c49b0 : (a0_0 == 2) = false := beq_eq_false_iff_ne.mpr c49
      have c49b1 : (a0_0 != 2) = true := bne_iff_ne.mpr c49
      (first | rw [c49b0] | (simp only [i64_w, i32_w];rw [c49b0]) | skip)
      have H' := am_ H
      clear H
      have hnb50 := NB127_126.out
      have hnc50 := NB126_127.out
      have hnb51 := NB127_128.out
      have hnc51 := NB128_127.out
      obtain ⟨hcz52_0, hcz52_1, hcz52_2, hcz52_3, hfz52_0⟩ := zc4_ BK127.out
      go_wp2
      go_meet
      case rel => exact ⟨_, ((a1_0 == 2)), (by first | rfl | (simp;done) | (simp [*];done)), H', ⟨by have := HK1.out;first | omega | exact Nat.le_refl _⟩, ⟨by refine z2_ ?_;exact BK126.out⟩, ⟨by refine z2_ ?_;exact BK127.out⟩, ⟨by refine z2_ ?_;exact BK128.out⟩, ⟨z3_ HB.out⟩⟩
    case rest =>
     clear HC45
     try clear c14
     try clear c14b0
     try clear hcz10_0
     try clear hcz10_1
     try clear hcz10_2
     try clear hcz10_3
     try clear hcz48_0
     try clear hcz48_1
     try clear hcz48_2
     try clear hcz48_3
     try clear hcz8_0
     try clear hcz8_1
     try clear hcz8_2
     try clear hcz8_3
     try clear hfz10_0
     try clear hfz48_0
     try clear hfz8_0
     obtain ⟨kq, x29_44, rfl, HA, HJ44, BK126, BK127, BK128, HB⟩ := hcut
     cases kq with
     | zero => exact absurd HA.out (by simp [prod_Exact.j1])
     | succ kj44 =>
      have H := HA.out
      clear HA
      simp only [prod_Exact.j1] at H
      by_cases c53 : x29_44 = true
      ·subst c53
       have H1 : (some (2, false,0, 0, 0, false,none)) = some (r1, r2, r3, r4, r5, r6, r7) := by rw [if_pos rfl] at H;exact H
       clear H
       have H := H1
       clear H1
       simp only [Option.some.injEq, Prod.mk.injEq] at H
       obtain ⟨rfl, rfl, rfl, rfl, rfl, rfl, rfl⟩ := H
       have hnb54 := NB128_126.out
       have hnc54 := NB126_128.out
       have hnb55 := NB128_127.out
       have hnc55 := NB127_128.out
       obtain ⟨hcz56_0, hcz56_1, hcz56_2, hcz56_3, hcz56_4, hcz56_5, hfz56_0⟩ := zc6_ BK128.out
       go_wp2
       refine bodyPost_ret (results_ct rfl _ _ gb128 27 #[.int .i64 2,.bool false,.int .i64 0,.int .u64 0,.int .u64 0,.bool false] (0, 0) _ rfl (by refine z2_ ?_;refine blk_put (cs := #[.int .i64 2,.bool false,.int .i64 0,.int .u64 0,.int .u64 0,.bool x129005_1]) ?_ 5 _ rfl;refine z2_ ?_;refine blk_put (cs := #[.int .i64 2,.bool false,.int .i64 0,.int .u64 0,.int .u64 x129004_1,.bool x129005_1]) ?_ 4 _ rfl;refine z2_ ?_;refine blk_put (cs := #[.int .i64 2,.bool false,.int .i64 0,.int .u64 x129003_1,.int .u64 x129004_1,.bool x129005_1]) ?_ 3 _ rfl;refine z2_ ?_;refine blk_put (cs := #[.int .i64 2,.bool false,.int .i64 x129002_1,.int .u64 x129003_1,.int .u64 x129004_1,.bool x129005_1]) ?_ 2 _ rfl;refine z2_ ?_;refine blk_put (cs := #[.int .i64 2,.bool x129001_1,.int .i64 x129002_1,.int .u64 x129003_1,.int .u64 x129004_1,.bool x129005_1]) ?_ 1 _ rfl;refine z2_ ?_;refine blk_put (cs := #[.int .i64 x129000_1,.bool x129001_1,.int .i64 x129002_1,.int .u64 x129003_1,.int .u64 x129004_1,.bool x129005_1]) ?_ 0 _ rfl;refine z2_ ?_;exact BK128.out) Try.underlying27 rfl (by kernel_rfl)) rfl ?_
       exact ⟨z6_, z3_ HB.out⟩
      ·replace c53 := Bool.eq_false_iff.mpr c53
       subst c53
       have H1 : (if a0_0 = 0 then (prod_Exact.j2 kj44 (a0_0 == 0) a0_0 a0_1 a0_2 a0_3 a1_0 a1_1 a1_2 a1_3) else (prod_Exact.j2 kj44 (a1_0 == 0) a0_0 a0_1 a0_2 a0_3 a1_0 a1_1 a1_2 a1_3)) = some (r1, r2, r3, r4, r5, r6, r7) := by rw [if_neg (show ¬ (false = true) by decide)] at H;exact H
       clear H
       have H := H1
       clear H1
       have HC57 := am_ H
       clear H
       have hnb58 := NB126_127.out
       have hnc58 := NB127_126.out
       have hnb59 := NB126_128.out
       have hnc59 := NB128_126.out
       obtain ⟨hcz60_0, hcz60_1, hcz60_2, hcz60_3, hfz60_0⟩ := zc4_ BK126.out
       go_upto_if 37 with (fail)
       go_cut [37] (fun v37 wc => ∃ (kq : Nat) (x37_56 : Bool), v37 = .bool x37_56 ∧ Aside0 (prod_Exact.j2 kq x37_56 a0_0 a0_1 a0_2 a0_3 a1_0 a1_1 a1_2 a1_3 = some (r1, r2, r3, r4, r5, r6, r7)) ∧ Aside0 (kq ≤ kj44) ∧ Aside0 (wc.heap[gb126]? = some (.cells #[.int .i64 a0_0,.bool a0_1,.int .i64 a0_2,.int .u64 a0_3] 24 (0, 0))) ∧ Aside0 (wc.heap[gb127]? = some (.cells #[.int .i64 a1_0,.bool a1_1,.int .i64 a1_2,.int .u64 a1_3] 24 (0, 0))) ∧ Aside0 (wc.heap[gb128]? = some (.cells #[.int .i64 x129000_1,.bool x129001_1,.int .i64 x129002_1,.int .u64 x129003_1,.int .u64 x129004_1,.bool x129005_1] 27 (0, 0))) ∧ Aside0 (Below w.heap.size w wc))
       case first =>
        have H := HC57.out
        clear HC57
        by_cases c61 : a0_0 = 0
        ·rw [if_pos c61] at H
         have c61b0 : (a0_0 == 0) = true := beq_iff_eq.mpr c61
         have c61b1 : (a0_0 != 0) = false := bne_eq_false_iff_eq.mpr c61
         clear c61
         (first | rw [c61b0] | (simp only [i64_w, i32_w];rw [c61b0]) | skip)
         have H' := am_ H
         clear H
         go_wp2
         go_meet
         case rel => exact ⟨_, ((a0_0 == 0)), (by first | rfl | (simp;done) | (simp [*];done)), H', ⟨by have := HK1.out;have := HJ44.out;first | omega | exact Nat.le_refl _⟩, ⟨by refine z2_ ?_;exact BK126.out⟩, ⟨by refine z2_ ?_;exact BK127.out⟩, ⟨by refine z2_ ?_;exact BK128.out⟩, ⟨z3_ HB.out⟩⟩
        ·rw [if_neg c61] at H
         have c61b0 : (a0_0 == 0) = false := beq_eq_false_iff_ne.mpr c61
         have c61b1 : (a0_0 != 0) = true := bne_iff_ne.mpr c61
         (first | rw [c61b0] | (simp only [i64_w, i32_w];rw [c61b0]) | skip)
         have H' := am_ H
         clear H
         have hnb62 := NB127_126.out
         have hnc62 := NB126_127.out
         have hnb63 := NB127_128.out
         have hnc63 := NB128_127.out
         obtain ⟨hcz64_0, hcz64_1, hcz64_2, hcz64_3, hfz64_0⟩ := zc4_ BK127.out
         go_wp2
         go_meet
         case rel => exact ⟨_, ((a1_0 == 0)), (by first | rfl | (simp;done) | (simp [*];done)), H', ⟨by have := HK1.out;have := HJ44.out;first | omega | exact Nat.le_refl _⟩, ⟨by refine z2_ ?_;exact BK126.out⟩, ⟨by refine z2_ ?_;exact BK127.out⟩, ⟨by refine z2_ ?_;exact BK128.out⟩, ⟨z3_ HB.out⟩⟩
       case rest =>
        clear HC57
        try clear c14
        try clear c14b0
        try clear c53
        try clear hcz10_0
        try clear hcz10_1
        try clear hcz10_2
        try clear hcz10_3
        try clear hcz48_0
        try clear hcz48_1
        try clear hcz48_2
        try clear hcz48_3
        try clear hcz60_0
        try clear hcz60_1
        try clear hcz60_2
        try clear hcz60_3
        try clear hcz8_0
        try clear hcz8_1
        try clear hcz8_2
        try clear hcz8_3
        try clear hfz10_0
        try clear hfz48_0
        try clear hfz60_0
        try clear hfz8_0
        obtain ⟨kq, x37_56, rfl, HA, HJ56, BK126, BK127, BK128, HB⟩ := hcut
        cases kq with
        | zero => exact absurd HA.out (by simp [prod_Exact.j2])
        | succ kj56 =>
         have H := HA.out
         clear HA
         simp only [prod_Exact.j2] at H
         by_cases c65 : x37_56 = true
         ·subst c65
          have H1 : (some (0, false,0, 0, 0, false,none)) = some (r1, r2, r3, r4, r5, r6, r7) := by rw [if_pos rfl] at H;exact H
          clear H
          have H := H1
          clear H1
          simp only [Option.some.injEq, Prod.mk.injEq] at H
          obtain ⟨rfl, rfl, rfl, rfl, rfl, rfl, rfl⟩ := H
          have hnb66 := NB128_126.out
          have hnc66 := NB126_128.out
          have hnb67 := NB128_127.out
          have hnc67 := NB127_128.out
          obtain ⟨hcz68_0, hcz68_1, hcz68_2, hcz68_3, hcz68_4, hcz68_5, hfz68_0⟩ := zc6_ BK128.out
          go_wp2
          refine bodyPost_ret (results_ct rfl _ _ gb128 27 #[.int .i64 0,.bool false,.int .i64 0,.int .u64 0,.int .u64 0,.bool false] (0, 0) _ rfl (by refine z2_ ?_;refine blk_put (cs := #[.int .i64 0,.bool false,.int .i64 0,.int .u64 0,.int .u64 0,.bool x129005_1]) ?_ 5 _ rfl;refine z2_ ?_;refine blk_put (cs := #[.int .i64 0,.bool false,.int .i64 0,.int .u64 0,.int .u64 x129004_1,.bool x129005_1]) ?_ 4 _ rfl;refine z2_ ?_;refine blk_put (cs := #[.int .i64 0,.bool false,.int .i64 0,.int .u64 x129003_1,.int .u64 x129004_1,.bool x129005_1]) ?_ 3 _ rfl;refine z2_ ?_;refine blk_put (cs := #[.int .i64 0,.bool false,.int .i64 x129002_1,.int .u64 x129003_1,.int .u64 x129004_1,.bool x129005_1]) ?_ 2 _ rfl;refine z2_ ?_;refine blk_put (cs := #[.int .i64 0,.bool x129001_1,.int .i64 x129002_1,.int .u64 x129003_1,.int .u64 x129004_1,.bool x129005_1]) ?_ 1 _ rfl;refine z2_ ?_;refine blk_put (cs := #[.int .i64 x129000_1,.bool x129001_1,.int .i64 x129002_1,.int .u64 x129003_1,.int .u64 x129004_1,.bool x129005_1]) ?_ 0 _ rfl;refine z2_ ?_;exact BK128.out) Try.underlying27 rfl (by kernel_rfl)) rfl ?_
          exact ⟨z6_, z3_ HB.out⟩
         ·replace c65 := Bool.eq_false_iff.mpr c65
          subst c65
          have H1 : ((twin_Mul.f a0_3 a1_3).bind fun bt143 => ((round_Make.f kj56 (a0_1 != a1_1) bt143.1 bt143.2 (wrap64 ((wrap64 (a0_2 + a1_2)) - 126)) false).bind fun bt146 => (some (bt146.1, bt146.2.1, bt146.2.2.1, bt146.2.2.2.1, bt146.2.2.2.2.1, bt146.2.2.2.2.2.1, bt146.2.2.2.2.2.2)))) = some (r1, r2, r3, r4, r5, r6, r7) := by rw [if_neg (show ¬ (false = true) by decide)] at H;exact H
          clear H
          have H := H1
          clear H1
          replace H := Option.bind_eq_some_iff.mp H
          obtain ⟨⟨t143, t144⟩, A690, H⟩ := H
          replace H : ((round_Make.f kj56 (a0_1 != a1_1) t143 t144 (wrap64 ((wrap64 (a0_2 + a1_2)) - 126)) false).bind fun bt146 => (some (bt146.1, bt146.2.1, bt146.2.2.1, bt146.2.2.2.1, bt146.2.2.2.2.1, bt146.2.2.2.2.2.1, bt146.2.2.2.2.2.2))) = some (r1, r2, r3, r4, r5, r6, r7) := H
          have A69 := am_ A690
          clear A690
          replace H := Option.bind_eq_some_iff.mp H
          obtain ⟨⟨t146, t147, t148, t149, t150, t151, t152⟩, A700, H⟩ := H
          replace H : (some (t146, t147, t148, t149, t150, t151, t152)) = some (r1, r2, r3, r4, r5, r6, r7) := H
          have A70 := am_ A700
          clear A700
          simp only [Option.some.injEq, Prod.mk.injEq] at H
          obtain ⟨rfl, rfl, rfl, rfl, rfl, rfl, rfl⟩ := H
          have hnb71 := NB126_127.out
          have hnc71 := NB127_126.out
          have hnb72 := NB126_128.out
          have hnc72 := NB128_126.out
          obtain ⟨hcz73_0, hcz73_1, hcz73_2, hcz73_3, hfz73_0⟩ := zc4_ BK126.out
          have hnb74 := NB127_128.out
          have hnc74 := NB128_127.out
          obtain ⟨hcz75_0, hcz75_1, hcz75_2, hcz75_3, hfz75_0⟩ := zc4_ BK127.out
          go_wp2_with (first | ((with_reducible refine gate_callee (f := 22) rfl ?_);refine goesL_ (some 49) rfl rfl Try.func22 (by kernel_rfl) rfl #[.int .u64 a0_3,.int .u64 a1_3] rfl z5_ ?_;(with_reducible refine (twin_Mul.calls a0_3 a1_3 t143 t144 _ A69.out).mono ?_);rintro e w76 ⟨rfl, hb⟩;refine ⟨_, rfl, ?_⟩;have n0_ := am_ (blk_below (g := gb126) (z1_ BK126.out) hb);have n1_ := am_ (blk_below (g := gb127) (z1_ BK127.out) hb);have n2_ := am_ (blk_below (g := gb128) (z1_ BK128.out) hb);have n3_ := am_ (below_step (z3_ HB.out) hb);clear BK126;clear BK127;clear BK128;clear HB;have BK126 := n0_;have BK127 := n1_;have BK128 := n2_;have HB := n3_;clear n0_ n1_ n2_ n3_;(try clear hb)) | ((with_reducible refine gate_dst (N := 10) rfl ?_);refine box_event ?hg (N := 10) ?hd (cs := #[.int .u64 0,.int .u64 0]) (t := 54) ?hr ?_;(case hd => rfl);(case hg => rfl);(case hr => first | (go_simp;done) | (go_simp;rfl));intro gb145 hg w77 hbox hb;have n0_ := am_ (blk_below (g := gb126) (z1_ BK126.out) hb);have n1_ := am_ (blk_below (g := gb127) (z1_ BK127.out) hb);have n2_ := am_ (blk_below (g := gb128) (z1_ BK128.out) hb);have n3_ := am_ (below_step (z3_ HB.out) hb);have n4_ := am_ (hbox);have n5_ := am_ ((by rw [hg];exact (below_size (z3_ HB.out)) : w.heap.size ≤ gb145));have n6_ := am_ ((by rw [hg];exact (below_size (z3_ HB.out)) : w.heap.size ≤ gb145));have n7_ := am_ ((by rw [hg];exact Nat.ne_of_lt (blk_lt (g := gb126) (o := .cells #[.int .i64 a0_0,.bool a0_1,.int .i64 a0_2,.int .u64 a0_3] 24 (0, 0)) (z1_ BK126.out)) : gb126 ≠ gb145));have n8_ := am_ ((by rw [hg];exact Nat.ne_of_gt (blk_lt (g := gb126) (o := .cells #[.int .i64 a0_0,.bool a0_1,.int .i64 a0_2,.int .u64 a0_3] 24 (0, 0)) (z1_ BK126.out)) : gb145 ≠ gb126));have n9_ := am_ ((by rw [hg];exact Nat.ne_of_lt (blk_lt (g := gb127) (o := .cells #[.int .i64 a1_0,.bool a1_1,.int .i64 a1_2,.int .u64 a1_3] 24 (0, 0)) (z1_ BK127.out)) : gb127 ≠ gb145));have n10_ := am_ ((by rw [hg];exact Nat.ne_of_gt (blk_lt (g := gb127) (o := .cells #[.int .i64 a1_0,.bool a1_1,.int .i64 a1_2,.int .u64 a1_3] 24 (0, 0)) (z1_ BK127.out)) : gb145 ≠ gb127));have n11_ := am_ ((by rw [hg];exact Nat.ne_of_lt (blk_lt (g := gb128) (o := .cells #[.int .i64 x129000_1,.bool x129001_1,.int .i64 x129002_1,.int .u64 x129003_1,.int .u64 x129004_1,.bool x129005_1] 27 (0, 0)) (z1_ BK128.out)) : gb128 ≠ gb145));have n12_ := am_ ((by rw [hg];exact Nat.ne_of_gt (blk_lt (g := gb128) (o := .cells #[.int .i64 x129000_1,.bool x129001_1,.int .i64 x129002_1,.int .u64 x129003_1,.int .u64 x129004_1,.bool x129005_1] 27 (0, 0)) (z1_ BK128.out)) : gb145 ≠ gb128));clear BK126;clear BK127;clear BK128;clear HB;have BK126 := n0_;have BK127 := n1_;have BK128 := n2_;have HB := n3_;have BK145 := n4_;have GW145 := n5_;have GE145 := n6_;have NB126_145 := n7_;have NB145_126 := n8_;have NB127_145 := n9_;have NB145_127 := n10_;have NB128_145 := n11_;have NB145_128 := n12_;clear n0_ n1_ n2_ n3_ n4_ n5_ n6_ n7_ n8_ n9_ n10_ n11_ n12_;clear hb hbox hg;have hnb78 := NB145_126.out;have hnc78 := NB126_145.out;have hnb79 := NB145_127.out;have hnc79 := NB127_145.out;have hnb80 := NB145_128.out;have hnc80 := NB128_145.out;obtain ⟨hcz81_0, hcz81_1, hfz81_0⟩ := zc2_ BK145.out;obtain ⟨hcz82_0, hcz82_1, hcz82_2, hcz82_3, hfz82_0⟩ := zc4_ BK126.out;obtain ⟨hcz83_0, hcz83_1, hcz83_2, hcz83_3, hfz83_0⟩ := zc4_ BK127.out) | ((with_reducible refine gate_callee (f := 23) rfl ?_);refine goesL_ (some 65) rfl rfl Try.func23 (by kernel_rfl) rfl #[.bool (a0_1 != a1_1),.int .u64 t143,.int .u64 t144,.int .i64 (wrap64 ((wrap64 (a0_2 + a1_2)) - 126)),.bool false] rfl z5_ ?_;(with_reducible refine (round_Make.calls kj56 (a0_1 != a1_1) t143 t144 (wrap64 ((wrap64 (a0_2 + a1_2)) - 126)) false t146 t147 t148 t149 t150 t151 t152 _ A70.out).mono ?_);rintro e w84 ⟨rfl, hb⟩;refine ⟨_, rfl, ?_⟩;have n0_ := am_ (blk_below (g := gb126) (o := .cells #[.int .i64 a0_0,.bool a0_1,.int .i64 a0_2,.int .u64 a0_3] 24 (0, 0)) (by refine z2_ ?_;refine blk_far ?_ NB126_145.out _;refine z2_ ?_;refine blk_far ?_ NB126_145.out _;refine z2_ ?_;exact BK126.out) hb);have n1_ := am_ (blk_below (g := gb127) (o := .cells #[.int .i64 a1_0,.bool a1_1,.int .i64 a1_2,.int .u64 a1_3] 24 (0, 0)) (by refine z2_ ?_;refine blk_far ?_ NB127_145.out _;refine z2_ ?_;refine blk_far ?_ NB127_145.out _;refine z2_ ?_;exact BK127.out) hb);have n2_ := am_ (blk_below (g := gb128) (o := .cells #[.int .i64 x129000_1,.bool x129001_1,.int .i64 x129002_1,.int .u64 x129003_1,.int .u64 x129004_1,.bool x129005_1] 27 (0, 0)) (by refine z2_ ?_;refine blk_far ?_ NB128_145.out _;refine z2_ ?_;refine blk_far ?_ NB128_145.out _;refine z2_ ?_;exact BK128.out) hb);have n3_ := am_ (blk_below (g := gb145) (o := .cells #[.int .u64 t143,.int .u64 t144] 54 (0, 0)) (by refine z2_ ?_;refine blk_put (cs := #[.int .u64 t143,.int .u64 0]) ?_ 1 _ rfl;refine z2_ ?_;refine blk_put (cs := #[.int .u64 0,.int .u64 0]) ?_ 0 _ rfl;refine z2_ ?_;exact BK145.out) hb);have n4_ := am_ (below_step (z3_ HB.out) hb);clear BK126;clear BK127;clear BK128;clear BK145;clear HB;have BK126 := n0_;have BK127 := n1_;have BK128 := n2_;have BK145 := n3_;have HB := n4_;clear n0_ n1_ n2_ n3_ n4_;(try clear hb);(try simp only [errW_none, errW_some]);obtain ⟨hcz85_0, hcz85_1, hcz85_2, hcz85_3, hcz85_4, hcz85_5, hfz85_0⟩ := zc6_ BK128.out))
          refine bodyPost_ret (results_ct rfl _ _ gb128 27 #[.int .i64 t146,.bool t147,.int .i64 t148,.int .u64 t149,.int .u64 t150,.bool t151] (0, 0) _ rfl (by refine z2_ ?_;refine blk_put (cs := #[.int .i64 t146,.bool t147,.int .i64 t148,.int .u64 t149,.int .u64 t150,.bool x129005_1]) ?_ 5 _ rfl;refine z2_ ?_;refine blk_put (cs := #[.int .i64 t146,.bool t147,.int .i64 t148,.int .u64 t149,.int .u64 x129004_1,.bool x129005_1]) ?_ 4 _ rfl;refine z2_ ?_;refine blk_put (cs := #[.int .i64 t146,.bool t147,.int .i64 t148,.int .u64 x129003_1,.int .u64 x129004_1,.bool x129005_1]) ?_ 3 _ rfl;refine z2_ ?_;refine blk_put (cs := #[.int .i64 t146,.bool t147,.int .i64 x129002_1,.int .u64 x129003_1,.int .u64 x129004_1,.bool x129005_1]) ?_ 2 _ rfl;refine z2_ ?_;refine blk_put (cs := #[.int .i64 t146,.bool x129001_1,.int .i64 x129002_1,.int .u64 x129003_1,.int .u64 x129004_1,.bool x129005_1]) ?_ 1 _ rfl;refine z2_ ?_;refine blk_put (cs := #[.int .i64 x129000_1,.bool x129001_1,.int .i64 x129002_1,.int .u64 x129003_1,.int .u64 x129004_1,.bool x129005_1]) ?_ 0 _ rfl;refine z2_ ?_;exact BK128.out) Try.underlying27 rfl (by kernel_rfl)) rfl ?_
          exact ⟨z6_, z3_ HB.out⟩
def shape_is.f (a0 : Int) : Option (Bool) := if a0 = 8 then (some true) else (if a0 = 16 then (some true) else (if a0 = 32 then (some true) else (if a0 = 64 then (some true) else (some false))))
set_option maxHeartbeats 8000000 in
set_option maxRecDepth 100000 in
theorem shape_is.calls (a0 : Int) (r : Bool) (w : World) (h : shape_is.f a0 = some r) :
  Calls Try.prog 70 #[.int .i64 a0] w fun e w' => e = .returned (.bool r) ∧ Drawn0 w w' := by
 have H : (if a0 = 8 then (some true) else (if a0 = 16 then (some true) else (if a0 = 32 then (some true) else (if a0 = 64 then (some true) else (some false))))) = some r := h
 clear h
 by_cases c2 : a0 = 8
 ·rw [if_pos c2] at H
  have c2b0 : (a0 == 8) = true := beq_iff_eq.mpr c2
  have c2b1 : (a0 != 8) = false := bne_eq_false_iff_eq.mpr c2
  clear c2
  obtain rfl := Option.some.inj H
  go_enter Try.func70, Try.ntmps70
  go_wp2
  go_ret
  exact ⟨by first | rfl | (simp;done) | (simp [*];done), by repeat (first | exact Drawn0.refl _ | apply Drawn0.step)⟩
 ·rw [if_neg c2] at H
  have c2b0 : (a0 == 8) = false := beq_eq_false_iff_ne.mpr c2
  have c2b1 : (a0 != 8) = true := bne_iff_ne.mpr c2
  by_cases c3 : a0 = 16
  ·rw [if_pos c3] at H
   have c3b0 : (a0 == 16) = true := beq_iff_eq.mpr c3
   have c3b1 : (a0 != 16) = false := bne_eq_false_iff_eq.mpr c3
   clear c3
   obtain rfl := Option.some.inj H
   go_enter Try.func70, Try.ntmps70
   go_wp2
   go_ret
   exact ⟨by first | rfl | (simp;done) | (simp [*];done), by repeat (first | exact Drawn0.refl _ | apply Drawn0.step)⟩
  ·rw [if_neg c3] at H
   have c3b0 : (a0 == 16) = false := beq_eq_false_iff_ne.mpr c3
   have c3b1 : (a0 != 16) = true := bne_iff_ne.mpr c3
   by_cases c4 : a0 = 32
   ·rw [if_pos c4] at H
    have c4b0 : (a0 == 32) = true := beq_iff_eq.mpr c4
    have c4b1 : (a0 != 32) = false := bne_eq_false_iff_eq.mpr c4
    clear c4
    obtain rfl := Option.some.inj H
    go_enter Try.func70, Try.ntmps70
    go_wp2
    go_ret
    exact ⟨by first | rfl | (simp;done) | (simp [*];done), by repeat (first | exact Drawn0.refl _ | apply Drawn0.step)⟩
   ·rw [if_neg c4] at H
    have c4b0 : (a0 == 32) = false := beq_eq_false_iff_ne.mpr c4
    have c4b1 : (a0 != 32) = true := bne_iff_ne.mpr c4
    by_cases c5 : a0 = 64
    ·rw [if_pos c5] at H
     have c5b0 : (a0 == 64) = true := beq_iff_eq.mpr c5
     have c5b1 : (a0 != 64) = false := bne_eq_false_iff_eq.mpr c5
     clear c5
     obtain rfl := Option.some.inj H
     go_enter Try.func70, Try.ntmps70
     go_wp2
     go_ret
     exact ⟨by first | rfl | (simp;done) | (simp [*];done), by repeat (first | exact Drawn0.refl _ | apply Drawn0.step)⟩
    ·rw [if_neg c5] at H
     have c5b0 : (a0 == 64) = false := beq_eq_false_iff_ne.mpr c5
     have c5b1 : (a0 != 64) = true := bne_iff_ne.mpr c5
     obtain rfl := Option.some.inj H
     go_enter Try.func70, Try.ntmps70
     go_wp2
     go_ret
     exact ⟨by first | rfl | (simp;done) | (simp [*];done), by repeat (first | exact Drawn0.refl _ | apply Drawn0.step)⟩
def lead_ones.f (a0 : Int) : Option (Int) := if a0 = 64 then (some 18446744073709551615) else (if 0 ≤ a0 then (some (IntKind.u64.wrap ((shl .u64 1 a0) - 1))) else (none))
set_option maxHeartbeats 8000000 in
set_option maxRecDepth 100000 in
theorem lead_ones.calls (a0 : Int) (r : Int) (w : World) (h : lead_ones.f a0 = some r) :
  Calls Try.prog 80 #[.int .i64 a0] w fun e w' => e = .returned (.int .u64 r) ∧ Drawn0 w w' := by
 have H : (if a0 = 64 then (some 18446744073709551615) else (if 0 ≤ a0 then (some (IntKind.u64.wrap ((shl .u64 1 a0) - 1))) else (none))) = some r := h
 clear h
 by_cases c2 : a0 = 64
 ·rw [if_pos c2] at H
  have c2b0 : (a0 == 64) = true := beq_iff_eq.mpr c2
  have c2b1 : (a0 != 64) = false := bne_eq_false_iff_eq.mpr c2
  clear c2
  obtain rfl := Option.some.inj H
  go_enter Try.func80, Try.ntmps80
  go_wp2
  go_ret
  exact ⟨by first | rfl | (simp;done) | (simp [*];done), by repeat (first | exact Drawn0.refl _ | apply Drawn0.step)⟩
 ·rw [if_neg c2] at H
  have c2b0 : (a0 == 64) = false := beq_eq_false_iff_ne.mpr c2
  have c2b1 : (a0 != 64) = true := bne_iff_ne.mpr c2
  by_cases c3 : 0 ≤ a0
  ·rw [if_pos c3] at H
   have c3b0 := eq_true c3
   have c3b1 : decide (0 ≤ a0) = true := decide_eq_true c3
   clear c3
   obtain ⟨ji4, hji4⟩ : ∃ j_ : Int, (shl .u64 1 a0) = j_ := ⟨_, rfl⟩
   replace H : (some (IntKind.u64.wrap ((ji4) - 1))) = some r := by first | (rw [hji4] at H;exact H) | (simp only [hji4] at H ⊢;exact H)
   have hji4_ : (IntKind.u64.wrap (1 * 2 ^ min a0.toNat 64)) = ji4 := hji4
   have hji4z : a0 ≤ 64 → (IntKind.u64.wrap (1 * 2 ^ a0.toNat)) = ji4 := shl_small hji4
   (try (have hji4Z_ := hji4z (by omega)))
   have hji4u : (IntKind.u64.wrap (2 ^ min a0.toNat 64)) = ji4 := by have h_ := hji4_;rw [Int.one_mul] at h_;exact h_
   have hji4v : a0 ≤ 64 → (IntKind.u64.wrap (2 ^ a0.toNat)) = ji4 := fun hle_ => by have h_ := hji4z hle_;rw [Int.one_mul] at h_;exact h_
   obtain rfl := Option.some.inj H
   go_enter Try.func80, Try.ntmps80
   go_wp2
   go_ret
   exact ⟨by first | rfl | (simp;done) | (simp only [← hji4] <;> (first | rfl | simp)) | (simp [*];done), by repeat (first | exact Drawn0.refl _ | apply Drawn0.step)⟩
  ·rw [if_neg c3] at H
   exact absurd H (by simp)
def lead_Mask.f (a0 : Int) : Option (Int × Option Int) := if a0 < 0 then (some (0, some 1)) else (if a0 > 64 then (some (0, some 1)) else ((lead_ones.f a0).bind fun t153 => (some (t153, none))))
set_option maxHeartbeats 8000000 in
set_option maxRecDepth 100000 in
theorem lead_Mask.calls (a0 : Int) (r1 : Int) (r2 : Option Int) (w : World) (h : lead_Mask.f a0 = some (r1, r2)) :
  Calls Try.prog 71 #[.int .i64 a0] w fun e w' => e = .returned (.tuple #[.int .u64 r1, errW r2]) ∧ Drawn0 w w' := by
 have hu29 := Try.underlying29
 have hu42 := Try.underlying42
 have H : (if a0 < 0 then (some (0, some 1)) else (if a0 > 64 then (some (0, some 1)) else ((lead_ones.f a0).bind fun t153 => (some (t153, none))))) = some (r1, r2) := h
 clear h
 by_cases c2 : a0 < 0
 ·rw [if_pos c2] at H
  have c2b0 : decide (a0 < 0) = true := decide_eq_true c2
  clear c2
  simp only [Option.some.injEq, Prod.mk.injEq] at H
  obtain ⟨rfl, rfl⟩ := H
  go_enter Try.func71, Try.ntmps71
  go_wp2
  go_ret2
  exact ⟨by first | rfl | (simp;done) | (simp [*];done), by repeat (first | exact Drawn0.refl _ | apply Drawn0.step)⟩
 ·rw [if_neg c2] at H
  have c2b0 : decide (a0 < 0) = false := decide_eq_false c2
  clear c2
  by_cases c3 : a0 > 64
  ·rw [if_pos c3] at H
   have c3b0 : decide (64 < a0) = true := decide_eq_true c3
   clear c3
   simp only [Option.some.injEq, Prod.mk.injEq] at H
   obtain ⟨rfl, rfl⟩ := H
   go_enter Try.func71, Try.ntmps71
   go_wp2
   go_ret2
   exact ⟨by first | rfl | (simp;done) | (simp [*];done), by repeat (first | exact Drawn0.refl _ | apply Drawn0.step)⟩
  ·rw [if_neg c3] at H
   have c3b0 : decide (64 < a0) = false := decide_eq_false c3
   clear c3
   replace H := Option.bind_eq_some_iff.mp H
   obtain ⟨t153, A40, H⟩ := H
   replace H : (some (t153, none)) = some (r1, r2) := H
   have A4 := am_ A40
   clear A40
   simp only [Option.some.injEq, Prod.mk.injEq] at H
   obtain ⟨rfl, rfl⟩ := H
   go_enter Try.func71, Try.ntmps71
   go_wp2_with (first | ((with_reducible refine gate_callee (f := 80) rfl ?_);refine goesL_ (some 12) rfl rfl Try.func80 (by kernel_rfl) rfl #[.int .i64 a0] rfl z5_ ?_;(with_reducible refine (lead_ones.calls a0 t153 _ A4.out).mono ?_);rintro e w' ⟨rfl, ⟨nd, rfl⟩⟩;refine ⟨_, rfl, ?_⟩))
   go_ret2
   exact ⟨by first | rfl | (simp;done) | (simp [*];done), by repeat (first | exact Drawn0.refl _ | apply Drawn0.step)⟩
def shape_Fold.f (a0 : Int) (a1 : Int) : Option (Int × Option Int) := (shape_is.f a0).bind fun t154 => (if t154 = true then ((lead_Mask.f a0).bind fun bt155 => (some (Go.bits .and .u64 a1 bt155.1, bt155.2))) else (some (0, some 2)))
set_option maxHeartbeats 8000000 in
set_option maxRecDepth 100000 in
theorem shape_Fold.calls (a0 : Int) (a1 : Int) (r1 : Int) (r2 : Option Int) (w : World) (h : shape_Fold.f a0 a1 = some (r1, r2)) :
  Calls Try.prog 50 #[.int .i64 a0,.int .u64 a1] w fun e w' => e = .returned (.tuple #[.int .u64 r1, errW r2]) ∧ Drawn0 w w' := by
 have hu29 := Try.underlying29
 have hu42 := Try.underlying42
 have H : ((shape_is.f a0).bind fun t154 => (if t154 = true then ((lead_Mask.f a0).bind fun bt155 => (some (Go.bits .and .u64 a1 bt155.1, bt155.2))) else (some (0, some 2)))) = some (r1, r2) := h
 clear h
 replace H := Option.bind_eq_some_iff.mp H
 obtain ⟨t154, A30, H⟩ := H
 replace H : (if t154 = true then ((lead_Mask.f a0).bind fun bt155 => (some (Go.bits .and .u64 a1 bt155.1, bt155.2))) else (some (0, some 2))) = some (r1, r2) := H
 have A3 := am_ A30
 clear A30
 by_cases c4 : t154 = true
 ·subst c4
  have H1 : ((lead_Mask.f a0).bind fun bt155 => (some (Go.bits .and .u64 a1 bt155.1, bt155.2))) = some (r1, r2) := by rw [if_pos rfl] at H;exact H
  clear H
  have H := H1
  clear H1
  replace H := Option.bind_eq_some_iff.mp H
  obtain ⟨⟨t155, t156⟩, A50, H⟩ := H
  replace H : (some (Go.bits .and .u64 a1 t155, t156)) = some (r1, r2) := H
  have A5 := am_ A50
  clear A50
  simp only [Option.some.injEq, Prod.mk.injEq] at H
  obtain ⟨rfl, rfl⟩ := H
  go_enter Try.func50, Try.ntmps50
  go_wp2_with (first | ((with_reducible refine gate_callee (f := 70) rfl ?_);refine goesL_ (some 9) rfl rfl Try.func70 (by kernel_rfl) rfl #[.int .i64 a0] rfl z5_ ?_;(with_reducible refine (shape_is.calls a0 true _ A3.out).mono ?_);rintro e w' ⟨rfl, ⟨nd, rfl⟩⟩;refine ⟨_, rfl, ?_⟩) | ((with_reducible refine gate_callee (f := 71) rfl ?_);refine goesL_ (some 14) rfl rfl Try.func71 (by kernel_rfl) rfl #[.int .i64 a0] rfl z5_ ?_;(with_reducible refine (lead_Mask.calls a0 t155 t156 _ A5.out).mono ?_);rintro e w' ⟨rfl, ⟨nd, rfl⟩⟩;refine ⟨_, rfl, ?_⟩;(try simp only [errW_none, errW_some])))
  go_ret2
  exact ⟨by first | rfl | (simp;done) | (simp [*];done), by repeat (first | exact Drawn0.refl _ | apply Drawn0.step)⟩
 ·replace c4 := Bool.eq_false_iff.mpr c4
  subst c4
  have H1 : (some (0, some 2)) = some (r1, r2) := by rw [if_neg (show ¬ (false = true) by decide)] at H;exact H
  clear H
  have H := H1
  clear H1
  simp only [Option.some.injEq, Prod.mk.injEq] at H
  obtain ⟨rfl, rfl⟩ := H
  go_enter Try.func50, Try.ntmps50
  go_wp2_with (first | ((with_reducible refine gate_callee (f := 70) rfl ?_);refine goesL_ (some 9) rfl rfl Try.func70 (by kernel_rfl) rfl #[.int .i64 a0] rfl z5_ ?_;(with_reducible refine (shape_is.calls a0 false _ A3.out).mono ?_);rintro e w' ⟨rfl, ⟨nd, rfl⟩⟩;refine ⟨_, rfl, ?_⟩))
  go_ret2
  exact ⟨by first | rfl | (simp;done) | (simp [*];done), by repeat (first | exact Drawn0.refl _ | apply Drawn0.step)⟩
def shape_Kind.f (a0 : Int) (a1 : Int) : Option (Int × Option Int) := (shape_Fold.f a0 a1).bind fun bt157 => (if bt157.2.isNone = true then (if bt157.1 = 0 then (some (0, none)) else (if 0 ≤ (wrap64 (a0 - 1)) then (if bt157.1 = (shl .u64 1 (wrap64 (a0 - 1))) then (some (2, none)) else (some (1, none))) else (none))) else (some (0, some (bt157.2.getD 0))))
set_option maxHeartbeats 8000000 in
set_option maxRecDepth 100000 in
theorem shape_Kind.calls (a0 : Int) (a1 : Int) (r1 : Int) (r2 : Option Int) (w : World) (h : shape_Kind.f a0 a1 = some (r1, r2)) :
  Calls Try.prog 47 #[.int .i64 a0,.int .u64 a1] w fun e w' => e = .returned (.tuple #[.int .i64 r1, errW r2]) ∧ Drawn0 w w' := by
 have hu29 := Try.underlying29
 have hu42 := Try.underlying42
 have H : ((shape_Fold.f a0 a1).bind fun bt157 => (if bt157.2.isNone = true then (if bt157.1 = 0 then (some (0, none)) else (if 0 ≤ (wrap64 (a0 - 1)) then (if bt157.1 = (shl .u64 1 (wrap64 (a0 - 1))) then (some (2, none)) else (some (1, none))) else (none))) else (some (0, some (bt157.2.getD 0))))) = some (r1, r2) := h
 clear h
 replace H := Option.bind_eq_some_iff.mp H
 obtain ⟨⟨t157, t158⟩, A30, H⟩ := H
 replace H : (if t158.isNone = true then (if t157 = 0 then (some (0, none)) else (if 0 ≤ (wrap64 (a0 - 1)) then (if t157 = (shl .u64 1 (wrap64 (a0 - 1))) then (some (2, none)) else (some (1, none))) else (none))) else (some (0, some (t158.getD 0)))) = some (r1, r2) := H
 have A3 := am_ A30
 clear A30
 rcases t158 with _ | q159
 ·have H1 : (if t157 = 0 then (some (0, none)) else (if 0 ≤ (wrap64 (a0 - 1)) then (if t157 = (shl .u64 1 (wrap64 (a0 - 1))) then (some (2, none)) else (some (1, none))) else (none))) = some (r1, r2) := by rw [if_pos (show (none : Option Int).isNone = true by rfl)] at H;exact H
  clear H
  have H := H1
  clear H1
  try simp only [errW_none, errW_some]
  by_cases c4 : t157 = 0
  ·rw [if_pos c4] at H
   have c4b0 : (t157 == 0) = true := beq_iff_eq.mpr c4
   have c4b1 : (t157 != 0) = false := bne_eq_false_iff_eq.mpr c4
   clear c4
   simp only [Option.some.injEq, Prod.mk.injEq] at H
   obtain ⟨rfl, rfl⟩ := H
   go_enter Try.func47, Try.ntmps47
   go_wp2_with (first | ((with_reducible refine gate_callee (f := 50) rfl ?_);refine goesL_ (some 10) rfl rfl Try.func50 (by kernel_rfl) rfl #[.int .i64 a0,.int .u64 a1] rfl z5_ ?_;(with_reducible refine (shape_Fold.calls a0 a1 t157 none _ A3.out).mono ?_);rintro e w' ⟨rfl, ⟨nd, rfl⟩⟩;refine ⟨_, rfl, ?_⟩;(try simp only [errW_none, errW_some])))
   go_ret2
   exact ⟨by first | rfl | (simp;done) | (simp [*];done), by repeat (first | exact Drawn0.refl _ | apply Drawn0.step)⟩
  ·rw [if_neg c4] at H
   have c4b0 : (t157 == 0) = false := beq_eq_false_iff_ne.mpr c4
   have c4b1 : (t157 != 0) = true := bne_iff_ne.mpr c4
   obtain ⟨ji5, hji5⟩ : ∃ j_ : Int, (wrap64 (a0 - 1)) = j_ := ⟨_, rfl⟩
   replace H : (if 0 ≤ (ji5) then (if t157 = (shl .u64 1 (ji5)) then (some (2, none)) else (some (1, none))) else (none)) = some (r1, r2) := by first | (rw [hji5] at H;exact H) | (simp only [hji5] at H ⊢;exact H)
   (try rw [hji5] at A3)
   have hji5w : (IntKind.i64.wrap (a0 - 1)) = ji5 := (i64_w _).trans hji5
   by_cases c6 : 0 ≤ (ji5)
   ·rw [if_pos c6] at H
    have c6b0 := eq_true c6
    have c6b1 : decide (0 ≤ (ji5)) = true := decide_eq_true c6
    clear c6
    obtain ⟨ji7, hji7⟩ : ∃ j_ : Int, (shl .u64 1 (ji5)) = j_ := ⟨_, rfl⟩
    replace H : (if t157 = (ji7) then (some (2, none)) else (some (1, none))) = some (r1, r2) := by first | (rw [hji7] at H;exact H) | (simp only [hji7] at H ⊢;exact H)
    (try rw [hji7] at A3)
    have hji7_ : (IntKind.u64.wrap (1 * 2 ^ min (ji5).toNat 64)) = ji7 := hji7
    have hji7z : (ji5) ≤ 64 → (IntKind.u64.wrap (1 * 2 ^ (ji5).toNat)) = ji7 := shl_small hji7
    (try (have hji7Z_ := hji7z (by omega)))
    have hji7u : (IntKind.u64.wrap (2 ^ min (ji5).toNat 64)) = ji7 := by have h_ := hji7_;rw [Int.one_mul] at h_;exact h_
    have hji7v : (ji5) ≤ 64 → (IntKind.u64.wrap (2 ^ (ji5).toNat)) = ji7 := fun hle_ => by have h_ := hji7z hle_;rw [Int.one_mul] at h_;exact h_
    by_cases c8 : t157 = (ji7)
    ·rw [if_pos c8] at H
     have c8b0 : (t157 == (ji7)) = true := beq_iff_eq.mpr c8
     have c8b1 : (t157 != (ji7)) = false := bne_eq_false_iff_eq.mpr c8
     clear c8
     simp only [Option.some.injEq, Prod.mk.injEq] at H
     obtain ⟨rfl, rfl⟩ := H
     go_enter Try.func47, Try.ntmps47
     go_wp2_with (first | ((with_reducible refine gate_callee (f := 50) rfl ?_);refine goesL_ (some 10) rfl rfl Try.func50 (by kernel_rfl) rfl #[.int .i64 a0,.int .u64 a1] rfl z5_ ?_;(with_reducible refine (shape_Fold.calls a0 a1 t157 none _ A3.out).mono ?_);rintro e w' ⟨rfl, ⟨nd, rfl⟩⟩;refine ⟨_, rfl, ?_⟩;(try simp only [errW_none, errW_some])))
     go_ret2
     exact ⟨by first | rfl | (simp;done) | (simp only [← hji5, ← hji7] <;> (first | rfl | simp)) | (simp [*];done), by repeat (first | exact Drawn0.refl _ | apply Drawn0.step)⟩
    ·rw [if_neg c8] at H
     have c8b0 : (t157 == (ji7)) = false := beq_eq_false_iff_ne.mpr c8
     have c8b1 : (t157 != (ji7)) = true := bne_iff_ne.mpr c8
     simp only [Option.some.injEq, Prod.mk.injEq] at H
     obtain ⟨rfl, rfl⟩ := H
     go_enter Try.func47, Try.ntmps47
     go_wp2_with (first | ((with_reducible refine gate_callee (f := 50) rfl ?_);refine goesL_ (some 10) rfl rfl Try.func50 (by kernel_rfl) rfl #[.int .i64 a0,.int .u64 a1] rfl z5_ ?_;(with_reducible refine (shape_Fold.calls a0 a1 t157 none _ A3.out).mono ?_);rintro e w' ⟨rfl, ⟨nd, rfl⟩⟩;refine ⟨_, rfl, ?_⟩;(try simp only [errW_none, errW_some])))
     go_ret2
     exact ⟨by first | rfl | (simp;done) | (simp only [← hji5, ← hji7] <;> (first | rfl | simp)) | (simp [*];done), by repeat (first | exact Drawn0.refl _ | apply Drawn0.step)⟩
   ·rw [if_neg c6] at H
    exact absurd H (by simp)
 ·have H1 : (some (0, some q159)) = some (r1, r2) := by rw [if_neg (show ¬ (some q159).isNone = true by simp)] at H;exact H
  clear H
  have H := H1
  clear H1
  try simp only [errW_none, errW_some]
  simp only [Option.some.injEq, Prod.mk.injEq] at H
  obtain ⟨rfl, rfl⟩ := H
  go_enter Try.func47, Try.ntmps47
  go_wp2_with (first | ((with_reducible refine gate_callee (f := 50) rfl ?_);refine goesL_ (some 10) rfl rfl Try.func50 (by kernel_rfl) rfl #[.int .i64 a0,.int .u64 a1] rfl z5_ ?_;(with_reducible refine (shape_Fold.calls a0 a1 t157 (some q159) _ A3.out).mono ?_);rintro e w' ⟨rfl, ⟨nd, rfl⟩⟩;refine ⟨_, rfl, ?_⟩;(try simp only [errW_none, errW_some])))
  go_ret2
  exact ⟨by first | rfl | (simp;done) | (simp [*];done), by repeat (first | exact Drawn0.refl _ | apply Drawn0.step)⟩
def lead_Extend.f (a0 : Int) (a1 : Int) : Option (Int × Option Int) := if a1 < 1 then (some (0, some 1)) else (if a1 > 64 then (some (0, some 1)) else (if 0 ≤ (wrap64 (64 - a1)) then (some (shr .i64 (wrap64 (shl .u64 a0 (wrap64 (64 - a1)))) (wrap64 (64 - a1)), none)) else (none)))
set_option maxHeartbeats 8000000 in
set_option maxRecDepth 100000 in
theorem lead_Extend.calls (a0 : Int) (a1 : Int) (r1 : Int) (r2 : Option Int) (w : World) (h : lead_Extend.f a0 a1 = some (r1, r2)) :
  Calls Try.prog 77 #[.int .u64 a0,.int .i64 a1] w fun e w' => e = .returned (.tuple #[.int .i64 r1, errW r2]) ∧ Drawn0 w w' := by
 have hu29 := Try.underlying29
 have hu42 := Try.underlying42
 have H : (if a1 < 1 then (some (0, some 1)) else (if a1 > 64 then (some (0, some 1)) else (if 0 ≤ (wrap64 (64 - a1)) then (some (shr .i64 (wrap64 (shl .u64 a0 (wrap64 (64 - a1)))) (wrap64 (64 - a1)), none)) else (none)))) = some (r1, r2) := h
 clear h
 by_cases c3 : a1 < 1
 ·rw [if_pos c3] at H
  have c3b0 : decide (a1 < 1) = true := decide_eq_true c3
  clear c3
  simp only [Option.some.injEq, Prod.mk.injEq] at H
  obtain ⟨rfl, rfl⟩ := H
  go_enter Try.func77, Try.ntmps77
  go_wp2
  go_ret2
  exact ⟨by first | rfl | (simp;done) | (simp [*];done), by repeat (first | exact Drawn0.refl _ | apply Drawn0.step)⟩
 ·rw [if_neg c3] at H
  have c3b0 : decide (a1 < 1) = false := decide_eq_false c3
  clear c3
  by_cases c4 : a1 > 64
  ·rw [if_pos c4] at H
   have c4b0 : decide (64 < a1) = true := decide_eq_true c4
   clear c4
   simp only [Option.some.injEq, Prod.mk.injEq] at H
   obtain ⟨rfl, rfl⟩ := H
   go_enter Try.func77, Try.ntmps77
   go_wp2
   go_ret2
   exact ⟨by first | rfl | (simp;done) | (simp [*];done), by repeat (first | exact Drawn0.refl _ | apply Drawn0.step)⟩
  ·rw [if_neg c4] at H
   have c4b0 : decide (64 < a1) = false := decide_eq_false c4
   clear c4
   obtain ⟨ji5, hji5⟩ : ∃ j_ : Int, (wrap64 (64 - a1)) = j_ := ⟨_, rfl⟩
   replace H : (if 0 ≤ (ji5) then (some (shr .i64 (wrap64 (shl .u64 a0 (ji5))) (ji5), none)) else (none)) = some (r1, r2) := by first | (rw [hji5] at H;exact H) | (simp only [hji5] at H ⊢;exact H)
   have hji5w : (IntKind.i64.wrap (64 - a1)) = ji5 := (i64_w _).trans hji5
   by_cases c6 : 0 ≤ (ji5)
   ·rw [if_pos c6] at H
    have c6b0 := eq_true c6
    have c6b1 : decide (0 ≤ (ji5)) = true := decide_eq_true c6
    clear c6
    obtain ⟨ji7, hji7⟩ : ∃ j_ : Int, (shl .u64 a0 (ji5)) = j_ := ⟨_, rfl⟩
    replace H : (some (shr .i64 (wrap64 (ji7)) (ji5), none)) = some (r1, r2) := by first | (rw [hji7] at H;exact H) | (simp only [hji7] at H ⊢;exact H)
    have hji7_ : (IntKind.u64.wrap (a0 * 2 ^ min (ji5).toNat 64)) = ji7 := hji7
    have hji7z : (ji5) ≤ 64 → (IntKind.u64.wrap (a0 * 2 ^ (ji5).toNat)) = ji7 := shl_small hji7
    (try (have hji7Z_ := hji7z (by omega)))
    have c8b0 := eq_true (of_decide_eq_true (by first | (with_reducible assumption) | assumption) : 0 ≤ (ji5))
    obtain ⟨ji9, hji9⟩ : ∃ j_ : Int, (shr .i64 (wrap64 (ji7)) (ji5)) = j_ := ⟨_, rfl⟩
    replace H : (some (ji9, none)) = some (r1, r2) := by first | (rw [hji9] at H;exact H) | (simp only [hji9] at H ⊢;exact H)
    have hji9_ : ((wrap64 (ji7)) / 2 ^ min (ji5).toNat 64) = ji9 := hji9
    have hji9z : (ji5) ≤ 64 → ((wrap64 (ji7)) / 2 ^ (ji5).toNat) = ji9 := shr_small hji9
    (try (have hji9Z_ := hji9z (by omega)))
    simp only [Option.some.injEq, Prod.mk.injEq] at H
    obtain ⟨rfl, rfl⟩ := H
    go_enter Try.func77, Try.ntmps77
    go_wp2
    go_ret2
    exact ⟨by first | rfl | (simp;done) | (simp only [← hji5, ← hji7, ← hji9] <;> (first | rfl | simp)) | (simp [*];done), by repeat (first | exact Drawn0.refl _ | apply Drawn0.step)⟩
   ·rw [if_neg c6] at H
    exact absurd H (by simp)
def shape_Rank.f (a0 : Int) (a1 : Int) : Option (Int × Option Int) := (shape_is.f a0).bind fun t160 => (if t160 = true then ((lead_Extend.f a1 a0).bind fun bt161 => (some (bt161.1, bt161.2))) else (some (0, some 2)))
set_option maxHeartbeats 8000000 in
set_option maxRecDepth 100000 in
theorem shape_Rank.calls (a0 : Int) (a1 : Int) (r1 : Int) (r2 : Option Int) (w : World) (h : shape_Rank.f a0 a1 = some (r1, r2)) :
  Calls Try.prog 64 #[.int .i64 a0,.int .u64 a1] w fun e w' => e = .returned (.tuple #[.int .i64 r1, errW r2]) ∧ Drawn0 w w' := by
 have hu29 := Try.underlying29
 have hu42 := Try.underlying42
 have H : ((shape_is.f a0).bind fun t160 => (if t160 = true then ((lead_Extend.f a1 a0).bind fun bt161 => (some (bt161.1, bt161.2))) else (some (0, some 2)))) = some (r1, r2) := h
 clear h
 replace H := Option.bind_eq_some_iff.mp H
 obtain ⟨t160, A30, H⟩ := H
 replace H : (if t160 = true then ((lead_Extend.f a1 a0).bind fun bt161 => (some (bt161.1, bt161.2))) else (some (0, some 2))) = some (r1, r2) := H
 have A3 := am_ A30
 clear A30
 by_cases c4 : t160 = true
 ·subst c4
  have H1 : ((lead_Extend.f a1 a0).bind fun bt161 => (some (bt161.1, bt161.2))) = some (r1, r2) := by rw [if_pos rfl] at H;exact H
  clear H
  have H := H1
  clear H1
  replace H := Option.bind_eq_some_iff.mp H
  obtain ⟨⟨t161, t162⟩, A50, H⟩ := H
  replace H : (some (t161, t162)) = some (r1, r2) := H
  have A5 := am_ A50
  clear A50
  simp only [Option.some.injEq, Prod.mk.injEq] at H
  obtain ⟨rfl, rfl⟩ := H
  go_enter Try.func64, Try.ntmps64
  go_wp2_with (first | ((with_reducible refine gate_callee (f := 70) rfl ?_);refine goesL_ (some 7) rfl rfl Try.func70 (by kernel_rfl) rfl #[.int .i64 a0] rfl z5_ ?_;(with_reducible refine (shape_is.calls a0 true _ A3.out).mono ?_);rintro e w' ⟨rfl, ⟨nd, rfl⟩⟩;refine ⟨_, rfl, ?_⟩) | ((with_reducible refine gate_callee (f := 77) rfl ?_);refine goesL_ (some 12) rfl rfl Try.func77 (by kernel_rfl) rfl #[.int .u64 a1,.int .i64 a0] rfl z5_ ?_;(with_reducible refine (lead_Extend.calls a1 a0 t161 t162 _ A5.out).mono ?_);rintro e w' ⟨rfl, ⟨nd, rfl⟩⟩;refine ⟨_, rfl, ?_⟩;(try simp only [errW_none, errW_some])))
  go_ret2
  exact ⟨by first | rfl | (simp;done) | (simp [*];done), by repeat (first | exact Drawn0.refl _ | apply Drawn0.step)⟩
 ·replace c4 := Bool.eq_false_iff.mpr c4
  subst c4
  have H1 : (some (0, some 2)) = some (r1, r2) := by rw [if_neg (show ¬ (false = true) by decide)] at H;exact H
  clear H
  have H := H1
  clear H1
  simp only [Option.some.injEq, Prod.mk.injEq] at H
  obtain ⟨rfl, rfl⟩ := H
  go_enter Try.func64, Try.ntmps64
  go_wp2_with (first | ((with_reducible refine gate_callee (f := 70) rfl ?_);refine goesL_ (some 7) rfl rfl Try.func70 (by kernel_rfl) rfl #[.int .i64 a0] rfl z5_ ?_;(with_reducible refine (shape_is.calls a0 false _ A3.out).mono ?_);rintro e w' ⟨rfl, ⟨nd, rfl⟩⟩;refine ⟨_, rfl, ?_⟩))
  go_ret2
  exact ⟨by first | rfl | (simp;done) | (simp [*];done), by repeat (first | exact Drawn0.refl _ | apply Drawn0.step)⟩
def bits_LeadingZeros64.f (a0 : Int) : Option (Int) := (bits_Len64.f a0).bind fun t163 => (some (wrap64 (64 - t163)))
set_option maxHeartbeats 8000000 in
set_option maxRecDepth 100000 in
theorem bits_LeadingZeros64.calls (a0 : Int) (r : Int) (w : World) (h : bits_LeadingZeros64.f a0 = some r) :
  Calls Try.prog 78 #[.int .u64 a0] w fun e w' => e = .returned (.int .i64 r) ∧ Drawn0 w w' := by
 have H : ((bits_Len64.f a0).bind fun t163 => (some (wrap64 (64 - t163)))) = some r := h
 clear h
 replace H := Option.bind_eq_some_iff.mp H
 obtain ⟨t163, A20, H⟩ := H
 replace H : (some (wrap64 (64 - t163))) = some r := H
 have A2 := am_ A20
 clear A20
 obtain rfl := Option.some.inj H
 go_enter Try.func78, Try.ntmps78
 go_wp2_with (first | ((with_reducible refine gate_callee (f := 76) rfl ?_);refine goesL_ (some 4) rfl rfl Try.func76 (by kernel_rfl) rfl #[.int .u64 a0] rfl z5_ ?_;(with_reducible refine (bits_Len64.calls a0 t163 _ A2.out).mono ?_);rintro e w' ⟨rfl, ⟨nd, rfl⟩⟩;refine ⟨_, rfl, ?_⟩))
 go_ret
 exact ⟨by first | rfl | (simp;done) | (simp [*];done), by repeat (first | exact Drawn0.refl _ | apply Drawn0.step)⟩
def lead_Run.j0 : Nat → Int → Int → Bool → Option (Bool × Int × Option Int)
 | 0, _, _, _ => none
 | k + 1, x0, x1, x13 => if x13 = true then (some (false,0, some 1)) else (if 0 ≤ (wrap64 (64 - x1)) then (if ((shl .u64 x0 (wrap64 (64 - x1))) / 9223372036854775808) = 1 then ((bits_LeadingZeros64.f (Go.bits .xor .u64 18446744073709551615 (shl .u64 x0 (wrap64 (64 - x1))))).bind fun t164 => (some ((((shl .u64 x0 (wrap64 (64 - x1))) / 9223372036854775808) == 1), mn t164 x1, none))) else ((bits_LeadingZeros64.f (shl .u64 x0 (wrap64 (64 - x1)))).bind fun t165 => (some ((((shl .u64 x0 (wrap64 (64 - x1))) / 9223372036854775808) == 1), mn t165 x1, none)))) else (none))
def lead_Run.f (k : Nat) (a0 : Int) (a1 : Int) : Option (Bool × Int × Option Int) := if a1 < 1 then (lead_Run.j0 k a0 a1 true) else (lead_Run.j0 k a0 a1 (decide (a1 > 64)))
theorem lead_Run.mono_l : ∀ k, (∀ y0 y1 y2, LeO (lead_Run.j0 k y0 y1 y2) (lead_Run.j0 (k + 1) y0 y1 y2))
 | 0 => fun _ _ _ r h => by simp [lead_Run.j0] at h
 | k + 1 => by
  have ih0 := lead_Run.mono_l k
  ·intro y0 y1 y2
   unfold lead_Run.j0
   repeat' first
   | (with_reducible exact ih0 _ _ _)
   | (with_reducible exact LeO.refl _)
   | (with_reducible exact LeO.none _)
   | (with_reducible refine LeO.ite ?_ ?_)
   | (with_reducible refine LeO.bind ?_ (fun _ => ?_))
   | exact ih0 _ _ _
   | exact LeO.none _
   | refine LeO.ite ?_ ?_
   | refine LeO.bind ?_ (fun _ => ?_)
theorem lead_Run.mono : ∀ a0 a1 k, LeO (lead_Run.f k a0 a1) (lead_Run.f (k + 1) a0 a1) := by
 intro a0 a1 k
 have ih0 := lead_Run.mono_l k
 unfold lead_Run.f
 repeat' first
   | (with_reducible exact ih0 _ _ _)
   | (with_reducible exact LeO.refl _)
   | (with_reducible exact LeO.none _)
   | (with_reducible refine LeO.ite ?_ ?_)
   | (with_reducible refine LeO.bind ?_ (fun _ => ?_))
   | exact ih0 _ _ _
   | exact LeO.none _
   | refine LeO.ite ?_ ?_
   | refine LeO.bind ?_ (fun _ => ?_)
set_option maxHeartbeats 8000000 in
set_option maxRecDepth 100000 in
theorem lead_Run.calls (k : Nat) (a0 : Int) (a1 : Int) (r1 : Bool) (r2 : Int) (r3 : Option Int) (w : World) (h : lead_Run.f k a0 a1 = some (r1, r2, r3)) :
  Calls Try.prog 65 #[.int .u64 a0,.int .i64 a1] w fun e w' => e = .returned (.tuple #[.bool r1,.int .i64 r2, errW r3]) ∧ Below w.heap.size w w' := by
 have hu29 := Try.underlying29
 have hu42 := Try.underlying42
 have HB := am_ (Below.refl w.heap.size w)
 have H : (if a1 < 1 then (lead_Run.j0 k a0 a1 true) else (lead_Run.j0 k a0 a1 (decide (a1 > 64)))) = some (r1, r2, r3) := h
 clear h
 have HC3 := am_ H
 clear H
 go_enter Try.func65, Try.ntmps65
 go_upto_region 1 with (fail)
 go_cut [13] (fun v13 wc => ∃ (kq : Nat) (x13_2 : Bool), v13 = .bool x13_2 ∧ Aside0 (lead_Run.j0 kq a0 a1 x13_2 = some (r1, r2, r3)) ∧ Aside0 (kq ≤ k) ∧ Aside0 (Below w.heap.size w wc))
 case first =>
  have H := HC3.out
  clear HC3
  by_cases c4 : a1 < 1
  ·rw [if_pos c4] at H
   have c4b0 : decide (a1 < 1) = true := decide_eq_true c4
   clear c4
   (first | rw [c4b0] | (simp only [i64_w, i32_w];rw [c4b0]) | skip)
   have H' := am_ H
   clear H
   go_wp2
   go_meet
   case rel => exact ⟨_, (true), (by first | rfl | (simp;done) | (simp [*];done)), H', ⟨by first | omega | exact Nat.le_refl _⟩, ⟨z3_ HB.out⟩⟩
  ·rw [if_neg c4] at H
   have c4b0 : decide (a1 < 1) = false := decide_eq_false c4
   clear c4
   (first | rw [c4b0] | (simp only [i64_w, i32_w];rw [c4b0]) | skip)
   have H' := am_ H
   clear H
   go_wp2
   go_meet
   case rel => exact ⟨_, (decide (a1 > 64)), (by first | rfl | (simp;done) | (simp [*];done)), H', ⟨by first | omega | exact Nat.le_refl _⟩, ⟨z3_ HB.out⟩⟩
 case rest =>
  clear HC3
  obtain ⟨kq, x13_2, rfl, HA, HJ2, HB⟩ := hcut
  cases kq with
  | zero => exact absurd HA.out (by simp [lead_Run.j0])
  | succ kj2 =>
   have H := HA.out
   clear HA
   simp only [lead_Run.j0] at H
   by_cases c5 : x13_2 = true
   ·subst c5
    have H1 : (some (false,0, some 1)) = some (r1, r2, r3) := by rw [if_pos rfl] at H;exact H
    clear H
    have H := H1
    clear H1
    simp only [Option.some.injEq, Prod.mk.injEq] at H
    obtain ⟨rfl, rfl, rfl⟩ := H
    go_wp2
    go_ret3
    exact ⟨z6_, z3_ HB.out⟩
   ·replace c5 := Bool.eq_false_iff.mpr c5
    subst c5
    have H1 : (if 0 ≤ (wrap64 (64 - a1)) then (if ((shl .u64 a0 (wrap64 (64 - a1))) / 9223372036854775808) = 1 then ((bits_LeadingZeros64.f (Go.bits .xor .u64 18446744073709551615 (shl .u64 a0 (wrap64 (64 - a1))))).bind fun t164 => (some ((((shl .u64 a0 (wrap64 (64 - a1))) / 9223372036854775808) == 1), mn t164 a1, none))) else ((bits_LeadingZeros64.f (shl .u64 a0 (wrap64 (64 - a1)))).bind fun t165 => (some ((((shl .u64 a0 (wrap64 (64 - a1))) / 9223372036854775808) == 1), mn t165 a1, none)))) else (none)) = some (r1, r2, r3) := by rw [if_neg (show ¬ (false = true) by decide)] at H;exact H
    clear H
    have H := H1
    clear H1
    obtain ⟨ji6, hji6⟩ : ∃ j_ : Int, (wrap64 (64 - a1)) = j_ := ⟨_, rfl⟩
    replace H : (if 0 ≤ (ji6) then (if ((shl .u64 a0 (ji6)) / 9223372036854775808) = 1 then ((bits_LeadingZeros64.f (Go.bits .xor .u64 18446744073709551615 (shl .u64 a0 (ji6)))).bind fun t164 => (some ((((shl .u64 a0 (ji6)) / 9223372036854775808) == 1), mn t164 a1, none))) else ((bits_LeadingZeros64.f (shl .u64 a0 (ji6))).bind fun t165 => (some ((((shl .u64 a0 (ji6)) / 9223372036854775808) == 1), mn t165 a1, none)))) else (none)) = some (r1, r2, r3) := by first | (rw [hji6] at H;exact H) | (simp only [hji6] at H ⊢;exact H)
    have hji6w : (IntKind.i64.wrap (64 - a1)) = ji6 := (i64_w _).trans hji6
    by_cases c7 : 0 ≤ (ji6)
    ·rw [if_pos c7] at H
     have c7b0 := eq_true c7
     have c7b1 : decide (0 ≤ (ji6)) = true := decide_eq_true c7
     clear c7
     obtain ⟨ji8, hji8⟩ : ∃ j_ : Int, (shl .u64 a0 (ji6)) = j_ := ⟨_, rfl⟩
     replace H : (if ((ji8) / 9223372036854775808) = 1 then ((bits_LeadingZeros64.f (Go.bits .xor .u64 18446744073709551615 (ji8))).bind fun t164 => (some ((((ji8) / 9223372036854775808) == 1), mn t164 a1, none))) else ((bits_LeadingZeros64.f (ji8)).bind fun t165 => (some ((((ji8) / 9223372036854775808) == 1), mn t165 a1, none)))) = some (r1, r2, r3) := by first | (rw [hji8] at H;exact H) | (simp only [hji8] at H ⊢;exact H)
     have hji8_ : (IntKind.u64.wrap (a0 * 2 ^ min (ji6).toNat 64)) = ji8 := hji8
     have hji8z : (ji6) ≤ 64 → (IntKind.u64.wrap (a0 * 2 ^ (ji6).toNat)) = ji8 := shl_small hji8
     (try (have hji8Z_ := hji8z (by omega)))
     by_cases c9 : ((ji8) / 9223372036854775808) = 1
     ·rw [if_pos c9] at H
      have c9b0 : (((ji8) / 9223372036854775808) == 1) = true := beq_iff_eq.mpr c9
      have c9b1 : (((ji8) / 9223372036854775808) != 1) = false := bne_eq_false_iff_eq.mpr c9
      clear c9
      replace H := Option.bind_eq_some_iff.mp H
      obtain ⟨t164, A100, H⟩ := H
      replace H : (some ((((ji8) / 9223372036854775808) == 1), mn t164 a1, none)) = some (r1, r2, r3) := H
      have A10 := am_ A100
      clear A100
      obtain ⟨ji11, hji11⟩ : ∃ j_ : Int, (mn t164 a1) = j_ := ⟨_, rfl⟩
      replace H : (some ((((ji8) / 9223372036854775808) == 1), ji11, none)) = some (r1, r2, r3) := by first | (rw [hji11] at H;exact H) | (simp only [hji11] at H ⊢;exact H)
      (try rw [hji11] at A10)
      have hji11_ : (if a1 < t164 then a1 else t164) = ji11 := hji11
      simp only [Option.some.injEq, Prod.mk.injEq] at H
      obtain ⟨rfl, rfl, rfl⟩ := H
      go_wp2_with (first | ((with_reducible refine gate_callee (f := 78) rfl ?_);refine goesL_ (some 27) rfl rfl Try.func78 (by kernel_rfl) rfl #[.int .u64 (Go.bits .xor .u64 18446744073709551615 (ji8))] rfl (by (try simp only [List.map_toArray, List.map_cons, List.map_nil]);first | done | (simp only [hji8];rfl) | rfl | (simp only [List.length_drop, List.length_take];rfl)) ?_;(with_reducible refine (bits_LeadingZeros64.calls (Go.bits .xor .u64 18446744073709551615 (ji8)) t164 _ A10.out).mono ?_);rintro e w' ⟨rfl, ⟨nd, rfl⟩⟩;refine ⟨_, rfl, ?_⟩))
      go_ret3
      exact ⟨by first | rfl | (simp [errW_none, errW_some] <;> rfl) | (simp only [← hji6, ← hji8, ← hji11];first | rfl | (simp [errW_none, errW_some] <;> rfl)) | (simp [*, errW_none, errW_some] <;> rfl), z3_ HB.out⟩
     ·rw [if_neg c9] at H
      have c9b0 : (((ji8) / 9223372036854775808) == 1) = false := beq_eq_false_iff_ne.mpr c9
      have c9b1 : (((ji8) / 9223372036854775808) != 1) = true := bne_iff_ne.mpr c9
      replace H := Option.bind_eq_some_iff.mp H
      obtain ⟨t165, A120, H⟩ := H
      replace H : (some ((((ji8) / 9223372036854775808) == 1), mn t165 a1, none)) = some (r1, r2, r3) := H
      have A12 := am_ A120
      clear A120
      obtain ⟨ji13, hji13⟩ : ∃ j_ : Int, (mn t165 a1) = j_ := ⟨_, rfl⟩
      replace H : (some ((((ji8) / 9223372036854775808) == 1), ji13, none)) = some (r1, r2, r3) := by first | (rw [hji13] at H;exact H) | (simp only [hji13] at H ⊢;exact H)
      (try rw [hji13] at A12)
      have hji13_ : (if a1 < t165 then a1 else t165) = ji13 := hji13
      simp only [Option.some.injEq, Prod.mk.injEq] at H
      obtain ⟨rfl, rfl, rfl⟩ := H
      go_wp2_with (first | ((with_reducible refine gate_callee (f := 78) rfl ?_);refine goesL_ (some 27) rfl rfl Try.func78 (by kernel_rfl) rfl #[.int .u64 ji8] rfl (by (try simp only [List.map_toArray, List.map_cons, List.map_nil]);first | done | (simp only [hji8];rfl) | rfl | (simp only [List.length_drop, List.length_take];rfl)) ?_;(with_reducible refine (bits_LeadingZeros64.calls ji8 t165 _ A12.out).mono ?_);rintro e w' ⟨rfl, ⟨nd, rfl⟩⟩;refine ⟨_, rfl, ?_⟩))
      go_ret3
      exact ⟨by first | rfl | (simp [errW_none, errW_some] <;> rfl) | (simp only [← hji6, ← hji8, ← hji13];first | rfl | (simp [errW_none, errW_some] <;> rfl)) | (simp [*, errW_none, errW_some] <;> rfl), z3_ HB.out⟩
    ·rw [if_neg c7] at H
     exact absurd H (by simp)
def lead_field.f (a0 : Int) (a1 : Int) : Option (Bool) := if a0 ≥ 0 then (if a0 ≤ 64 then (if a1 ≥ 0 then (some (decide (a1 ≤ (wrap64 (64 - a0))))) else (some false)) else (some false)) else (some false)
set_option maxHeartbeats 8000000 in
set_option maxRecDepth 100000 in
theorem lead_field.calls (a0 : Int) (a1 : Int) (r : Bool) (w : World) (h : lead_field.f a0 a1 = some r) :
  Calls Try.prog 79 #[.int .i64 a0,.int .i64 a1] w fun e w' => e = .returned (.bool r) ∧ Drawn0 w w' := by
 have H : (if a0 ≥ 0 then (if a0 ≤ 64 then (if a1 ≥ 0 then (some (decide (a1 ≤ (wrap64 (64 - a0))))) else (some false)) else (some false)) else (some false)) = some r := h
 clear h
 by_cases c3 : a0 ≥ 0
 ·rw [if_pos c3] at H
  have c3b0 : decide (0 ≤ a0) = true := decide_eq_true c3
  clear c3
  by_cases c4 : a0 ≤ 64
  ·rw [if_pos c4] at H
   have c4b0 : decide (a0 ≤ 64) = true := decide_eq_true c4
   clear c4
   by_cases c5 : a1 ≥ 0
   ·rw [if_pos c5] at H
    have c5b0 : decide (0 ≤ a1) = true := decide_eq_true c5
    clear c5
    obtain rfl := Option.some.inj H
    go_enter Try.func79, Try.ntmps79
    go_wp2
    go_ret
    exact ⟨by first | rfl | (simp;done) | (simp [*];done), by repeat (first | exact Drawn0.refl _ | apply Drawn0.step)⟩
   ·rw [if_neg c5] at H
    have c5b0 : decide (0 ≤ a1) = false := decide_eq_false c5
    clear c5
    obtain rfl := Option.some.inj H
    go_enter Try.func79, Try.ntmps79
    go_wp2
    go_ret
    exact ⟨by first | rfl | (simp;done) | (simp [*];done), by repeat (first | exact Drawn0.refl _ | apply Drawn0.step)⟩
  ·rw [if_neg c4] at H
   have c4b0 : decide (a0 ≤ 64) = false := decide_eq_false c4
   clear c4
   obtain rfl := Option.some.inj H
   go_enter Try.func79, Try.ntmps79
   go_wp2
   go_ret
   exact ⟨by first | rfl | (simp;done) | (simp [*];done), by repeat (first | exact Drawn0.refl _ | apply Drawn0.step)⟩
 ·rw [if_neg c3] at H
  have c3b0 : decide (0 ≤ a0) = false := decide_eq_false c3
  clear c3
  obtain rfl := Option.some.inj H
  go_enter Try.func79, Try.ntmps79
  go_wp2
  go_ret
  exact ⟨by first | rfl | (simp;done) | (simp [*];done), by repeat (first | exact Drawn0.refl _ | apply Drawn0.step)⟩
def lead_Field.f (a0 : Int) (a1 : Int) (a2 : Int) : Option (Int × Option Int) := (lead_field.f a1 a2).bind fun t166 => (if t166 = true then (if 0 ≤ a1 then ((lead_ones.f a2).bind fun t167 => (some (Go.bits .and .u64 (shr .u64 a0 a1) t167, none))) else (none)) else (some (0, some 1)))
set_option maxHeartbeats 8000000 in
set_option maxRecDepth 100000 in
theorem lead_Field.calls (a0 : Int) (a1 : Int) (a2 : Int) (r1 : Int) (r2 : Option Int) (w : World) (h : lead_Field.f a0 a1 a2 = some (r1, r2)) :
  Calls Try.prog 66 #[.int .u64 a0,.int .i64 a1,.int .i64 a2] w fun e w' => e = .returned (.tuple #[.int .u64 r1, errW r2]) ∧ Below w.heap.size w w' := by
 have hu29 := Try.underlying29
 have hu42 := Try.underlying42
 have HB := am_ (Below.refl w.heap.size w)
 have H : ((lead_field.f a1 a2).bind fun t166 => (if t166 = true then (if 0 ≤ a1 then ((lead_ones.f a2).bind fun t167 => (some (Go.bits .and .u64 (shr .u64 a0 a1) t167, none))) else (none)) else (some (0, some 1)))) = some (r1, r2) := h
 clear h
 replace H := Option.bind_eq_some_iff.mp H
 obtain ⟨t166, A40, H⟩ := H
 replace H : (if t166 = true then (if 0 ≤ a1 then ((lead_ones.f a2).bind fun t167 => (some (Go.bits .and .u64 (shr .u64 a0 a1) t167, none))) else (none)) else (some (0, some 1))) = some (r1, r2) := H
 have A4 := am_ A40
 clear A40
 by_cases c5 : t166 = true
 ·subst c5
  have H1 : (if 0 ≤ a1 then ((lead_ones.f a2).bind fun t167 => (some (Go.bits .and .u64 (shr .u64 a0 a1) t167, none))) else (none)) = some (r1, r2) := by rw [if_pos rfl] at H;exact H
  clear H
  have H := H1
  clear H1
  by_cases c6 : 0 ≤ a1
  ·rw [if_pos c6] at H
   have c6b0 := eq_true c6
   have c6b1 : decide (0 ≤ a1) = true := decide_eq_true c6
   clear c6
   obtain ⟨ji7, hji7⟩ : ∃ j_ : Int, (shr .u64 a0 a1) = j_ := ⟨_, rfl⟩
   replace H : ((lead_ones.f a2).bind fun t167 => (some (Go.bits .and .u64 (ji7) t167, none))) = some (r1, r2) := by first | (rw [hji7] at H;exact H) | (simp only [hji7] at H ⊢;exact H)
   (try rw [hji7] at A4)
   have hji7_ : (a0 / 2 ^ min a1.toNat 64) = ji7 := hji7
   have hji7z : a1 ≤ 64 → (a0 / 2 ^ a1.toNat) = ji7 := shr_small hji7
   (try (have hji7Z_ := hji7z (by omega)))
   replace H := Option.bind_eq_some_iff.mp H
   obtain ⟨t167, A80, H⟩ := H
   replace H : (some (Go.bits .and .u64 (ji7) t167, none)) = some (r1, r2) := H
   have A8 := am_ A80
   clear A80
   simp only [Option.some.injEq, Prod.mk.injEq] at H
   obtain ⟨rfl, rfl⟩ := H
   go_enter Try.func66, Try.ntmps66
   go_wp2_with (first | (go_at_call 79;(with_reducible refine (lead_field.calls a1 a2 true _ A4.out).mono ?_);rintro e w' ⟨rfl, ⟨nd, rfl⟩⟩;(try first | exact ⟨rfl, _, World.drewN_drewN _ _ _⟩ | exact ⟨rfl, _, Eq.trans (World.drewN_drewN _ _ _) (congrArg (World.drewN _) (Nat.add_assoc _ _ _))⟩)) | (go_at_call 80;(with_reducible refine (lead_ones.calls a2 t167 _ A8.out).mono ?_);rintro e w' ⟨rfl, ⟨nd, rfl⟩⟩;(try first | exact ⟨rfl, _, World.drewN_drewN _ _ _⟩ | exact ⟨rfl, _, Eq.trans (World.drewN_drewN _ _ _) (congrArg (World.drewN _) (Nat.add_assoc _ _ _))⟩)))
   repeat (go_quiet (first | (go_at_call 79;(with_reducible refine (lead_field.calls a1 a2 true _ A4.out).mono ?_);rintro e w' ⟨rfl, ⟨nd, rfl⟩⟩;(try first | exact ⟨rfl, _, World.drewN_drewN _ _ _⟩ | exact ⟨rfl, _, Eq.trans (World.drewN_drewN _ _ _) (congrArg (World.drewN _) (Nat.add_assoc _ _ _))⟩)) | (go_at_call 80;(with_reducible refine (lead_ones.calls a2 t167 _ A8.out).mono ?_);rintro e w' ⟨rfl, ⟨nd, rfl⟩⟩;(try first | exact ⟨rfl, _, World.drewN_drewN _ _ _⟩ | exact ⟨rfl, _, Eq.trans (World.drewN_drewN _ _ _) (congrArg (World.drewN _) (Nat.add_assoc _ _ _))⟩)));try go_wp2_with (first | (go_at_call 79;(with_reducible refine (lead_field.calls a1 a2 true _ A4.out).mono ?_);rintro e w' ⟨rfl, ⟨nd, rfl⟩⟩;(try first | exact ⟨rfl, _, World.drewN_drewN _ _ _⟩ | exact ⟨rfl, _, Eq.trans (World.drewN_drewN _ _ _) (congrArg (World.drewN _) (Nat.add_assoc _ _ _))⟩)) | (go_at_call 80;(with_reducible refine (lead_ones.calls a2 t167 _ A8.out).mono ?_);rintro e w' ⟨rfl, ⟨nd, rfl⟩⟩;(try first | exact ⟨rfl, _, World.drewN_drewN _ _ _⟩ | exact ⟨rfl, _, Eq.trans (World.drewN_drewN _ _ _) (congrArg (World.drewN _) (Nat.add_assoc _ _ _))⟩))))
   go_ret2
   exact ⟨by first | rfl | (simp [errW_none, errW_some] <;> rfl) | (simp only [← hji7];first | rfl | (simp [errW_none, errW_some] <;> rfl)) | (simp [*, errW_none, errW_some] <;> rfl), z3_ HB.out⟩
  ·rw [if_neg c6] at H
   exact absurd H (by simp)
 ·replace c5 := Bool.eq_false_iff.mpr c5
  subst c5
  have H1 : (some (0, some 1)) = some (r1, r2) := by rw [if_neg (show ¬ (false = true) by decide)] at H;exact H
  clear H
  have H := H1
  clear H1
  simp only [Option.some.injEq, Prod.mk.injEq] at H
  obtain ⟨rfl, rfl⟩ := H
  go_enter Try.func66, Try.ntmps66
  go_wp2_with (first | (go_at_call 79;(with_reducible refine (lead_field.calls a1 a2 false _ A4.out).mono ?_);rintro e w' ⟨rfl, ⟨nd, rfl⟩⟩;(try first | exact ⟨rfl, _, World.drewN_drewN _ _ _⟩ | exact ⟨rfl, _, Eq.trans (World.drewN_drewN _ _ _) (congrArg (World.drewN _) (Nat.add_assoc _ _ _))⟩)))
  repeat (go_quiet (first | (go_at_call 79;(with_reducible refine (lead_field.calls a1 a2 false _ A4.out).mono ?_);rintro e w' ⟨rfl, ⟨nd, rfl⟩⟩;(try first | exact ⟨rfl, _, World.drewN_drewN _ _ _⟩ | exact ⟨rfl, _, Eq.trans (World.drewN_drewN _ _ _) (congrArg (World.drewN _) (Nat.add_assoc _ _ _))⟩)));try go_wp2_with (first | (go_at_call 79;(with_reducible refine (lead_field.calls a1 a2 false _ A4.out).mono ?_);rintro e w' ⟨rfl, ⟨nd, rfl⟩⟩;(try first | exact ⟨rfl, _, World.drewN_drewN _ _ _⟩ | exact ⟨rfl, _, Eq.trans (World.drewN_drewN _ _ _) (congrArg (World.drewN _) (Nat.add_assoc _ _ _))⟩))))
  go_ret2
  exact ⟨z6_, z3_ HB.out⟩
mutual
def codec_Split.j0 : Nat → Int → Int → Option Int → Bool → Option (Bool × Bool × Int × Int × Int × Int × Int × Int × Option Int)
 | 0, _, _, _, _ => none
 | k + 1, x0, x1, x7, x25 => if x25 = true then (some (false,false,0, 0, 0, 0, 0, 0, x7)) else ((shape_Rank.f x0 x1).bind fun bt173 => (if bt173.1 < 0 then (codec_Split.j1 k x0 (IntKind.u64.wrap (-x1)) true false 0 0 0 0 0 0) else (codec_Split.j1 k x0 x1 false false 0 0 0 0 0 0)))
def codec_Split.j1 : Nat → Int → Int → Bool → Bool → Int → Int → Int → Int → Int → Int → Option (Bool × Bool × Int × Int × Int × Int × Int × Int × Option Int)
 | 0, _, _, _, _, _, _, _, _, _, _ => none
 | k + 1, x0, x1, x173000, x173001, x173002, x173003, x173004, x173005, x173006, x173007 => (lead_Run.f k x1 (wrap64 (x0 - 1))).bind fun bt175 => (if bt175.1 = true then ((lead_Field.f x1 (wrap64 ((mx (wrap64 ((wrap64 ((wrap64 (x0 - 1)) - bt175.2.1)) - 1)) 0) - (mn (mx (wrap64 ((wrap64 ((wrap64 (x0 - 1)) - bt175.2.1)) - 1)) 0) 2))) (mn (mx (wrap64 ((wrap64 ((wrap64 (x0 - 1)) - bt175.2.1)) - 1)) 0) 2)).bind fun bt178 => ((lead_Field.f x1 0 (wrap64 ((mx (wrap64 ((wrap64 ((wrap64 (x0 - 1)) - bt175.2.1)) - 1)) 0) - (mn (mx (wrap64 ((wrap64 ((wrap64 (x0 - 1)) - bt175.2.1)) - 1)) 0) 2)))).bind fun bt180 => (some (x173000, bt175.1, bt175.2.1, wrap64 (bt175.2.1 - 1), mn (mx (wrap64 ((wrap64 ((wrap64 (x0 - 1)) - bt175.2.1)) - 1)) 0) 2, shl .i64 (wrap64 (bt178.1)) (2 - (mn (mx (wrap64 ((wrap64 ((wrap64 (x0 - 1)) - bt175.2.1)) - 1)) 0) 2)), wrap64 ((mx (wrap64 ((wrap64 ((wrap64 (x0 - 1)) - bt175.2.1)) - 1)) 0) - (mn (mx (wrap64 ((wrap64 ((wrap64 (x0 - 1)) - bt175.2.1)) - 1)) 0) 2)), bt180.1, none)))) else ((lead_Field.f x1 (wrap64 ((mx (wrap64 ((wrap64 ((wrap64 (x0 - 1)) - bt175.2.1)) - 1)) 0) - (mn (mx (wrap64 ((wrap64 ((wrap64 (x0 - 1)) - bt175.2.1)) - 1)) 0) 2))) (mn (mx (wrap64 ((wrap64 ((wrap64 (x0 - 1)) - bt175.2.1)) - 1)) 0) 2)).bind fun bt182 => ((lead_Field.f x1 0 (wrap64 ((mx (wrap64 ((wrap64 ((wrap64 (x0 - 1)) - bt175.2.1)) - 1)) 0) - (mn (mx (wrap64 ((wrap64 ((wrap64 (x0 - 1)) - bt175.2.1)) - 1)) 0) 2)))).bind fun bt184 => (some (x173000, bt175.1, bt175.2.1, wrap64 (-bt175.2.1), mn (mx (wrap64 ((wrap64 ((wrap64 (x0 - 1)) - bt175.2.1)) - 1)) 0) 2, shl .i64 (wrap64 (bt182.1)) (2 - (mn (mx (wrap64 ((wrap64 ((wrap64 (x0 - 1)) - bt175.2.1)) - 1)) 0) 2)), wrap64 ((mx (wrap64 ((wrap64 ((wrap64 (x0 - 1)) - bt175.2.1)) - 1)) 0) - (mn (mx (wrap64 ((wrap64 ((wrap64 (x0 - 1)) - bt175.2.1)) - 1)) 0) 2)), bt184.1, none)))))
end
def codec_Split.f (k : Nat) (a0 : Int) (a1 : Int) : Option (Bool × Bool × Int × Int × Int × Int × Int × Int × Option Int) := (shape_Kind.f a0 a1).bind fun bt169 => (if bt169.2.isNone = true then (codec_Split.j0 k a0 a1 none (bt169.1 != 1)) else (codec_Split.j0 k a0 a1 (some (bt169.2.getD 0)) true))
theorem codec_Split.mono_l : ∀ k, (∀ y0 y1 y2 y3, LeO (codec_Split.j0 k y0 y1 y2 y3) (codec_Split.j0 (k + 1) y0 y1 y2 y3)) ∧ (∀ y0 y1 y2 y3 y4 y5 y6 y7 y8 y9, LeO (codec_Split.j1 k y0 y1 y2 y3 y4 y5 y6 y7 y8 y9) (codec_Split.j1 (k + 1) y0 y1 y2 y3 y4 y5 y6 y7 y8 y9))
 | 0 => ⟨fun _ _ _ _ r h => by simp [codec_Split.j0] at h, fun _ _ _ _ _ _ _ _ _ _ r h => by simp [codec_Split.j1] at h⟩
 | k + 1 => by
  obtain ⟨ih0, ih1⟩ := codec_Split.mono_l k
  refine ⟨?_, ?_⟩
  ·intro y0 y1 y2 y3
   unfold codec_Split.j0
   repeat' first
   | (with_reducible exact ih0 _ _ _ _)
   | (with_reducible exact ih1 _ _ _ _ _ _ _ _ _ _)
   | (with_reducible exact lead_Run.mono _ _ _)
   | (with_reducible exact LeO.refl _)
   | (with_reducible exact LeO.none _)
   | (with_reducible refine LeO.ite ?_ ?_)
   | (with_reducible refine LeO.bind ?_ (fun _ => ?_))
   | exact ih0 _ _ _ _
   | exact ih1 _ _ _ _ _ _ _ _ _ _
   | exact lead_Run.mono _ _ _
   | exact LeO.none _
   | refine LeO.ite ?_ ?_
   | refine LeO.bind ?_ (fun _ => ?_)
  ·intro y0 y1 y2 y3 y4 y5 y6 y7 y8 y9
   unfold codec_Split.j1
   repeat' first
   | (with_reducible exact ih0 _ _ _ _)
   | (with_reducible exact ih1 _ _ _ _ _ _ _ _ _ _)
   | (with_reducible exact lead_Run.mono _ _ _)
   | (with_reducible exact LeO.refl _)
   | (with_reducible exact LeO.none _)
   | (with_reducible refine LeO.ite ?_ ?_)
   | (with_reducible refine LeO.bind ?_ (fun _ => ?_))
   | exact ih0 _ _ _ _
   | exact ih1 _ _ _ _ _ _ _ _ _ _
   | exact lead_Run.mono _ _ _
   | exact LeO.none _
   | refine LeO.ite ?_ ?_
   | refine LeO.bind ?_ (fun _ => ?_)
theorem codec_Split.mono : ∀ a0 a1 k, LeO (codec_Split.f k a0 a1) (codec_Split.f (k + 1) a0 a1) := by
 intro a0 a1 k
 obtain ⟨ih0, ih1⟩ := codec_Split.mono_l k
 unfold codec_Split.f
 repeat' first
   | (with_reducible exact ih0 _ _ _ _)
   | (with_reducible exact ih1 _ _ _ _ _ _ _ _ _ _)
   | (with_reducible exact lead_Run.mono _ _ _)
   | (with_reducible exact LeO.refl _)
   | (with_reducible exact LeO.none _)
   | (with_reducible refine LeO.ite ?_ ?_)
   | (with_reducible refine LeO.bind ?_ (fun _ => ?_))
   | exact ih0 _ _ _ _
   | exact ih1 _ _ _ _ _ _ _ _ _ _
   | exact lead_Run.mono _ _ _
   | exact LeO.none _
   | refine LeO.ite ?_ ?_
   | refine LeO.bind ?_ (fun _ => ?_)
set_option maxHeartbeats 8000000 in
set_option maxRecDepth 100000 in
theorem codec_Split.calls (k : Nat) (a0 : Int) (a1 : Int) (r1 : Bool) (r2 : Bool) (r3 : Int) (r4 : Int) (r5 : Int) (r6 : Int) (r7 : Int) (r8 : Int) (r9 : Option Int) (w : World) (h : codec_Split.f k a0 a1 = some (r1, r2, r3, r4, r5, r6, r7, r8, r9)) :
  Calls Try.prog 48 #[.int .i64 a0,.int .u64 a1] w fun e w' => e = .returned (.tuple #[.agg #[.bool r1,.bool r2,.int .i64 r3,.int .i64 r4,.int .i64 r5,.int .i64 r6,.int .i64 r7,.int .u64 r8], errW r9]) ∧ Below w.heap.size w w' := by
 have hu86 := Try.underlying86
 have hu29 := Try.underlying29
 have hu42 := Try.underlying42
 have HB := am_ (Below.refl w.heap.size w)
 have H : ((shape_Kind.f a0 a1).bind fun bt169 => (if bt169.2.isNone = true then (codec_Split.j0 k a0 a1 none (bt169.1 != 1)) else (codec_Split.j0 k a0 a1 (some (bt169.2.getD 0)) true))) = some (r1, r2, r3, r4, r5, r6, r7, r8, r9) := h
 clear h
 replace H := Option.bind_eq_some_iff.mp H
 obtain ⟨⟨t169, t170⟩, A30, H⟩ := H
 replace H : (if t170.isNone = true then (codec_Split.j0 k a0 a1 none (t169 != 1)) else (codec_Split.j0 k a0 a1 (some (t170.getD 0)) true)) = some (r1, r2, r3, r4, r5, r6, r7, r8, r9) := H
 have A3 := am_ A30
 clear A30
 have HC4 := am_ H
 clear H
 go_enter Try.func48, Try.ntmps48
 go_upto_region 2 with (first | ((with_reducible refine gate_dst (N := 4) rfl ?_);refine box_event ?hg (N := 4) ?hd (cs := #[.bool false,.bool false,.int .i64 0,.int .i64 0,.int .i64 0,.int .i64 0,.int .i64 0,.int .u64 0]) (t := 86) ?hr ?_;(case hd => rfl);(case hg => rfl);(case hr => first | (go_simp;done) | (go_simp;rfl));intro gb168 hg w5 hbox hb;have n0_ := am_ (below_step (z3_ HB.out) hb);have n1_ := am_ (hbox);have n2_ := am_ ((by rw [hg];exact (below_size (z3_ HB.out)) : w.heap.size ≤ gb168));have n3_ := am_ ((by rw [hg];exact (below_size (z3_ HB.out)) : w.heap.size ≤ gb168));clear HB;have HB := n0_;have BK168 := n1_;have GW168 := n2_;have GE168 := n3_;clear n0_ n1_ n2_ n3_;clear hb hbox hg) | ((with_reducible refine gate_callee (f := 47) rfl ?_);refine goesL_ (some 17) rfl rfl Try.func47 (by kernel_rfl) rfl #[.int .i64 a0,.int .u64 a1] rfl z5_ ?_;(with_reducible refine (shape_Kind.calls a0 a1 t169 t170 _ A3.out).mono ?_);rintro e w' ⟨rfl, ⟨nd, rfl⟩⟩;refine ⟨_, rfl, ?_⟩;(try simp only [errW_none, errW_some])))
 (try simp only [Act.put, List.setIfInBounds_toArray, List.set_cons_zero, List.set_cons_succ])
 go_cut [25] (fun v25 wc => ∃ (kq : Nat) (x25_3 : Bool), v25 = .bool x25_3 ∧ Aside0 (codec_Split.j0 kq a0 a1 t170 x25_3 = some (r1, r2, r3, r4, r5, r6, r7, r8, r9)) ∧ Aside0 (kq ≤ k) ∧ Aside0 (wc.heap[gb168]? = some (.cells #[.bool false,.bool false,.int .i64 0,.int .i64 0,.int .i64 0,.int .i64 0,.int .i64 0,.int .u64 0] 86 (0, 0))) ∧ Aside0 (Below w.heap.size w wc))
 case first =>
  have H := HC4.out
  clear HC4
  rcases t170 with _ | q171
  ·have H1 : (codec_Split.j0 k a0 a1 none (t169 != 1)) = some (r1, r2, r3, r4, r5, r6, r7, r8, r9) := by rw [if_pos (show (none : Option Int).isNone = true by rfl)] at H;exact H
   clear H
   have H := H1
   clear H1
   try simp only [errW_none, errW_some]
   have H' := am_ H
   clear H
   go_wp2
   go_meet
   case rel => exact ⟨_, ((t169 != 1)), (by first | rfl | (simp;done) | (simp [*];done)), H', ⟨by first | omega | exact Nat.le_refl _⟩, ⟨by refine z2_ ?_;exact BK168.out⟩, ⟨z3_ HB.out⟩⟩
  ·have H1 : (codec_Split.j0 k a0 a1 (some q171) true) = some (r1, r2, r3, r4, r5, r6, r7, r8, r9) := by rw [if_neg (show ¬ (some q171).isNone = true by simp)] at H;exact H
   clear H
   have H := H1
   clear H1
   try simp only [errW_none, errW_some]
   have H' := am_ H
   clear H
   go_wp2
   go_meet
   case rel => exact ⟨_, (true), (by first | rfl | (simp;done) | (simp [*];done)), H', ⟨by first | omega | exact Nat.le_refl _⟩, ⟨by refine z2_ ?_;exact BK168.out⟩, ⟨z3_ HB.out⟩⟩
 case rest =>
  clear HC4
  obtain ⟨kq, x25_3, rfl, HA, HJ3, BK168, HB⟩ := hcut
  cases kq with
  | zero => exact absurd HA.out (by simp [codec_Split.j0])
  | succ kj3 =>
   have H := HA.out
   clear HA
   simp only [codec_Split.j0] at H
   by_cases c6 : x25_3 = true
   ·subst c6
    have H1 : (some (false,false,0, 0, 0, 0, 0, 0, t170)) = some (r1, r2, r3, r4, r5, r6, r7, r8, r9) := by rw [if_pos rfl] at H;exact H
    clear H
    have H := H1
    clear H1
    simp only [Option.some.injEq, Prod.mk.injEq] at H
    obtain ⟨rfl, rfl, rfl, rfl, rfl, rfl, rfl, rfl, rfl⟩ := H
    obtain ⟨hcz7_0, hcz7_1, hcz7_2, hcz7_3, hcz7_4, hcz7_5, hcz7_6, hcz7_7, hfz7_0⟩ := zc8_ BK168.out
    go_wp2
    refine bodyPost_ret (results_ct rfl _ _ gb168 86 #[.bool false,.bool false,.int .i64 0,.int .i64 0,.int .i64 0,.int .i64 0,.int .i64 0,.int .u64 0] (0, 0) _ rfl (by refine z2_ ?_;refine blk_put (cs := #[.bool false,.bool false,.int .i64 0,.int .i64 0,.int .i64 0,.int .i64 0,.int .i64 0,.int .u64 0]) ?_ 7 _ rfl;refine z2_ ?_;refine blk_put (cs := #[.bool false,.bool false,.int .i64 0,.int .i64 0,.int .i64 0,.int .i64 0,.int .i64 0,.int .u64 0]) ?_ 6 _ rfl;refine z2_ ?_;refine blk_put (cs := #[.bool false,.bool false,.int .i64 0,.int .i64 0,.int .i64 0,.int .i64 0,.int .i64 0,.int .u64 0]) ?_ 5 _ rfl;refine z2_ ?_;refine blk_put (cs := #[.bool false,.bool false,.int .i64 0,.int .i64 0,.int .i64 0,.int .i64 0,.int .i64 0,.int .u64 0]) ?_ 4 _ rfl;refine z2_ ?_;refine blk_put (cs := #[.bool false,.bool false,.int .i64 0,.int .i64 0,.int .i64 0,.int .i64 0,.int .i64 0,.int .u64 0]) ?_ 3 _ rfl;refine z2_ ?_;refine blk_put (cs := #[.bool false,.bool false,.int .i64 0,.int .i64 0,.int .i64 0,.int .i64 0,.int .i64 0,.int .u64 0]) ?_ 2 _ rfl;refine z2_ ?_;refine blk_put (cs := #[.bool false,.bool false,.int .i64 0,.int .i64 0,.int .i64 0,.int .i64 0,.int .i64 0,.int .u64 0]) ?_ 1 _ rfl;refine z2_ ?_;refine blk_put (cs := #[.bool false,.bool false,.int .i64 0,.int .i64 0,.int .i64 0,.int .i64 0,.int .i64 0,.int .u64 0]) ?_ 0 _ rfl;refine z2_ ?_;exact BK168.out) Try.underlying86 rfl (by kernel_rfl)) rfl ?_
    exact ⟨z6_, z3_ HB.out⟩
   ·replace c6 := Bool.eq_false_iff.mpr c6
    subst c6
    have H1 : ((shape_Rank.f a0 a1).bind fun bt173 => (if bt173.1 < 0 then (codec_Split.j1 kj3 a0 (IntKind.u64.wrap (-a1)) true false 0 0 0 0 0 0) else (codec_Split.j1 kj3 a0 a1 false false 0 0 0 0 0 0))) = some (r1, r2, r3, r4, r5, r6, r7, r8, r9) := by rw [if_neg (show ¬ (false = true) by decide)] at H;exact H
    clear H
    have H := H1
    clear H1
    replace H := Option.bind_eq_some_iff.mp H
    obtain ⟨⟨t173, t174⟩, A80, H⟩ := H
    replace H : (if t173 < 0 then (codec_Split.j1 kj3 a0 (IntKind.u64.wrap (-a1)) true false 0 0 0 0 0 0) else (codec_Split.j1 kj3 a0 a1 false false 0 0 0 0 0 0)) = some (r1, r2, r3, r4, r5, r6, r7, r8, r9) := H
    have A8 := am_ A80
    clear A80
    have HC9 := am_ H
    clear H
    go_upto_if 35 with (first | ((with_reducible refine gate_dst (N := 8) rfl ?_);refine box_event ?hg (N := 8) ?hd (cs := #[.bool false,.bool false,.int .i64 0,.int .i64 0,.int .i64 0,.int .i64 0,.int .i64 0,.int .u64 0]) (t := 86) ?hr ?_;(case hd => rfl);(case hg => rfl);(case hr => first | (go_simp;done) | (go_simp;rfl));intro gb172 hg w10 hbox hb;have n0_ := am_ (blk_below (g := gb168) (z1_ BK168.out) hb);have n1_ := am_ (below_step (z3_ HB.out) hb);have n2_ := am_ (hbox);have n3_ := am_ ((by rw [hg];exact (below_size (z3_ HB.out)) : w.heap.size ≤ gb172));have n4_ := am_ ((by rw [hg];exact (below_size (z3_ HB.out)) : w.heap.size ≤ gb172));have n5_ := am_ ((by rw [hg];exact Nat.ne_of_lt (blk_lt (g := gb168) (o := .cells #[.bool false,.bool false,.int .i64 0,.int .i64 0,.int .i64 0,.int .i64 0,.int .i64 0,.int .u64 0] 86 (0, 0)) (z1_ BK168.out)) : gb168 ≠ gb172));have n6_ := am_ ((by rw [hg];exact Nat.ne_of_gt (blk_lt (g := gb168) (o := .cells #[.bool false,.bool false,.int .i64 0,.int .i64 0,.int .i64 0,.int .i64 0,.int .i64 0,.int .u64 0] 86 (0, 0)) (z1_ BK168.out)) : gb172 ≠ gb168));clear BK168;clear HB;have BK168 := n0_;have HB := n1_;have BK172 := n2_;have GW172 := n3_;have GE172 := n4_;have NB168_172 := n5_;have NB172_168 := n6_;clear n0_ n1_ n2_ n3_ n4_ n5_ n6_;clear hb hbox hg) | ((with_reducible refine gate_callee (f := 64) rfl ?_);refine goesL_ (some 31) rfl rfl Try.func64 (by kernel_rfl) rfl #[.int .i64 a0,.int .u64 a1] rfl z5_ ?_;(with_reducible refine (shape_Rank.calls a0 a1 t173 t174 _ A8.out).mono ?_);rintro e w' ⟨rfl, ⟨nd, rfl⟩⟩;refine ⟨_, rfl, ?_⟩;(try simp only [errW_none, errW_some])))
    (try simp only [Act.put, List.setIfInBounds_toArray, List.set_cons_zero, List.set_cons_succ])
    go_cut [1] (fun v1 wc => ∃ (kq : Nat) (x1_8 : Int) (x173000_8 : Bool), v1 = .int .u64 x1_8 ∧ Aside0 (codec_Split.j1 kq a0 x1_8 x173000_8 false 0 0 0 0 0 0 = some (r1, r2, r3, r4, r5, r6, r7, r8, r9)) ∧ Aside0 (kq ≤ kj3) ∧ Aside0 (wc.heap[gb168]? = some (.cells #[.bool false,.bool false,.int .i64 0,.int .i64 0,.int .i64 0,.int .i64 0,.int .i64 0,.int .u64 0] 86 (0, 0))) ∧ Aside0 (wc.heap[gb172]? = some (.cells #[.bool x173000_8,.bool false,.int .i64 0,.int .i64 0,.int .i64 0,.int .i64 0,.int .i64 0,.int .u64 0] 86 (0, 0))) ∧ Aside0 (Below w.heap.size w wc))
    case first =>
     have H := HC9.out
     clear HC9
     by_cases c11 : t173 < 0
     ·rw [if_pos c11] at H
      have c11b0 : decide (t173 < 0) = true := decide_eq_true c11
      clear c11
      (first | rw [c11b0] | (simp only [i64_w, i32_w];rw [c11b0]) | skip)
      have H' := am_ H
      clear H
      have hnb12 := NB172_168.out
      have hnc12 := NB168_172.out
      obtain ⟨hcz13_0, hcz13_1, hcz13_2, hcz13_3, hcz13_4, hcz13_5, hcz13_6, hcz13_7, hfz13_0⟩ := zc8_ BK172.out
      go_wp2
      go_meet
      case rel => exact ⟨_, (IntKind.u64.wrap (-a1)), (true), (by first | rfl | (simp;done) | (simp [*];done)), H', ⟨by have := HJ3.out;first | omega | exact Nat.le_refl _⟩, ⟨by refine z2_ ?_;refine blk_far ?_ NB168_172.out _;refine z2_ ?_;exact BK168.out⟩, ⟨by refine z2_ ?_;refine blk_put (cs := #[.bool false,.bool false,.int .i64 0,.int .i64 0,.int .i64 0,.int .i64 0,.int .i64 0,.int .u64 0]) ?_ 0 _ rfl;refine z2_ ?_;exact BK172.out⟩, ⟨z3_ HB.out⟩⟩
     ·rw [if_neg c11] at H
      have c11b0 : decide (t173 < 0) = false := decide_eq_false c11
      clear c11
      (first | rw [c11b0] | (simp only [i64_w, i32_w];rw [c11b0]) | skip)
      have H' := am_ H
      clear H
      go_wp2
      go_meet
      case rel => exact ⟨_, (a1), (false), (by first | rfl | (simp;done) | (simp [*];done)), H', ⟨by have := HJ3.out;first | omega | exact Nat.le_refl _⟩, ⟨by refine z2_ ?_;exact BK168.out⟩, ⟨by refine z2_ ?_;exact BK172.out⟩, ⟨z3_ HB.out⟩⟩
    case rest =>
     clear HC9
     try clear c6
     obtain ⟨kq, x1_8, x173000_8, rfl, HA, HJ8, BK168, BK172, HB⟩ := hcut
     cases kq with
     | zero => exact absurd HA.out (by simp [codec_Split.j1])
     | succ kj8 =>
      have H := HA.out
      clear HA
      simp only [codec_Split.j1] at H
      replace H := Option.bind_eq_some_iff.mp H
      obtain ⟨⟨t175, t176, t177⟩, A140, H⟩ := H
      replace H : (if t175 = true then ((lead_Field.f x1_8 (wrap64 ((mx (wrap64 ((wrap64 ((wrap64 (a0 - 1)) - t176)) - 1)) 0) - (mn (mx (wrap64 ((wrap64 ((wrap64 (a0 - 1)) - t176)) - 1)) 0) 2))) (mn (mx (wrap64 ((wrap64 ((wrap64 (a0 - 1)) - t176)) - 1)) 0) 2)).bind fun bt178 => ((lead_Field.f x1_8 0 (wrap64 ((mx (wrap64 ((wrap64 ((wrap64 (a0 - 1)) - t176)) - 1)) 0) - (mn (mx (wrap64 ((wrap64 ((wrap64 (a0 - 1)) - t176)) - 1)) 0) 2)))).bind fun bt180 => (some (x173000_8, t175, t176, wrap64 (t176 - 1), mn (mx (wrap64 ((wrap64 ((wrap64 (a0 - 1)) - t176)) - 1)) 0) 2, shl .i64 (wrap64 (bt178.1)) (2 - (mn (mx (wrap64 ((wrap64 ((wrap64 (a0 - 1)) - t176)) - 1)) 0) 2)), wrap64 ((mx (wrap64 ((wrap64 ((wrap64 (a0 - 1)) - t176)) - 1)) 0) - (mn (mx (wrap64 ((wrap64 ((wrap64 (a0 - 1)) - t176)) - 1)) 0) 2)), bt180.1, none)))) else ((lead_Field.f x1_8 (wrap64 ((mx (wrap64 ((wrap64 ((wrap64 (a0 - 1)) - t176)) - 1)) 0) - (mn (mx (wrap64 ((wrap64 ((wrap64 (a0 - 1)) - t176)) - 1)) 0) 2))) (mn (mx (wrap64 ((wrap64 ((wrap64 (a0 - 1)) - t176)) - 1)) 0) 2)).bind fun bt182 => ((lead_Field.f x1_8 0 (wrap64 ((mx (wrap64 ((wrap64 ((wrap64 (a0 - 1)) - t176)) - 1)) 0) - (mn (mx (wrap64 ((wrap64 ((wrap64 (a0 - 1)) - t176)) - 1)) 0) 2)))).bind fun bt184 => (some (x173000_8, t175, t176, wrap64 (-t176), mn (mx (wrap64 ((wrap64 ((wrap64 (a0 - 1)) - t176)) - 1)) 0) 2, shl .i64 (wrap64 (bt182.1)) (2 - (mn (mx (wrap64 ((wrap64 ((wrap64 (a0 - 1)) - t176)) - 1)) 0) 2)), wrap64 ((mx (wrap64 ((wrap64 ((wrap64 (a0 - 1)) - t176)) - 1)) 0) - (mn (mx (wrap64 ((wrap64 ((wrap64 (a0 - 1)) - t176)) - 1)) 0) 2)), bt184.1, none))))) = some (r1, r2, r3, r4, r5, r6, r7, r8, r9) := H
      have A14 := am_ A140
      clear A140
      by_cases c15 : t175 = true
      ·subst c15
       have H1 : ((lead_Field.f x1_8 (wrap64 ((mx (wrap64 ((wrap64 ((wrap64 (a0 - 1)) - t176)) - 1)) 0) - (mn (mx (wrap64 ((wrap64 ((wrap64 (a0 - 1)) - t176)) - 1)) 0) 2))) (mn (mx (wrap64 ((wrap64 ((wrap64 (a0 - 1)) - t176)) - 1)) 0) 2)).bind fun bt178 => ((lead_Field.f x1_8 0 (wrap64 ((mx (wrap64 ((wrap64 ((wrap64 (a0 - 1)) - t176)) - 1)) 0) - (mn (mx (wrap64 ((wrap64 ((wrap64 (a0 - 1)) - t176)) - 1)) 0) 2)))).bind fun bt180 => (some (x173000_8, true,t176, wrap64 (t176 - 1), mn (mx (wrap64 ((wrap64 ((wrap64 (a0 - 1)) - t176)) - 1)) 0) 2, shl .i64 (wrap64 (bt178.1)) (2 - (mn (mx (wrap64 ((wrap64 ((wrap64 (a0 - 1)) - t176)) - 1)) 0) 2)), wrap64 ((mx (wrap64 ((wrap64 ((wrap64 (a0 - 1)) - t176)) - 1)) 0) - (mn (mx (wrap64 ((wrap64 ((wrap64 (a0 - 1)) - t176)) - 1)) 0) 2)), bt180.1, none)))) = some (r1, r2, r3, r4, r5, r6, r7, r8, r9) := by rw [if_pos rfl] at H;exact H
       clear H
       have H := H1
       clear H1
       obtain ⟨ji16, hji16⟩ : ∃ j_ : Int, (mx (wrap64 ((wrap64 ((wrap64 (a0 - 1)) - t176)) - 1)) 0) = j_ := ⟨_, rfl⟩
       replace H : ((lead_Field.f x1_8 (wrap64 ((ji16) - (mn (ji16) 2))) (mn (ji16) 2)).bind fun bt178 => ((lead_Field.f x1_8 0 (wrap64 ((ji16) - (mn (ji16) 2)))).bind fun bt180 => (some (x173000_8, true,t176, wrap64 (t176 - 1), mn (ji16) 2, shl .i64 (wrap64 (bt178.1)) (2 - (mn (ji16) 2)), wrap64 ((ji16) - (mn (ji16) 2)), bt180.1, none)))) = some (r1, r2, r3, r4, r5, r6, r7, r8, r9) := by first | (rw [hji16] at H;exact H) | (simp only [hji16] at H ⊢;exact H)
       (try rw [hji16] at A14)
       (try (have hji16l : 0 ≤ ji16 := by (rw [← hji16];unfold mx;(repeat' split) <;> omega)))
       (try (have hji16m : 0 ≤ ji16 := by omega))
       have hji16_ : (if (wrap64 ((wrap64 ((wrap64 (a0 - 1)) - t176)) - 1)) < 0 then 0 else (wrap64 ((wrap64 ((wrap64 (a0 - 1)) - t176)) - 1))) = ji16 := hji16
       obtain ⟨ji17, hji17⟩ : ∃ j_ : Int, (mn (ji16) 2) = j_ := ⟨_, rfl⟩
       replace H : ((lead_Field.f x1_8 (wrap64 ((ji16) - (ji17))) (ji17)).bind fun bt178 => ((lead_Field.f x1_8 0 (wrap64 ((ji16) - (ji17)))).bind fun bt180 => (some (x173000_8, true,t176, wrap64 (t176 - 1), ji17, shl .i64 (wrap64 (bt178.1)) (2 - (ji17)), wrap64 ((ji16) - (ji17)), bt180.1, none)))) = some (r1, r2, r3, r4, r5, r6, r7, r8, r9) := by first | (rw [hji17] at H;exact H) | (simp only [hji17] at H ⊢;exact H)
       (try rw [hji17] at A14)
       (try (have hji17h : ji17 ≤ 2 := by (rw [← hji17];unfold mn;(repeat' split) <;> omega)))
       (try (have hji17g : ji17 ≤ 64 := by omega))
       (try (have hji17l : 0 ≤ ji17 := by (rw [← hji17];unfold mn;(repeat' split) <;> omega)))
       (try (have hji17m : 0 ≤ ji17 := by omega))
       have hji17_ : (if 2 < (ji16) then 2 else (ji16)) = ji17 := hji17
       replace H := Option.bind_eq_some_iff.mp H
       obtain ⟨⟨t178, t179⟩, A180, H⟩ := H
       replace H : ((lead_Field.f x1_8 0 (wrap64 ((ji16) - (ji17)))).bind fun bt180 => (some (x173000_8, true,t176, wrap64 (t176 - 1), ji17, shl .i64 (wrap64 (t178)) (2 - (ji17)), wrap64 ((ji16) - (ji17)), bt180.1, none))) = some (r1, r2, r3, r4, r5, r6, r7, r8, r9) := H
       have A18 := am_ A180
       clear A180
       obtain ⟨ji19, hji19⟩ : ∃ j_ : Int, (shl .i64 (wrap64 (t178)) (2 - (ji17))) = j_ := ⟨_, rfl⟩
       replace H : ((lead_Field.f x1_8 0 (wrap64 ((ji16) - (ji17)))).bind fun bt180 => (some (x173000_8, true,t176, wrap64 (t176 - 1), ji17, ji19, wrap64 ((ji16) - (ji17)), bt180.1, none))) = some (r1, r2, r3, r4, r5, r6, r7, r8, r9) := by first | (rw [hji19] at H;exact H) | (simp only [hji19] at H ⊢;exact H)
       (try rw [hji19] at A14)
       (try rw [hji19] at A18)
       have hji19_ : (IntKind.i64.wrap ((wrap64 (t178)) * 2 ^ min (2 - (ji17)).toNat 64)) = ji19 := hji19
       have hji19z : (2 - (ji17)) ≤ 64 → (IntKind.i64.wrap ((wrap64 (t178)) * 2 ^ (2 - (ji17)).toNat)) = ji19 := shl_small hji19
       (try (have hji19Z_ := hji19z (by omega)))
       have hji19y : (wrap64 ((wrap64 (t178)) * 2 ^ min (2 - (ji17)).toNat 64)) = ji19 := (i64_w _).symm.trans hji19_
       have hji19x : (2 - (ji17)) ≤ 64 → (wrap64 ((wrap64 (t178)) * 2 ^ (2 - (ji17)).toNat)) = ji19 := fun h_ => (i64_w _).symm.trans (hji19z h_)
       (try (have hji19X_ := hji19x (by omega)))
       replace H := Option.bind_eq_some_iff.mp H
       obtain ⟨⟨t180, t181⟩, A200, H⟩ := H
       replace H : (some (x173000_8, true,t176, wrap64 (t176 - 1), ji17, ji19, wrap64 ((ji16) - (ji17)), t180, none)) = some (r1, r2, r3, r4, r5, r6, r7, r8, r9) := H
       have A20 := am_ A200
       clear A200
       simp only [Option.some.injEq, Prod.mk.injEq] at H
       obtain ⟨rfl, rfl, rfl, rfl, rfl, rfl, rfl, rfl, rfl⟩ := H
       go_wp2_with (first | ((with_reducible refine gate_callee (f := 65) rfl ?_);refine goesL_ (some 44) rfl rfl Try.func65 (by kernel_rfl) rfl #[.int .u64 x1_8,.int .i64 (wrap64 (a0 - 1))] rfl z5_ ?_;(with_reducible refine (lead_Run.calls kj8 x1_8 (wrap64 (a0 - 1)) true t176 t177 _ A14.out).mono ?_);rintro e w21 ⟨rfl, hb⟩;refine ⟨_, rfl, ?_⟩;have n0_ := am_ (blk_below (g := gb168) (z1_ BK168.out) hb);have n1_ := am_ (blk_below (g := gb172) (z1_ BK172.out) hb);have n2_ := am_ (below_step (z3_ HB.out) hb);clear BK168;clear BK172;clear HB;have BK168 := n0_;have BK172 := n1_;have HB := n2_;clear n0_ n1_ n2_;(try clear hb);(try simp only [errW_none, errW_some]);have hnb22 := NB172_168.out;have hnc22 := NB168_172.out;obtain ⟨hcz23_0, hcz23_1, hcz23_2, hcz23_3, hcz23_4, hcz23_5, hcz23_6, hcz23_7, hfz23_0⟩ := zc8_ BK172.out) | ((with_reducible refine gate_callee (f := 66) rfl ?_);refine goesL_ (some 78) rfl rfl Try.func66 (by kernel_rfl) rfl #[.int .u64 x1_8,.int .i64 (wrap64 ((ji16) - (ji17))),.int .i64 ji17] rfl (by (try simp only [List.map_toArray, List.map_cons, List.map_nil]);first | done | (simp only [hji16, hji17];rfl) | rfl | (simp only [List.length_drop, List.length_take];rfl)) ?_;(with_reducible refine (lead_Field.calls x1_8 (wrap64 ((ji16) - (ji17))) ji17 t178 t179 _ A18.out).mono ?_);rintro e w24 ⟨rfl, hb⟩;refine ⟨_, rfl, ?_⟩;have n0_ := am_ (blk_below (g := gb168) (o := .cells #[.bool false,.bool false,.int .i64 0,.int .i64 0,.int .i64 0,.int .i64 0,.int .i64 0,.int .u64 0] 86 (0, 0)) (by refine z2_ ?_;refine blk_far ?_ NB168_172.out _;refine z2_ ?_;refine blk_far ?_ NB168_172.out _;refine z2_ ?_;refine blk_far ?_ NB168_172.out _;refine z2_ ?_;refine blk_far ?_ NB168_172.out _;refine z2_ ?_;refine blk_far ?_ NB168_172.out _;refine z2_ ?_;exact BK168.out) hb);have n1_ := am_ (blk_below (g := gb172) (o := .cells #[.bool x173000_8,.bool true,.int .i64 t176,.int .i64 (wrap64 (t176 - 1)),.int .i64 ji17,.int .i64 0,.int .i64 0,.int .u64 0] 86 (0, 0)) (by refine z2_ ?_;refine blk_put (cs := #[.bool x173000_8,.bool true,.int .i64 t176,.int .i64 (wrap64 (t176 - 1)),.int .i64 0,.int .i64 0,.int .i64 0,.int .u64 0]) ?_ 4 _ rfl;refine z2_ ?_;refine blk_put (cs := #[.bool x173000_8,.bool true,.int .i64 t176,.int .i64 (wrap64 (-t176)),.int .i64 0,.int .i64 0,.int .i64 0,.int .u64 0]) ?_ 3 _ rfl;refine z2_ ?_;refine blk_put (cs := #[.bool x173000_8,.bool true,.int .i64 t176,.int .i64 0,.int .i64 0,.int .i64 0,.int .i64 0,.int .u64 0]) ?_ 3 _ rfl;refine z2_ ?_;refine blk_put (cs := #[.bool x173000_8,.bool true,.int .i64 0,.int .i64 0,.int .i64 0,.int .i64 0,.int .i64 0,.int .u64 0]) ?_ 2 _ rfl;refine z2_ ?_;refine blk_put (cs := #[.bool x173000_8,.bool false,.int .i64 0,.int .i64 0,.int .i64 0,.int .i64 0,.int .i64 0,.int .u64 0]) ?_ 1 _ rfl;refine z2_ ?_;exact BK172.out) hb);have n2_ := am_ (below_step (z3_ HB.out) hb);clear BK168;clear BK172;clear HB;have BK168 := n0_;have BK172 := n1_;have HB := n2_;clear n0_ n1_ n2_;(try clear hb);(try simp only [errW_none, errW_some]);obtain ⟨hcz25_0, hcz25_1, hcz25_2, hcz25_3, hcz25_4, hcz25_5, hcz25_6, hcz25_7, hfz25_0⟩ := zc8_ BK172.out) | ((with_reducible refine gate_callee (f := 66) rfl ?_);refine goesL_ (some 93) rfl rfl Try.func66 (by kernel_rfl) rfl #[.int .u64 x1_8,.int .i64 0,.int .i64 (wrap64 ((ji16) - (ji17)))] rfl (by (try simp only [List.map_toArray, List.map_cons, List.map_nil]);first | done | (simp only [hji16, hji17];rfl) | rfl | (simp only [List.length_drop, List.length_take];rfl)) ?_;(with_reducible refine (lead_Field.calls x1_8 0 (wrap64 ((ji16) - (ji17))) t180 t181 _ A20.out).mono ?_);rintro e w26 ⟨rfl, hb⟩;refine ⟨_, rfl, ?_⟩;have n0_ := am_ (blk_below (g := gb168) (o := .cells #[.bool false,.bool false,.int .i64 0,.int .i64 0,.int .i64 0,.int .i64 0,.int .i64 0,.int .u64 0] 86 (0, 0)) (by refine z2_ ?_;refine blk_far ?_ NB168_172.out _;refine z2_ ?_;refine blk_far ?_ NB168_172.out _;refine z2_ ?_;exact BK168.out) hb);have n1_ := am_ (blk_below (g := gb172) (o := .cells #[.bool x173000_8,.bool true,.int .i64 t176,.int .i64 (wrap64 (t176 - 1)),.int .i64 ji17,.int .i64 ji19,.int .i64 (wrap64 ((ji16) - (ji17))),.int .u64 0] 86 (0, 0)) (by refine z2_ ?_;refine blk_put (cs := #[.bool x173000_8,.bool true,.int .i64 t176,.int .i64 (wrap64 (t176 - 1)),.int .i64 ji17,.int .i64 ji19,.int .i64 0,.int .u64 0]) ?_ 6 _ rfl;refine z2_ ?_;refine blk_put (cs := #[.bool x173000_8,.bool true,.int .i64 t176,.int .i64 (wrap64 (t176 - 1)),.int .i64 ji17,.int .i64 0,.int .i64 0,.int .u64 0]) ?_ 5 _ rfl;refine z2_ ?_;exact BK172.out) hb);have n2_ := am_ (below_step (z3_ HB.out) hb);clear BK168;clear BK172;clear HB;have BK168 := n0_;have BK172 := n1_;have HB := n2_;clear n0_ n1_ n2_;(try clear hb);(try simp only [errW_none, errW_some]);obtain ⟨hcz27_0, hcz27_1, hcz27_2, hcz27_3, hcz27_4, hcz27_5, hcz27_6, hcz27_7, hfz27_0⟩ := zc8_ BK172.out;obtain ⟨hcz28_0, hcz28_1, hcz28_2, hcz28_3, hcz28_4, hcz28_5, hcz28_6, hcz28_7, hfz28_0⟩ := zc8_ BK168.out))
       refine bodyPost_ret (results_ct rfl _ _ gb168 86 #[.bool x173000_8,.bool true,.int .i64 t176,.int .i64 (wrap64 (t176 - 1)),.int .i64 ji17,.int .i64 ji19,.int .i64 (wrap64 ((ji16) - (ji17))),.int .u64 t180] (0, 0) _ rfl (by refine z2_ ?_;refine blk_put (cs := #[.bool x173000_8,.bool true,.int .i64 t176,.int .i64 (wrap64 (t176 - 1)),.int .i64 ji17,.int .i64 ji19,.int .i64 (wrap64 ((ji16) - (ji17))),.int .u64 0]) ?_ 7 _ rfl;refine z2_ ?_;refine blk_put (cs := #[.bool x173000_8,.bool true,.int .i64 t176,.int .i64 (wrap64 (t176 - 1)),.int .i64 ji17,.int .i64 ji19,.int .i64 0,.int .u64 0]) ?_ 6 _ rfl;refine z2_ ?_;refine blk_put (cs := #[.bool x173000_8,.bool true,.int .i64 t176,.int .i64 (wrap64 (t176 - 1)),.int .i64 ji17,.int .i64 0,.int .i64 0,.int .u64 0]) ?_ 5 _ rfl;refine z2_ ?_;refine blk_put (cs := #[.bool x173000_8,.bool true,.int .i64 t176,.int .i64 (wrap64 (t176 - 1)),.int .i64 0,.int .i64 0,.int .i64 0,.int .u64 0]) ?_ 4 _ rfl;refine z2_ ?_;refine blk_put (cs := #[.bool x173000_8,.bool true,.int .i64 t176,.int .i64 0,.int .i64 0,.int .i64 0,.int .i64 0,.int .u64 0]) ?_ 3 _ rfl;refine z2_ ?_;refine blk_put (cs := #[.bool x173000_8,.bool true,.int .i64 0,.int .i64 0,.int .i64 0,.int .i64 0,.int .i64 0,.int .u64 0]) ?_ 2 _ rfl;refine z2_ ?_;refine blk_put (cs := #[.bool x173000_8,.bool false,.int .i64 0,.int .i64 0,.int .i64 0,.int .i64 0,.int .i64 0,.int .u64 0]) ?_ 1 _ rfl;refine z2_ ?_;refine blk_put (cs := #[.bool false,.bool false,.int .i64 0,.int .i64 0,.int .i64 0,.int .i64 0,.int .i64 0,.int .u64 0]) ?_ 0 _ rfl;refine z2_ ?_;refine blk_far ?_ NB168_172.out _;refine z2_ ?_;exact BK168.out) Try.underlying86 rfl (by kernel_rfl)) rfl ?_
       exact ⟨by first | rfl | (simp [errW_none, errW_some] <;> rfl) | (simp only [← hji16, ← hji17, ← hji19];first | rfl | (simp [errW_none, errW_some] <;> rfl)) | (simp [*, errW_none, errW_some] <;> rfl), z3_ HB.out⟩
      ·replace c15 := Bool.eq_false_iff.mpr c15
       subst c15
       have H1 : ((lead_Field.f x1_8 (wrap64 ((mx (wrap64 ((wrap64 ((wrap64 (a0 - 1)) - t176)) - 1)) 0) - (mn (mx (wrap64 ((wrap64 ((wrap64 (a0 - 1)) - t176)) - 1)) 0) 2))) (mn (mx (wrap64 ((wrap64 ((wrap64 (a0 - 1)) - t176)) - 1)) 0) 2)).bind fun bt182 => ((lead_Field.f x1_8 0 (wrap64 ((mx (wrap64 ((wrap64 ((wrap64 (a0 - 1)) - t176)) - 1)) 0) - (mn (mx (wrap64 ((wrap64 ((wrap64 (a0 - 1)) - t176)) - 1)) 0) 2)))).bind fun bt184 => (some (x173000_8, false,t176, wrap64 (-t176), mn (mx (wrap64 ((wrap64 ((wrap64 (a0 - 1)) - t176)) - 1)) 0) 2, shl .i64 (wrap64 (bt182.1)) (2 - (mn (mx (wrap64 ((wrap64 ((wrap64 (a0 - 1)) - t176)) - 1)) 0) 2)), wrap64 ((mx (wrap64 ((wrap64 ((wrap64 (a0 - 1)) - t176)) - 1)) 0) - (mn (mx (wrap64 ((wrap64 ((wrap64 (a0 - 1)) - t176)) - 1)) 0) 2)), bt184.1, none)))) = some (r1, r2, r3, r4, r5, r6, r7, r8, r9) := by rw [if_neg (show ¬ (false = true) by decide)] at H;exact H
       clear H
       have H := H1
       clear H1
       obtain ⟨ji29, hji29⟩ : ∃ j_ : Int, (mx (wrap64 ((wrap64 ((wrap64 (a0 - 1)) - t176)) - 1)) 0) = j_ := ⟨_, rfl⟩
       replace H : ((lead_Field.f x1_8 (wrap64 ((ji29) - (mn (ji29) 2))) (mn (ji29) 2)).bind fun bt182 => ((lead_Field.f x1_8 0 (wrap64 ((ji29) - (mn (ji29) 2)))).bind fun bt184 => (some (x173000_8, false,t176, wrap64 (-t176), mn (ji29) 2, shl .i64 (wrap64 (bt182.1)) (2 - (mn (ji29) 2)), wrap64 ((ji29) - (mn (ji29) 2)), bt184.1, none)))) = some (r1, r2, r3, r4, r5, r6, r7, r8, r9) := by first | (rw [hji29] at H;exact H) | (simp only [hji29] at H ⊢;exact H)
       (try rw [hji29] at A14)
       (try (have hji29l : 0 ≤ ji29 := by (rw [← hji29];unfold mx;(repeat' split) <;> omega)))
       (try (have hji29m : 0 ≤ ji29 := by omega))
       have hji29_ : (if (wrap64 ((wrap64 ((wrap64 (a0 - 1)) - t176)) - 1)) < 0 then 0 else (wrap64 ((wrap64 ((wrap64 (a0 - 1)) - t176)) - 1))) = ji29 := hji29
       obtain ⟨ji30, hji30⟩ : ∃ j_ : Int, (mn (ji29) 2) = j_ := ⟨_, rfl⟩
       replace H : ((lead_Field.f x1_8 (wrap64 ((ji29) - (ji30))) (ji30)).bind fun bt182 => ((lead_Field.f x1_8 0 (wrap64 ((ji29) - (ji30)))).bind fun bt184 => (some (x173000_8, false,t176, wrap64 (-t176), ji30, shl .i64 (wrap64 (bt182.1)) (2 - (ji30)), wrap64 ((ji29) - (ji30)), bt184.1, none)))) = some (r1, r2, r3, r4, r5, r6, r7, r8, r9) := by first | (rw [hji30] at H;exact H) | (simp only [hji30] at H ⊢;exact H)
       (try rw [hji30] at A14)
       (try (have hji30h : ji30 ≤ 2 := by (rw [← hji30];unfold mn;(repeat' split) <;> omega)))
       (try (have hji30g : ji30 ≤ 64 := by omega))
       (try (have hji30l : 0 ≤ ji30 := by (rw [← hji30];unfold mn;(repeat' split) <;> omega)))
       (try (have hji30m : 0 ≤ ji30 := by omega))
       have hji30_ : (if 2 < (ji29) then 2 else (ji29)) = ji30 := hji30
       replace H := Option.bind_eq_some_iff.mp H
       obtain ⟨⟨t182, t183⟩, A310, H⟩ := H
       replace H : ((lead_Field.f x1_8 0 (wrap64 ((ji29) - (ji30)))).bind fun bt184 => (some (x173000_8, false,t176, wrap64 (-t176), ji30, shl .i64 (wrap64 (t182)) (2 - (ji30)), wrap64 ((ji29) - (ji30)), bt184.1, none))) = some (r1, r2, r3, r4, r5, r6, r7, r8, r9) := H
       have A31 := am_ A310
       clear A310
       obtain ⟨ji32, hji32⟩ : ∃ j_ : Int, (shl .i64 (wrap64 (t182)) (2 - (ji30))) = j_ := ⟨_, rfl⟩
       replace H : ((lead_Field.f x1_8 0 (wrap64 ((ji29) - (ji30)))).bind fun bt184 => (some (x173000_8, false,t176, wrap64 (-t176), ji30, ji32, wrap64 ((ji29) - (ji30)), bt184.1, none))) = some (r1, r2, r3, r4, r5, r6, r7, r8, r9) := by first | (rw [hji32] at H;exact H) | (simp only [hji32] at H ⊢;exact H)
       (try rw [hji32] at A14)
       (try rw [hji32] at A31)
       have hji32_ : (IntKind.i64.wrap ((wrap64 (t182)) * 2 ^ min (2 - (ji30)).toNat 64)) = ji32 := hji32
       have hji32z : (2 - (ji30)) ≤ 64 → (IntKind.i64.wrap ((wrap64 (t182)) * 2 ^ (2 - (ji30)).toNat)) = ji32 := shl_small hji32
       (try (have hji32Z_ := hji32z (by omega)))
       have hji32y : (wrap64 ((wrap64 (t182)) * 2 ^ min (2 - (ji30)).toNat 64)) = ji32 := (i64_w _).symm.trans hji32_
       have hji32x : (2 - (ji30)) ≤ 64 → (wrap64 ((wrap64 (t182)) * 2 ^ (2 - (ji30)).toNat)) = ji32 := fun h_ => (i64_w _).symm.trans (hji32z h_)
       (try (have hji32X_ := hji32x (by omega)))
       replace H := Option.bind_eq_some_iff.mp H
       obtain ⟨⟨t184, t185⟩, A330, H⟩ := H
       replace H : (some (x173000_8, false,t176, wrap64 (-t176), ji30, ji32, wrap64 ((ji29) - (ji30)), t184, none)) = some (r1, r2, r3, r4, r5, r6, r7, r8, r9) := H
       have A33 := am_ A330
       clear A330
       simp only [Option.some.injEq, Prod.mk.injEq] at H
       obtain ⟨rfl, rfl, rfl, rfl, rfl, rfl, rfl, rfl, rfl⟩ := H
       go_wp2_with (first | ((with_reducible refine gate_callee (f := 65) rfl ?_);refine goesL_ (some 44) rfl rfl Try.func65 (by kernel_rfl) rfl #[.int .u64 x1_8,.int .i64 (wrap64 (a0 - 1))] rfl z5_ ?_;(with_reducible refine (lead_Run.calls kj8 x1_8 (wrap64 (a0 - 1)) false t176 t177 _ A14.out).mono ?_);rintro e w34 ⟨rfl, hb⟩;refine ⟨_, rfl, ?_⟩;have n0_ := am_ (blk_below (g := gb168) (z1_ BK168.out) hb);have n1_ := am_ (blk_below (g := gb172) (z1_ BK172.out) hb);have n2_ := am_ (below_step (z3_ HB.out) hb);clear BK168;clear BK172;clear HB;have BK168 := n0_;have BK172 := n1_;have HB := n2_;clear n0_ n1_ n2_;(try clear hb);(try simp only [errW_none, errW_some]);have hnb35 := NB172_168.out;have hnc35 := NB168_172.out;obtain ⟨hcz36_0, hcz36_1, hcz36_2, hcz36_3, hcz36_4, hcz36_5, hcz36_6, hcz36_7, hfz36_0⟩ := zc8_ BK172.out) | ((with_reducible refine gate_callee (f := 66) rfl ?_);refine goesL_ (some 78) rfl rfl Try.func66 (by kernel_rfl) rfl #[.int .u64 x1_8,.int .i64 (wrap64 ((ji29) - (ji30))),.int .i64 ji30] rfl (by (try simp only [List.map_toArray, List.map_cons, List.map_nil]);first | done | (simp only [hji29, hji30];rfl) | rfl | (simp only [List.length_drop, List.length_take];rfl)) ?_;(with_reducible refine (lead_Field.calls x1_8 (wrap64 ((ji29) - (ji30))) ji30 t182 t183 _ A31.out).mono ?_);rintro e w37 ⟨rfl, hb⟩;refine ⟨_, rfl, ?_⟩;have n0_ := am_ (blk_below (g := gb168) (o := .cells #[.bool false,.bool false,.int .i64 0,.int .i64 0,.int .i64 0,.int .i64 0,.int .i64 0,.int .u64 0] 86 (0, 0)) (by refine z2_ ?_;refine blk_far ?_ NB168_172.out _;refine z2_ ?_;refine blk_far ?_ NB168_172.out _;refine z2_ ?_;refine blk_far ?_ NB168_172.out _;refine z2_ ?_;refine blk_far ?_ NB168_172.out _;refine z2_ ?_;exact BK168.out) hb);have n1_ := am_ (blk_below (g := gb172) (o := .cells #[.bool x173000_8,.bool false,.int .i64 t176,.int .i64 (wrap64 (-t176)),.int .i64 ji30,.int .i64 0,.int .i64 0,.int .u64 0] 86 (0, 0)) (by refine z2_ ?_;refine blk_put (cs := #[.bool x173000_8,.bool false,.int .i64 t176,.int .i64 (wrap64 (-t176)),.int .i64 0,.int .i64 0,.int .i64 0,.int .u64 0]) ?_ 4 _ rfl;refine z2_ ?_;refine blk_put (cs := #[.bool x173000_8,.bool false,.int .i64 t176,.int .i64 0,.int .i64 0,.int .i64 0,.int .i64 0,.int .u64 0]) ?_ 3 _ rfl;refine z2_ ?_;refine blk_put (cs := #[.bool x173000_8,.bool false,.int .i64 0,.int .i64 0,.int .i64 0,.int .i64 0,.int .i64 0,.int .u64 0]) ?_ 2 _ rfl;refine z2_ ?_;refine blk_put (cs := #[.bool x173000_8,.bool false,.int .i64 0,.int .i64 0,.int .i64 0,.int .i64 0,.int .i64 0,.int .u64 0]) ?_ 1 _ rfl;refine z2_ ?_;exact BK172.out) hb);have n2_ := am_ (below_step (z3_ HB.out) hb);clear BK168;clear BK172;clear HB;have BK168 := n0_;have BK172 := n1_;have HB := n2_;clear n0_ n1_ n2_;(try clear hb);(try simp only [errW_none, errW_some]);obtain ⟨hcz38_0, hcz38_1, hcz38_2, hcz38_3, hcz38_4, hcz38_5, hcz38_6, hcz38_7, hfz38_0⟩ := zc8_ BK172.out) | ((with_reducible refine gate_callee (f := 66) rfl ?_);refine goesL_ (some 93) rfl rfl Try.func66 (by kernel_rfl) rfl #[.int .u64 x1_8,.int .i64 0,.int .i64 (wrap64 ((ji29) - (ji30)))] rfl (by (try simp only [List.map_toArray, List.map_cons, List.map_nil]);first | done | (simp only [hji29, hji30];rfl) | rfl | (simp only [List.length_drop, List.length_take];rfl)) ?_;(with_reducible refine (lead_Field.calls x1_8 0 (wrap64 ((ji29) - (ji30))) t184 t185 _ A33.out).mono ?_);rintro e w39 ⟨rfl, hb⟩;refine ⟨_, rfl, ?_⟩;have n0_ := am_ (blk_below (g := gb168) (o := .cells #[.bool false,.bool false,.int .i64 0,.int .i64 0,.int .i64 0,.int .i64 0,.int .i64 0,.int .u64 0] 86 (0, 0)) (by refine z2_ ?_;refine blk_far ?_ NB168_172.out _;refine z2_ ?_;refine blk_far ?_ NB168_172.out _;refine z2_ ?_;exact BK168.out) hb);have n1_ := am_ (blk_below (g := gb172) (o := .cells #[.bool x173000_8,.bool false,.int .i64 t176,.int .i64 (wrap64 (-t176)),.int .i64 ji30,.int .i64 ji32,.int .i64 (wrap64 ((ji29) - (ji30))),.int .u64 0] 86 (0, 0)) (by refine z2_ ?_;refine blk_put (cs := #[.bool x173000_8,.bool false,.int .i64 t176,.int .i64 (wrap64 (-t176)),.int .i64 ji30,.int .i64 ji32,.int .i64 0,.int .u64 0]) ?_ 6 _ rfl;refine z2_ ?_;refine blk_put (cs := #[.bool x173000_8,.bool false,.int .i64 t176,.int .i64 (wrap64 (-t176)),.int .i64 ji30,.int .i64 0,.int .i64 0,.int .u64 0]) ?_ 5 _ rfl;refine z2_ ?_;exact BK172.out) hb);have n2_ := am_ (below_step (z3_ HB.out) hb);clear BK168;clear BK172;clear HB;have BK168 := n0_;have BK172 := n1_;have HB := n2_;clear n0_ n1_ n2_;(try clear hb);(try simp only [errW_none, errW_some]);obtain ⟨hcz40_0, hcz40_1, hcz40_2, hcz40_3, hcz40_4, hcz40_5, hcz40_6, hcz40_7, hfz40_0⟩ := zc8_ BK172.out;obtain ⟨hcz41_0, hcz41_1, hcz41_2, hcz41_3, hcz41_4, hcz41_5, hcz41_6, hcz41_7, hfz41_0⟩ := zc8_ BK168.out))
       refine bodyPost_ret (results_ct rfl _ _ gb168 86 #[.bool x173000_8,.bool false,.int .i64 t176,.int .i64 (wrap64 (-t176)),.int .i64 ji30,.int .i64 ji32,.int .i64 (wrap64 ((ji29) - (ji30))),.int .u64 t184] (0, 0) _ rfl (by refine z2_ ?_;refine blk_put (cs := #[.bool x173000_8,.bool false,.int .i64 t176,.int .i64 (wrap64 (-t176)),.int .i64 ji30,.int .i64 ji32,.int .i64 (wrap64 ((ji29) - (ji30))),.int .u64 0]) ?_ 7 _ rfl;refine z2_ ?_;refine blk_put (cs := #[.bool x173000_8,.bool false,.int .i64 t176,.int .i64 (wrap64 (-t176)),.int .i64 ji30,.int .i64 ji32,.int .i64 0,.int .u64 0]) ?_ 6 _ rfl;refine z2_ ?_;refine blk_put (cs := #[.bool x173000_8,.bool false,.int .i64 t176,.int .i64 (wrap64 (-t176)),.int .i64 ji30,.int .i64 0,.int .i64 0,.int .u64 0]) ?_ 5 _ rfl;refine z2_ ?_;refine blk_put (cs := #[.bool x173000_8,.bool false,.int .i64 t176,.int .i64 (wrap64 (-t176)),.int .i64 0,.int .i64 0,.int .i64 0,.int .u64 0]) ?_ 4 _ rfl;refine z2_ ?_;refine blk_put (cs := #[.bool x173000_8,.bool false,.int .i64 t176,.int .i64 0,.int .i64 0,.int .i64 0,.int .i64 0,.int .u64 0]) ?_ 3 _ rfl;refine z2_ ?_;refine blk_put (cs := #[.bool x173000_8,.bool false,.int .i64 0,.int .i64 0,.int .i64 0,.int .i64 0,.int .i64 0,.int .u64 0]) ?_ 2 _ rfl;refine z2_ ?_;refine blk_put (cs := #[.bool x173000_8,.bool false,.int .i64 0,.int .i64 0,.int .i64 0,.int .i64 0,.int .i64 0,.int .u64 0]) ?_ 1 _ rfl;refine z2_ ?_;refine blk_put (cs := #[.bool false,.bool false,.int .i64 0,.int .i64 0,.int .i64 0,.int .i64 0,.int .i64 0,.int .u64 0]) ?_ 0 _ rfl;refine z2_ ?_;refine blk_far ?_ NB168_172.out _;refine z2_ ?_;exact BK168.out) Try.underlying86 rfl (by kernel_rfl)) rfl ?_
       exact ⟨by first | rfl | (simp [errW_none, errW_some] <;> rfl) | (simp only [← hji29, ← hji30, ← hji32];first | rfl | (simp [errW_none, errW_some] <;> rfl)) | (simp [*, errW_none, errW_some] <;> rfl), z3_ HB.out⟩
end Go.Proofs.Ytebhpipfkomhjaa.PAll
