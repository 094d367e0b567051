-- Written by a program of this session out of its own texts (wip/tools/link.py).
import Derived.ArgAppend
import Derived.Below
import Derived.BigQuiet
import Derived.Deep.AppendLies
import Derived.Deep.CutBlock
import Derived.Deep.DeepCutAuto
import Derived.Deep.Draws
import Derived.Deep.LoopGhost
import Derived.Deep.OwnRows
import Derived.Deep.QuietTactic
import Derived.Deep.RegionHeld3
import Derived.KernelRfl
import Derived.LaidEql
import Derived.Laws.BitsLemmas
import Derived.Laws.BytesArg
import Derived.Laws.IdiomCopy
import Derived.Laws.MakeOwn
import Derived.Laws.OwnMore
import Derived.Laws.Rows
import Derived.Laws.Slices
import Derived.Laws.StructEq
import Derived.Lib.AppendStr
import Derived.Lib.BitFns
import Derived.Lib.ConvBytes
import Derived.Lib.Slices
import Derived.Lib.Small
import Derived.Lib.Strings
import Derived.Lib.Walk
import Derived.Maps.AppendAt
import Derived.OrdersHeld
import Derived.OwnWalk
import Derived.RowKit
import Derived.RowKit3
import Derived.Tactics
import Derived.Test.YtfegofnplcmacaaProg
import Derived.WalkKit
import Derived.WideLaws
import Derived.Test.YtfegofnplcmacaaCRoundMakes7
import Derived.Test.YtfegofnplcmacaaCRoundMakes8
import Derived.Test.YtfegofnplcmacaaCRoundMakes9
import Derived.Test.YtfegofnplcmacaaCRoundMakes10
import Derived.Test.YtfegofnplcmacaaCRoundMakes11
namespace Go.Proofs.Ytfegofnplcmacaa.V
open Go Go.RowKit Go.Proofs.YtfegofnplcmacaaW.PrintWords Go.Proofs.YtfegofnplcmacaaW.PrintLast Go.Proofs.YtfegofnplcmacaaW.PrintMore Go.Proofs.Ytfegofnplcmacaa.PAll
set_option linter.unusedVariables false
set_option linter.unusedSimpArgs false
def numL (l : List UInt8) : Nat := l.foldl (fun x b => 2 * x + (b.toNat - 48)) 0
def okL (l : List UInt8) : Prop := ∀ b ∈ l, b.toNat = 48 ∨ b.toNat = 49
theorem numL_acc (l : List UInt8) : ∀ x, l.foldl (fun x b => 2 * x + (b.toNat - 48)) x = x * 2 ^ l.length + numL l := by
  induction l with
  | nil => intro x; simp [numL]
  | cons b l ih =>
    intro x
    simp only [List.foldl_cons, List.length_cons, numL]
    rw [ih, ih (2 * 0 + (b.toNat - 48)), Nat.pow_succ]
    generalize 2 ^ l.length = z
    generalize numL l = y
    generalize b.toNat - 48 = w
    grind
theorem numL_append (a b : List UInt8) : numL (a ++ b) = numL a * 2 ^ b.length + numL b := by
  unfold numL
  rw [List.foldl_append, numL_acc]
  rfl
theorem numL_lt {l : List UInt8} (h : okL l) : numL l < 2 ^ l.length := by
  induction l with
  | nil => simp [numL]
  | cons b l ih =>
    have ih := ih (fun x hx => h x (List.mem_cons_of_mem _ hx))
    have hb := h b List.mem_cons_self
    rw [show b :: l = [b] ++ l from rfl, numL_append]
    have e : numL [b] = b.toNat - 48 := by simp [numL]
    rw [e, List.length_append, Nat.pow_add]
    simp only [List.length_singleton, Nat.pow_one]
    rcases hb with hb | hb <;> rw [hb] <;> omega
theorem okL_append {a b : List UInt8} (ha : okL a) (hb : okL b) : okL (a ++ b) := fun x hx => (List.mem_append.mp hx).elim (ha x) (hb x)
structure BT (s : ByteArray) (L X : Nat) : Prop where
  ok : okL s.data.toList
  size : s.size = L
  num : numL s.data.toList = X
theorem lenB (s : ByteArray) : s.data.toList.length = s.size := Array.length_toList
theorem BT.len {s : ByteArray} {L X : Nat} (h : BT s L X) : s.data.toList.length = L := by rw [← h.size]; exact lenB s
theorem BT.lt {s : ByteArray} {L X : Nat} (h : BT s L X) : X < 2 ^ L := by have := numL_lt h.ok; rw [h.len, h.num] at this; exact this
theorem BT.append {s t : ByteArray} {L M X Y : Nat} (h : BT s L X) (k : BT t M Y) : BT (s ++ t) (L + M) (X * 2 ^ M + Y) := by
  refine ⟨?_, ?_, ?_⟩
  · rw [ByteArray.data_append, Array.toList_append]; exact okL_append h.ok k.ok
  · rw [ByteArray.size_append, h.size, k.size]
  · rw [ByteArray.data_append, Array.toList_append, numL_append, h.num, k.num, k.len]
theorem BT.nil : BT ByteArray.empty 0 0 := ⟨by intro b hb; simp at hb, rfl, rfl⟩
structure BN (l : List Int) (L X : Nat) : Prop where
  len : l.length = L
  bt : BT (strOfNums l) L X
theorem BN.nil : BN [] 0 0 := ⟨rfl, ⟨by intro b hb; simp [strOfNums_data] at hb, rfl, rfl⟩⟩
theorem BN.snoc {l : List Int} {L X : Nat} (h : BN l L X) (b : Nat) (hb : b < 2) : BN (l ++ [48 + (b : Int)]) (L + 1) (2 * X + b) := by
  have e : (strOfNums (l ++ [48 + (b : Int)])).data.toList = (strOfNums l).data.toList ++ [UInt8.ofNat (48 + b)] := by
    rw [strOfNums_data, strOfNums_data, List.map_append]
    have : (48 + (b : Int)).toNat = 48 + b := by omega
    simp [this]
  have hv : (UInt8.ofNat (48 + b)).toNat = 48 + b := by
    rw [UInt8.toNat_ofNat']; omega
  refine ⟨by simp [h.len], ⟨?_, ?_, ?_⟩⟩
  · rw [e]
    refine okL_append h.bt.ok ?_
    intro x hx
    simp only [List.mem_singleton] at hx
    subst hx; rw [hv]; omega
  · rw [strOfNums_size]; simp [h.len]
  · rw [e, numL_append, h.bt.num]
    have : numL [UInt8.ofNat (48 + b)] = b := by unfold numL; simp only [List.foldl_cons, List.foldl_nil]; rw [hv]; omega
    rw [this]; simp; omega
end Go.Proofs.Ytfegofnplcmacaa.V
namespace Go.Proofs.Ytfegofnplcmacaa.PAll
open Go.RowKit Go.Proofs.YtfegofnplcmacaaW.PrintWords Go.Proofs.YtfegofnplcmacaaW.PrintLast Go.Proofs.YtfegofnplcmacaaW.PrintMore
attribute [local go_sem] max2_int min2_int max_two min_two max_three min_three max_four min_four
set_option linter.unusedVariables false
set_option linter.unusedSimpArgs false
attribute [local go_sem high] eqA24
def vernierref07_Sound.f (a0_0 : Int) (a0_1 : Bool) (a0_2 : Int) (a0_3 : Int) (a0_4 : Int) (a0_5 : Bool) : Option (Bool) := if a0_0 = 0 then (some (!a0_1 && (a0_2 == 0 && (a0_3 == 0 && (a0_4 == 0 && (!a0_5)))))) else (if a0_0 = 2 then (some (!a0_1 && (a0_2 == 0 && (a0_3 == 0 && (a0_4 == 0 && (!a0_5)))))) else (if a0_0 = 1 then (if a0_3 ≥ 9223372036854775808 then (if a0_2 ≥ (-1099511627776) then (some (decide (a0_2 ≤ 1099511627776))) else (some false)) else (some false)) else (some false)))
set_option maxHeartbeats 8000000 in
set_option maxRecDepth 100000 in
theorem vernierref07_Sound.calls (a0_0 : Int) (a0_1 : Bool) (a0_2 : Int) (a0_3 : Int) (a0_4 : Int) (a0_5 : Bool) (r : Bool) (w : World) (h : vernierref07_Sound.f a0_0 a0_1 a0_2 a0_3 a0_4 a0_5 = some r) :
    Calls Try.prog 16 #[.agg #[.int .i64 a0_0, .bool a0_1, .int .i64 a0_2, .int .u64 a0_3, .int .u64 a0_4, .bool a0_5]] w fun e w' => e = .returned (.bool r) ∧ Below w.heap.size w w' := by
  have hu24 := Try.underlying24
  have HB := Aside0.mk (Below.refl w.heap.size w)
  have H : (if a0_0 = 0 then (some (!a0_1 && (a0_2 == 0 && (a0_3 == 0 && (a0_4 == 0 && (!a0_5)))))) else (if a0_0 = 2 then (some (!a0_1 && (a0_2 == 0 && (a0_3 == 0 && (a0_4 == 0 && (!a0_5)))))) else (if a0_0 = 1 then (if a0_3 ≥ 9223372036854775808 then (if a0_2 ≥ (-1099511627776) then (some (decide (a0_2 ≤ 1099511627776))) else (some false)) else (some false)) else (some false)))) = some r := h
  clear h
  by_cases c2 : a0_0 = 0
  · rw [if_pos c2] at H
    have c2b0 : (a0_0 == 0) = true := beq_iff_eq.mpr c2
    have c2b1 : (a0_0 != 0) = false := bne_eq_false_iff_eq.mpr c2
    clear c2
    obtain rfl := Option.some.inj H
    go_enter Try.func16, Try.ntmps16
    go_wp2_with (first | ((with_reducible refine gate_dst (N := 1) rfl ?_); refine box_event ?hg (N := 1) ?hd (cs := #[.int .i64 a0_0, .bool a0_1, .int .i64 a0_2, .int .u64 a0_3, .int .u64 a0_4, .bool a0_5]) (t := 24) ?hr ?_; (case hd => rfl); (case hg => rfl); (case hr => first | (go_simp; done) | (go_simp; rfl)); intro gb199 hg w3 hbox hb; have n0_ := Aside0.mk (below_step (by repeat (first | (with_reducible first | exact HB.out | apply below_alloc | apply pw_below_drewN | apply below_drew1) | exact HB.out)) hb); have n1_ := Aside0.mk (hbox); have n2_ := Aside0.mk ((by rw [hg]; exact (below_size (by repeat (first | (with_reducible first | exact HB.out | apply below_alloc | apply pw_below_drewN | apply below_drew1) | exact HB.out))) : w.heap.size ≤ gb199)); have n3_ := Aside0.mk ((by rw [hg]; exact (below_size (by repeat (first | (with_reducible first | exact HB.out | apply below_alloc | apply pw_below_drewN | apply below_drew1) | exact HB.out))) : w.heap.size ≤ gb199)); clear HB; have HB := n0_; have BK199 := n1_; have GW199 := n2_; have GE199 := n3_; clear n0_ n1_ n2_ n3_; clear hb hbox hg; have hcz4_0 : w3.cell? ⟨gb199, 0, none⟩ = some (.int .i64 a0_0) := (blk_cell BK199.out 0).trans rfl; have hcz4_1 : w3.cell? ⟨gb199, 1, none⟩ = some (.bool a0_1) := (blk_cell BK199.out 1).trans rfl; have hcz4_2 : w3.cell? ⟨gb199, 2, none⟩ = some (.int .i64 a0_2) := (blk_cell BK199.out 2).trans rfl; have hcz4_3 : w3.cell? ⟨gb199, 3, none⟩ = some (.int .u64 a0_3) := (blk_cell BK199.out 3).trans rfl; have hcz4_4 : w3.cell? ⟨gb199, 4, none⟩ = some (.int .u64 a0_4) := (blk_cell BK199.out 4).trans rfl; have hcz4_5 : w3.cell? ⟨gb199, 5, none⟩ = some (.bool a0_5) := (blk_cell BK199.out 5).trans rfl; have hfz4_0 := blk_frozen BK199.out 0; have hfz4_1 := blk_frozen BK199.out 1; have hfz4_2 := blk_frozen BK199.out 2; have hfz4_3 := blk_frozen BK199.out 3; have hfz4_4 := blk_frozen BK199.out 4; have hfz4_5 := blk_frozen BK199.out 5))
    go_ret
    exact ⟨by first | rfl | (simp [errW_none, errW_some] <;> rfl) | (simp [*, errW_none, errW_some] <;> rfl), by repeat (first | (with_reducible first | exact HB.out | apply below_alloc | apply pw_below_drewN | apply below_drew1 | refine below_set ?_ GE199.out) | exact HB.out)⟩
  · rw [if_neg c2] at H
    have c2b0 : (a0_0 == 0) = false := beq_eq_false_iff_ne.mpr c2
    have c2b1 : (a0_0 != 0) = true := bne_iff_ne.mpr c2
    by_cases c5 : a0_0 = 2
    · rw [if_pos c5] at H
      have c5b0 : (a0_0 == 2) = true := beq_iff_eq.mpr c5
      have c5b1 : (a0_0 != 2) = false := bne_eq_false_iff_eq.mpr c5
      clear c5
      obtain rfl := Option.some.inj H
      go_enter Try.func16, Try.ntmps16
      go_wp2_with (first | ((with_reducible refine gate_dst (N := 1) rfl ?_); refine box_event ?hg (N := 1) ?hd (cs := #[.int .i64 a0_0, .bool a0_1, .int .i64 a0_2, .int .u64 a0_3, .int .u64 a0_4, .bool a0_5]) (t := 24) ?hr ?_; (case hd => rfl); (case hg => rfl); (case hr => first | (go_simp; done) | (go_simp; rfl)); intro gb199 hg w6 hbox hb; have n0_ := Aside0.mk (below_step (by repeat (first | (with_reducible first | exact HB.out | apply below_alloc | apply pw_below_drewN | apply below_drew1) | exact HB.out)) hb); have n1_ := Aside0.mk (hbox); have n2_ := Aside0.mk ((by rw [hg]; exact (below_size (by repeat (first | (with_reducible first | exact HB.out | apply below_alloc | apply pw_below_drewN | apply below_drew1) | exact HB.out))) : w.heap.size ≤ gb199)); have n3_ := Aside0.mk ((by rw [hg]; exact (below_size (by repeat (first | (with_reducible first | exact HB.out | apply below_alloc | apply pw_below_drewN | apply below_drew1) | exact HB.out))) : w.heap.size ≤ gb199)); clear HB; have HB := n0_; have BK199 := n1_; have GW199 := n2_; have GE199 := n3_; clear n0_ n1_ n2_ n3_; clear hb hbox hg; have hcz7_0 : w6.cell? ⟨gb199, 0, none⟩ = some (.int .i64 a0_0) := (blk_cell BK199.out 0).trans rfl; have hcz7_1 : w6.cell? ⟨gb199, 1, none⟩ = some (.bool a0_1) := (blk_cell BK199.out 1).trans rfl; have hcz7_2 : w6.cell? ⟨gb199, 2, none⟩ = some (.int .i64 a0_2) := (blk_cell BK199.out 2).trans rfl; have hcz7_3 : w6.cell? ⟨gb199, 3, none⟩ = some (.int .u64 a0_3) := (blk_cell BK199.out 3).trans rfl; have hcz7_4 : w6.cell? ⟨gb199, 4, none⟩ = some (.int .u64 a0_4) := (blk_cell BK199.out 4).trans rfl; have hcz7_5 : w6.cell? ⟨gb199, 5, none⟩ = some (.bool a0_5) := (blk_cell BK199.out 5).trans rfl; have hfz7_0 := blk_frozen BK199.out 0; have hfz7_1 := blk_frozen BK199.out 1; have hfz7_2 := blk_frozen BK199.out 2; have hfz7_3 := blk_frozen BK199.out 3; have hfz7_4 := blk_frozen BK199.out 4; have hfz7_5 := blk_frozen BK199.out 5))
      go_ret
      exact ⟨by first | rfl | (simp [errW_none, errW_some] <;> rfl) | (simp [*, errW_none, errW_some] <;> rfl), by repeat (first | (with_reducible first | exact HB.out | apply below_alloc | apply pw_below_drewN | apply below_drew1 | refine below_set ?_ GE199.out) | exact HB.out)⟩
    · rw [if_neg c5] at H
      have c5b0 : (a0_0 == 2) = false := beq_eq_false_iff_ne.mpr c5
      have c5b1 : (a0_0 != 2) = true := bne_iff_ne.mpr c5
      by_cases c8 : a0_0 = 1
      · rw [if_pos c8] at H
        have c8b0 : (a0_0 == 1) = true := beq_iff_eq.mpr c8
        have c8b1 : (a0_0 != 1) = false := bne_eq_false_iff_eq.mpr c8
        clear c8
        by_cases c9 : a0_3 ≥ 9223372036854775808
        · rw [if_pos c9] at H
          have c9b0 : decide (9223372036854775808 ≤ a0_3) = true := decide_eq_true c9
          clear c9
          by_cases c10 : a0_2 ≥ (-1099511627776)
          · rw [if_pos c10] at H
            have c10b0 : decide ((-1099511627776) ≤ a0_2) = true := decide_eq_true c10
            clear c10
            obtain rfl := Option.some.inj H
            go_enter Try.func16, Try.ntmps16
            go_wp2_with (first | ((with_reducible refine gate_dst (N := 1) rfl ?_); refine box_event ?hg (N := 1) ?hd (cs := #[.int .i64 a0_0, .bool a0_1, .int .i64 a0_2, .int .u64 a0_3, .int .u64 a0_4, .bool a0_5]) (t := 24) ?hr ?_; (case hd => rfl); (case hg => rfl); (case hr => first | (go_simp; done) | (go_simp; rfl)); intro gb199 hg w11 hbox hb; have n0_ := Aside0.mk (below_step (by repeat (first | (with_reducible first | exact HB.out | apply below_alloc | apply pw_below_drewN | apply below_drew1) | exact HB.out)) hb); have n1_ := Aside0.mk (hbox); have n2_ := Aside0.mk ((by rw [hg]; exact (below_size (by repeat (first | (with_reducible first | exact HB.out | apply below_alloc | apply pw_below_drewN | apply below_drew1) | exact HB.out))) : w.heap.size ≤ gb199)); have n3_ := Aside0.mk ((by rw [hg]; exact (below_size (by repeat (first | (with_reducible first | exact HB.out | apply below_alloc | apply pw_below_drewN | apply below_drew1) | exact HB.out))) : w.heap.size ≤ gb199)); clear HB; have HB := n0_; have BK199 := n1_; have GW199 := n2_; have GE199 := n3_; clear n0_ n1_ n2_ n3_; clear hb hbox hg; have hcz12_0 : w11.cell? ⟨gb199, 0, none⟩ = some (.int .i64 a0_0) := (blk_cell BK199.out 0).trans rfl; have hcz12_1 : w11.cell? ⟨gb199, 1, none⟩ = some (.bool a0_1) := (blk_cell BK199.out 1).trans rfl; have hcz12_2 : w11.cell? ⟨gb199, 2, none⟩ = some (.int .i64 a0_2) := (blk_cell BK199.out 2).trans rfl; have hcz12_3 : w11.cell? ⟨gb199, 3, none⟩ = some (.int .u64 a0_3) := (blk_cell BK199.out 3).trans rfl; have hcz12_4 : w11.cell? ⟨gb199, 4, none⟩ = some (.int .u64 a0_4) := (blk_cell BK199.out 4).trans rfl; have hcz12_5 : w11.cell? ⟨gb199, 5, none⟩ = some (.bool a0_5) := (blk_cell BK199.out 5).trans rfl; have hfz12_0 := blk_frozen BK199.out 0; have hfz12_1 := blk_frozen BK199.out 1; have hfz12_2 := blk_frozen BK199.out 2; have hfz12_3 := blk_frozen BK199.out 3; have hfz12_4 := blk_frozen BK199.out 4; have hfz12_5 := blk_frozen BK199.out 5))
            go_ret
            exact ⟨by first | rfl | (simp [errW_none, errW_some] <;> rfl) | (simp [*, errW_none, errW_some] <;> rfl), by repeat (first | (with_reducible first | exact HB.out | apply below_alloc | apply pw_below_drewN | apply below_drew1 | refine below_set ?_ GE199.out) | exact HB.out)⟩
          · rw [if_neg c10] at H
            have c10b0 : decide ((-1099511627776) ≤ a0_2) = false := decide_eq_false c10
            clear c10
            obtain rfl := Option.some.inj H
            go_enter Try.func16, Try.ntmps16
            go_wp2_with (first | ((with_reducible refine gate_dst (N := 1) rfl ?_); refine box_event ?hg (N := 1) ?hd (cs := #[.int .i64 a0_0, .bool a0_1, .int .i64 a0_2, .int .u64 a0_3, .int .u64 a0_4, .bool a0_5]) (t := 24) ?hr ?_; (case hd => rfl); (case hg => rfl); (case hr => first | (go_simp; done) | (go_simp; rfl)); intro gb199 hg w13 hbox hb; have n0_ := Aside0.mk (below_step (by repeat (first | (with_reducible first | exact HB.out | apply below_alloc | apply pw_below_drewN | apply below_drew1) | exact HB.out)) hb); have n1_ := Aside0.mk (hbox); have n2_ := Aside0.mk ((by rw [hg]; exact (below_size (by repeat (first | (with_reducible first | exact HB.out | apply below_alloc | apply pw_below_drewN | apply below_drew1) | exact HB.out))) : w.heap.size ≤ gb199)); have n3_ := Aside0.mk ((by rw [hg]; exact (below_size (by repeat (first | (with_reducible first | exact HB.out | apply below_alloc | apply pw_below_drewN | apply below_drew1) | exact HB.out))) : w.heap.size ≤ gb199)); clear HB; have HB := n0_; have BK199 := n1_; have GW199 := n2_; have GE199 := n3_; clear n0_ n1_ n2_ n3_; clear hb hbox hg; have hcz14_0 : w13.cell? ⟨gb199, 0, none⟩ = some (.int .i64 a0_0) := (blk_cell BK199.out 0).trans rfl; have hcz14_1 : w13.cell? ⟨gb199, 1, none⟩ = some (.bool a0_1) := (blk_cell BK199.out 1).trans rfl; have hcz14_2 : w13.cell? ⟨gb199, 2, none⟩ = some (.int .i64 a0_2) := (blk_cell BK199.out 2).trans rfl; have hcz14_3 : w13.cell? ⟨gb199, 3, none⟩ = some (.int .u64 a0_3) := (blk_cell BK199.out 3).trans rfl; have hcz14_4 : w13.cell? ⟨gb199, 4, none⟩ = some (.int .u64 a0_4) := (blk_cell BK199.out 4).trans rfl; have hcz14_5 : w13.cell? ⟨gb199, 5, none⟩ = some (.bool a0_5) := (blk_cell BK199.out 5).trans rfl; have hfz14_0 := blk_frozen BK199.out 0; have hfz14_1 := blk_frozen BK199.out 1; have hfz14_2 := blk_frozen BK199.out 2; have hfz14_3 := blk_frozen BK199.out 3; have hfz14_4 := blk_frozen BK199.out 4; have hfz14_5 := blk_frozen BK199.out 5))
            go_ret
            exact ⟨by first | rfl | (simp [errW_none, errW_some] <;> rfl) | (simp [*, errW_none, errW_some] <;> rfl), by repeat (first | (with_reducible first | exact HB.out | apply below_alloc | apply pw_below_drewN | apply below_drew1 | refine below_set ?_ GE199.out) | exact HB.out)⟩
        · rw [if_neg c9] at H
          have c9b0 : decide (9223372036854775808 ≤ a0_3) = false := decide_eq_false c9
          clear c9
          obtain rfl := Option.some.inj H
          go_enter Try.func16, Try.ntmps16
          go_wp2_with (first | ((with_reducible refine gate_dst (N := 1) rfl ?_); refine box_event ?hg (N := 1) ?hd (cs := #[.int .i64 a0_0, .bool a0_1, .int .i64 a0_2, .int .u64 a0_3, .int .u64 a0_4, .bool a0_5]) (t := 24) ?hr ?_; (case hd => rfl); (case hg => rfl); (case hr => first | (go_simp; done) | (go_simp; rfl)); intro gb199 hg w15 hbox hb; have n0_ := Aside0.mk (below_step (by repeat (first | (with_reducible first | exact HB.out | apply below_alloc | apply pw_below_drewN | apply below_drew1) | exact HB.out)) hb); have n1_ := Aside0.mk (hbox); have n2_ := Aside0.mk ((by rw [hg]; exact (below_size (by repeat (first | (with_reducible first | exact HB.out | apply below_alloc | apply pw_below_drewN | apply below_drew1) | exact HB.out))) : w.heap.size ≤ gb199)); have n3_ := Aside0.mk ((by rw [hg]; exact (below_size (by repeat (first | (with_reducible first | exact HB.out | apply below_alloc | apply pw_below_drewN | apply below_drew1) | exact HB.out))) : w.heap.size ≤ gb199)); clear HB; have HB := n0_; have BK199 := n1_; have GW199 := n2_; have GE199 := n3_; clear n0_ n1_ n2_ n3_; clear hb hbox hg; have hcz16_0 : w15.cell? ⟨gb199, 0, none⟩ = some (.int .i64 a0_0) := (blk_cell BK199.out 0).trans rfl; have hcz16_1 : w15.cell? ⟨gb199, 1, none⟩ = some (.bool a0_1) := (blk_cell BK199.out 1).trans rfl; have hcz16_2 : w15.cell? ⟨gb199, 2, none⟩ = some (.int .i64 a0_2) := (blk_cell BK199.out 2).trans rfl; have hcz16_3 : w15.cell? ⟨gb199, 3, none⟩ = some (.int .u64 a0_3) := (blk_cell BK199.out 3).trans rfl; have hcz16_4 : w15.cell? ⟨gb199, 4, none⟩ = some (.int .u64 a0_4) := (blk_cell BK199.out 4).trans rfl; have hcz16_5 : w15.cell? ⟨gb199, 5, none⟩ = some (.bool a0_5) := (blk_cell BK199.out 5).trans rfl; have hfz16_0 := blk_frozen BK199.out 0; have hfz16_1 := blk_frozen BK199.out 1; have hfz16_2 := blk_frozen BK199.out 2; have hfz16_3 := blk_frozen BK199.out 3; have hfz16_4 := blk_frozen BK199.out 4; have hfz16_5 := blk_frozen BK199.out 5))
          go_ret
          exact ⟨by first | rfl | (simp [errW_none, errW_some] <;> rfl) | (simp [*, errW_none, errW_some] <;> rfl), by repeat (first | (with_reducible first | exact HB.out | apply below_alloc | apply pw_below_drewN | apply below_drew1 | refine below_set ?_ GE199.out) | exact HB.out)⟩
      · rw [if_neg c8] at H
        have c8b0 : (a0_0 == 1) = false := beq_eq_false_iff_ne.mpr c8
        have c8b1 : (a0_0 != 1) = true := bne_iff_ne.mpr c8
        obtain rfl := Option.some.inj H
        go_enter Try.func16, Try.ntmps16
        go_wp2_with (first | ((with_reducible refine gate_dst (N := 1) rfl ?_); refine box_event ?hg (N := 1) ?hd (cs := #[.int .i64 a0_0, .bool a0_1, .int .i64 a0_2, .int .u64 a0_3, .int .u64 a0_4, .bool a0_5]) (t := 24) ?hr ?_; (case hd => rfl); (case hg => rfl); (case hr => first | (go_simp; done) | (go_simp; rfl)); intro gb199 hg w17 hbox hb; have n0_ := Aside0.mk (below_step (by repeat (first | (with_reducible first | exact HB.out | apply below_alloc | apply pw_below_drewN | apply below_drew1) | exact HB.out)) hb); have n1_ := Aside0.mk (hbox); have n2_ := Aside0.mk ((by rw [hg]; exact (below_size (by repeat (first | (with_reducible first | exact HB.out | apply below_alloc | apply pw_below_drewN | apply below_drew1) | exact HB.out))) : w.heap.size ≤ gb199)); have n3_ := Aside0.mk ((by rw [hg]; exact (below_size (by repeat (first | (with_reducible first | exact HB.out | apply below_alloc | apply pw_below_drewN | apply below_drew1) | exact HB.out))) : w.heap.size ≤ gb199)); clear HB; have HB := n0_; have BK199 := n1_; have GW199 := n2_; have GE199 := n3_; clear n0_ n1_ n2_ n3_; clear hb hbox hg; have hcz18_0 : w17.cell? ⟨gb199, 0, none⟩ = some (.int .i64 a0_0) := (blk_cell BK199.out 0).trans rfl; have hcz18_1 : w17.cell? ⟨gb199, 1, none⟩ = some (.bool a0_1) := (blk_cell BK199.out 1).trans rfl; have hcz18_2 : w17.cell? ⟨gb199, 2, none⟩ = some (.int .i64 a0_2) := (blk_cell BK199.out 2).trans rfl; have hcz18_3 : w17.cell? ⟨gb199, 3, none⟩ = some (.int .u64 a0_3) := (blk_cell BK199.out 3).trans rfl; have hcz18_4 : w17.cell? ⟨gb199, 4, none⟩ = some (.int .u64 a0_4) := (blk_cell BK199.out 4).trans rfl; have hcz18_5 : w17.cell? ⟨gb199, 5, none⟩ = some (.bool a0_5) := (blk_cell BK199.out 5).trans rfl; have hfz18_0 := blk_frozen BK199.out 0; have hfz18_1 := blk_frozen BK199.out 1; have hfz18_2 := blk_frozen BK199.out 2; have hfz18_3 := blk_frozen BK199.out 3; have hfz18_4 := blk_frozen BK199.out 4; have hfz18_5 := blk_frozen BK199.out 5))
        go_ret
        exact ⟨by first | rfl | (simp [errW_none, errW_some] <;> rfl) | (simp [*, errW_none, errW_some] <;> rfl), by repeat (first | (with_reducible first | exact HB.out | apply below_alloc | apply pw_below_drewN | apply below_drew1 | refine below_set ?_ GE199.out) | exact HB.out)⟩
end Go.Proofs.Ytfegofnplcmacaa.PAll
namespace Go.Proofs.Ytfegofnplcmacaa.PAll
open Go.RowKit Go.Proofs.YtfegofnplcmacaaW.PrintWords Go.Proofs.YtfegofnplcmacaaW.PrintLast Go.Proofs.YtfegofnplcmacaaW.PrintMore
attribute [local go_sem] max2_int min2_int max_two min_two max_three min_three max_four min_four
set_option linter.unusedVariables false
set_option linter.unusedSimpArgs false
def vernierref05_Is.f (a0 : Int) : Option (Bool) := if a0 = 8 then (some true) else (if a0 = 16 then (some true) else (if a0 = 32 then (some true) else (some (a0 == 64))))
set_option maxHeartbeats 8000000 in
set_option maxRecDepth 100000 in
theorem vernierref05_Is.calls (a0 : Int) (r : Bool) (w : World) (h : vernierref05_Is.f a0 = some r) :
    Calls Try.prog 17 #[.int .i64 a0] w fun e w' => e = .returned (.bool r) ∧ Drawn0 w w' := by
  have H : (if a0 = 8 then (some true) else (if a0 = 16 then (some true) else (if a0 = 32 then (some true) else (some (a0 == 64))))) = some r := h
  clear h
  by_cases c2 : a0 = 8
  · rw [if_pos c2] at H
    have c2b0 : (a0 == 8) = true := beq_iff_eq.mpr c2
    have c2b1 : (a0 != 8) = false := bne_eq_false_iff_eq.mpr c2
    clear c2
    obtain rfl := Option.some.inj H
    go_enter Try.func17, Try.ntmps17
    go_wp2
    go_ret
    exact ⟨by first | rfl | (simp; done) | (simp [*]; done), by repeat (first | exact Drawn0.refl _ | apply Drawn0.step)⟩
  · rw [if_neg c2] at H
    have c2b0 : (a0 == 8) = false := beq_eq_false_iff_ne.mpr c2
    have c2b1 : (a0 != 8) = true := bne_iff_ne.mpr c2
    by_cases c3 : a0 = 16
    · rw [if_pos c3] at H
      have c3b0 : (a0 == 16) = true := beq_iff_eq.mpr c3
      have c3b1 : (a0 != 16) = false := bne_eq_false_iff_eq.mpr c3
      clear c3
      obtain rfl := Option.some.inj H
      go_enter Try.func17, Try.ntmps17
      go_wp2
      go_ret
      exact ⟨by first | rfl | (simp; done) | (simp [*]; done), by repeat (first | exact Drawn0.refl _ | apply Drawn0.step)⟩
    · rw [if_neg c3] at H
      have c3b0 : (a0 == 16) = false := beq_eq_false_iff_ne.mpr c3
      have c3b1 : (a0 != 16) = true := bne_iff_ne.mpr c3
      by_cases c4 : a0 = 32
      · rw [if_pos c4] at H
        have c4b0 : (a0 == 32) = true := beq_iff_eq.mpr c4
        have c4b1 : (a0 != 32) = false := bne_eq_false_iff_eq.mpr c4
        clear c4
        obtain rfl := Option.some.inj H
        go_enter Try.func17, Try.ntmps17
        go_wp2
        go_ret
        exact ⟨by first | rfl | (simp; done) | (simp [*]; done), by repeat (first | exact Drawn0.refl _ | apply Drawn0.step)⟩
      · rw [if_neg c4] at H
        have c4b0 : (a0 == 32) = false := beq_eq_false_iff_ne.mpr c4
        have c4b1 : (a0 != 32) = true := bne_iff_ne.mpr c4
        obtain rfl := Option.some.inj H
        go_enter Try.func17, Try.ntmps17
        go_wp2
        go_ret
        exact ⟨by first | rfl | (simp; done) | (simp [*]; done), by repeat (first | exact Drawn0.refl _ | apply Drawn0.step)⟩
end Go.Proofs.Ytfegofnplcmacaa.PAll
namespace Go.Proofs.Ytfegofnplcmacaa.PAll
open Go.RowKit Go.Proofs.YtfegofnplcmacaaW.PrintWords Go.Proofs.YtfegofnplcmacaaW.PrintLast Go.Proofs.YtfegofnplcmacaaW.PrintMore
attribute [local go_sem] max2_int min2_int max_two min_two max_three min_three max_four min_four
set_option linter.unusedVariables false
set_option linter.unusedSimpArgs false
def vernierref05_Power.l0 : Nat → Int → Int → Int → Option (Int)
  | 0, _, _, _ => none
  | k + 1, x0, x3, x4 => if x4 < x0 then (vernierref05_Power.l0 k x0 (IntKind.u64.wrap (2 * x3)) (wrap64 (x4 + 1))) else (some x3)
def vernierref05_Power.f (k : Nat) (a0 : Int) : Option (Int) := vernierref05_Power.l0 k a0 1 0
theorem vernierref05_Power.mono_l : ∀ k, (∀ y0 y1 y2, LeO (vernierref05_Power.l0 k y0 y1 y2) (vernierref05_Power.l0 (k + 1) y0 y1 y2))
  | 0 => fun _ _ _ r h => by simp [vernierref05_Power.l0] at h
  | k + 1 => by
    have ih0 := vernierref05_Power.mono_l k
    · intro y0 y1 y2
      unfold vernierref05_Power.l0
      repeat' first
      | (with_reducible exact ih0 _ _ _)
      | (with_reducible exact LeO.refl _)
      | (with_reducible exact LeO.none _)
      | (with_reducible refine LeO.ite ?_ ?_)
      | (with_reducible refine LeO.bind ?_ (fun _ => ?_))
      | exact ih0 _ _ _
      | exact LeO.none _
      | refine LeO.ite ?_ ?_
      | refine LeO.bind ?_ (fun _ => ?_)
theorem vernierref05_Power.mono : ∀ a0 k, LeO (vernierref05_Power.f k a0) (vernierref05_Power.f (k + 1) a0) := by
  intro a0 k
  have ih0 := vernierref05_Power.mono_l k
  unfold vernierref05_Power.f
  repeat' first
      | (with_reducible exact ih0 _ _ _)
      | (with_reducible exact LeO.refl _)
      | (with_reducible exact LeO.none _)
      | (with_reducible refine LeO.ite ?_ ?_)
      | (with_reducible refine LeO.bind ?_ (fun _ => ?_))
      | exact ih0 _ _ _
      | exact LeO.none _
      | refine LeO.ite ?_ ?_
      | refine LeO.bind ?_ (fun _ => ?_)
set_option maxHeartbeats 8000000 in
set_option maxRecDepth 100000 in
theorem vernierref05_Power.calls (k : Nat) (a0 : Int) (r : Int) (w : World) (h : vernierref05_Power.f k a0 = some r) :
    Calls Try.prog 26 #[.int .i64 a0] w fun e w' => e = .returned (.int .u64 r) ∧ Drawn0 w w' := by
  have H : (vernierref05_Power.l0 k a0 1 0) = some r := h
  clear h
  have H' := Aside0.mk H
  clear H
  go_enter Try.func26, Try.ntmps26
  go_wp2
  go_loopg [3, 4] k (fun kq v3 v4 w' => ∃ (x3_1 : Int) (x4_1 : Int), v3 = .int .u64 x3_1 ∧ v4 = .int .i64 x4_1 ∧ Aside0 (vernierref05_Power.l0 kq a0 x3_1 x4_1 = some r) ∧ Aside0 (kq ≤ k) ∧ Drawn0 w w')
  case atStart => exact ⟨(1), (0), (by first | rfl | (simp; done) | (simp [*]; done)), (by first | rfl | (simp; done) | (simp [*]; done)), H', ⟨Nat.le_refl _⟩, by repeat (first | exact Drawn0.refl _ | apply Drawn0.step)⟩
  case round =>
    clear H'
    obtain ⟨x3_1, x4_1, rfl, rfl, HA, HK1, ⟨m1, rfl⟩⟩ := hrel
    cases gk with
    | zero => exact absurd HA.out (by simp [vernierref05_Power.l0])
    | succ k1 =>
      have H := HA.out
      clear HA
      simp only [vernierref05_Power.l0] at H
      by_cases c2 : x4_1 < a0
      · rw [if_pos c2] at H
        have c2b0 : decide (x4_1 < a0) = true := decide_eq_true c2
        clear c2
        have H' := Aside0.mk H
        clear H
        go_wp2
        go_roundg k1
        case measure => have := HK1.out; omega
        case rel => exact ⟨(IntKind.u64.wrap (2 * x3_1)), (wrap64 (x4_1 + 1)), (by first | rfl | (simp; done) | (simp [*]; done)), (by first | rfl | (simp; done) | (simp [*]; done)), H', ⟨by have := HK1.out; omega⟩, by repeat (first | exact Drawn0.refl _ | apply Drawn0.step)⟩
      · rw [if_neg c2] at H
        have c2b0 : decide (x4_1 < a0) = false := decide_eq_false c2
        clear c2
        obtain rfl := Option.some.inj H
        go_wp2
        go_ret
        exact ⟨by first | rfl | (simp; done) | (simp [*]; done), by repeat (first | exact Drawn0.refl _ | apply Drawn0.step)⟩
end Go.Proofs.Ytfegofnplcmacaa.PAll
namespace Go.Proofs.Ytfegofnplcmacaa.PAll
open Go.RowKit Go.Proofs.YtfegofnplcmacaaW.PrintWords Go.Proofs.YtfegofnplcmacaaW.PrintLast Go.Proofs.YtfegofnplcmacaaW.PrintMore
attribute [local go_sem] max2_int min2_int max_two min_two max_three min_three max_four min_four
set_option linter.unusedVariables false
set_option linter.unusedSimpArgs false
def vernierref06_regime.f (a0 : Int) : Option (Int) := if (wrap64 (4 * (wrap64 (Int.tdiv a0 4)))) > a0 then (some (wrap64 ((wrap64 (Int.tdiv a0 4)) - 1))) else (some (wrap64 (Int.tdiv a0 4)))
set_option maxHeartbeats 8000000 in
set_option maxRecDepth 100000 in
theorem vernierref06_regime.calls (a0 : Int) (r : Int) (w : World) (h : vernierref06_regime.f a0 = some r) :
    Calls Try.prog 56 #[.int .i64 a0] w fun e w' => e = .returned (.int .i64 r) ∧ Drawn0 w w' := by
  have H : (if (wrap64 (4 * (wrap64 (Int.tdiv a0 4)))) > a0 then (some (wrap64 ((wrap64 (Int.tdiv a0 4)) - 1))) else (some (wrap64 (Int.tdiv a0 4)))) = some r := h
  clear h
  by_cases c2 : (wrap64 (4 * (wrap64 (Int.tdiv a0 4)))) > a0
  · rw [if_pos c2] at H
    have c2b0 : decide (a0 < (wrap64 (4 * (wrap64 (Int.tdiv a0 4))))) = true := decide_eq_true c2
    clear c2
    obtain rfl := Option.some.inj H
    go_enter Try.func56, Try.ntmps56
    go_wp2
    go_ret
    exact ⟨by first | rfl | (simp; done) | (simp [*]; done), by repeat (first | exact Drawn0.refl _ | apply Drawn0.step)⟩
  · rw [if_neg c2] at H
    have c2b0 : decide (a0 < (wrap64 (4 * (wrap64 (Int.tdiv a0 4))))) = false := decide_eq_false c2
    clear c2
    obtain rfl := Option.some.inj H
    go_enter Try.func56, Try.ntmps56
    go_wp2
    go_ret
    exact ⟨by first | rfl | (simp; done) | (simp [*]; done), by repeat (first | exact Drawn0.refl _ | apply Drawn0.step)⟩
end Go.Proofs.Ytfegofnplcmacaa.PAll
namespace Go.Proofs.Ytfegofnplcmacaa.PAll
open Go.RowKit Go.Proofs.YtfegofnplcmacaaW.PrintWords Go.Proofs.YtfegofnplcmacaaW.PrintLast Go.Proofs.YtfegofnplcmacaaW.PrintMore
attribute [local go_sem] max2_int min2_int max_two min_two max_three min_three max_four min_four
set_option linter.unusedVariables false
set_option linter.unusedSimpArgs false
mutual
def vernierref06_Head.l0 : Nat → Int → Int → List Int → Int → Option (ByteArray)
  | 0, _, _, _, _ => none
  | k + 1, x0, x3, x4, x5 => if x5 ≤ x3 then (if x4.length < 140737488355328 then (vernierref06_Head.l0 k x0 x3 (x4 ++ [49]) (wrap64 (x5 + 1))) else (none)) else (vernierref06_Head.l1 k x0 x3 x4 0)
def vernierref06_Head.l1 : Nat → Int → Int → List Int → Int → Option (ByteArray)
  | 0, _, _, _, _ => none
  | k + 1, x0, x3, x4, x6 => if x6 > x3 then (if x4.length < 140737488355328 then (vernierref06_Head.l1 k x0 x3 (x4 ++ [48]) (wrap64 (x6 - 1))) else (none)) else (if x3 ≥ 0 then (if x4.length < 140737488355328 then ((some (x4 ++ [48] : List Int)).bind fun y210 => ((vernierref01_Text.f k (IntKind.u64.wrap (wrap64 (x0 - (wrap64 (4 * x3))))) 2).bind fun t213 => (if (strOfNums y210).size + t213.size ≤ 9223372036854775807 then (some ((strOfNums y210) ++ t213)) else (none)))) else (none)) else (if x4.length < 140737488355328 then ((some (x4 ++ [49] : List Int)).bind fun y214 => ((vernierref01_Text.f k (IntKind.u64.wrap (wrap64 (x0 - (wrap64 (4 * x3))))) 2).bind fun t217 => (if (strOfNums y214).size + t217.size ≤ 9223372036854775807 then (some ((strOfNums y214) ++ t217)) else (none)))) else (none)))
end
def vernierref06_Head.f (k : Nat) (a0 : Int) : Option (ByteArray) := (vernierref06_regime.f a0).bind fun t203 => (vernierref06_Head.l0 k a0 t203 ([] : List Int) 0)
theorem vernierref06_Head.mono_l : ∀ k, (∀ y0 y1 y2 y3, LeO (vernierref06_Head.l0 k y0 y1 y2 y3) (vernierref06_Head.l0 (k + 1) y0 y1 y2 y3)) ∧ (∀ y0 y1 y2 y3, LeO (vernierref06_Head.l1 k y0 y1 y2 y3) (vernierref06_Head.l1 (k + 1) y0 y1 y2 y3))
  | 0 => ⟨fun _ _ _ _ r h => by simp [vernierref06_Head.l0] at h, fun _ _ _ _ r h => by simp [vernierref06_Head.l1] at h⟩
  | k + 1 => by
    obtain ⟨ih0, ih1⟩ := vernierref06_Head.mono_l k
    refine ⟨?_, ?_⟩
    · intro y0 y1 y2 y3
      unfold vernierref06_Head.l0
      repeat' first
      | (with_reducible exact ih0 _ _ _ _)
      | (with_reducible exact ih1 _ _ _ _)
      | (with_reducible exact vernierref01_Text.mono _ _ _)
      | (with_reducible exact LeO.refl _)
      | (with_reducible exact LeO.none _)
      | (with_reducible refine LeO.ite ?_ ?_)
      | (with_reducible refine LeO.bind ?_ (fun _ => ?_))
      | exact ih0 _ _ _ _
      | exact ih1 _ _ _ _
      | exact vernierref01_Text.mono _ _ _
      | exact LeO.none _
      | refine LeO.ite ?_ ?_
      | refine LeO.bind ?_ (fun _ => ?_)
    · intro y0 y1 y2 y3
      unfold vernierref06_Head.l1
      repeat' first
      | (with_reducible exact ih0 _ _ _ _)
      | (with_reducible exact ih1 _ _ _ _)
      | (with_reducible exact vernierref01_Text.mono _ _ _)
      | (with_reducible exact LeO.refl _)
      | (with_reducible exact LeO.none _)
      | (with_reducible refine LeO.ite ?_ ?_)
      | (with_reducible refine LeO.bind ?_ (fun _ => ?_))
      | exact ih0 _ _ _ _
      | exact ih1 _ _ _ _
      | exact vernierref01_Text.mono _ _ _
      | exact LeO.none _
      | refine LeO.ite ?_ ?_
      | refine LeO.bind ?_ (fun _ => ?_)
theorem vernierref06_Head.mono : ∀ a0 k, LeO (vernierref06_Head.f k a0) (vernierref06_Head.f (k + 1) a0) := by
  intro a0 k
  obtain ⟨ih0, ih1⟩ := vernierref06_Head.mono_l k
  unfold vernierref06_Head.f
  repeat' first
      | (with_reducible exact ih0 _ _ _ _)
      | (with_reducible exact ih1 _ _ _ _)
      | (with_reducible exact vernierref01_Text.mono _ _ _)
      | (with_reducible exact LeO.refl _)
      | (with_reducible exact LeO.none _)
      | (with_reducible refine LeO.ite ?_ ?_)
      | (with_reducible refine LeO.bind ?_ (fun _ => ?_))
      | exact ih0 _ _ _ _
      | exact ih1 _ _ _ _
      | exact vernierref01_Text.mono _ _ _
      | exact LeO.none _
      | refine LeO.ite ?_ ?_
      | refine LeO.bind ?_ (fun _ => ?_)
def vernierref06_Head.T14 : Bool × List (List Nat × List Nat) := (true, [([], []), ([0], [0]), ([], []), ([], []), ([3], [3]), ([2, 4], [2, 4]), ([5], [5]), ([6], [6]), ([1, 7], [1, 7]), ([8, 7, 0, 1, 2, 3, 4, 5, 6, 7, 8], [8])])
def vernierref06_Head.B14 : List Nat := [0, 1, 0, 0, 8, 28, 60, 124, 255, 511]
theorem vernierref06_Head.tab14 : rtab .any (opsOf Try.f34 14) = vernierref06_Head.T14 := by kernel_rfl
theorem vernierref06_Head.bits14 : waitsOk vernierref06_Head.T14.2 vernierref06_Head.B14 = true := by kernel_rfl
set_option maxHeartbeats 8000000 in
set_option maxRecDepth 100000 in
theorem vernierref06_Head.calls (k : Nat) (a0 : Int) (r : ByteArray) (w : World) (h : vernierref06_Head.f k a0 = some r) :
    Calls Try.prog 34 #[.int .i64 a0] w fun e w' => e = .returned (.string r) ∧ Below w.heap.size w w' := by
  have HB := Aside0.mk (Below.refl w.heap.size w)
  have H : ((vernierref06_regime.f a0).bind fun t203 => (vernierref06_Head.l0 k a0 t203 ([] : List Int) 0)) = some r := h
  clear h
  replace H := Option.bind_eq_some_iff.mp H
  obtain ⟨t203, A20, H⟩ := H
  replace H : (vernierref06_Head.l0 k a0 t203 ([] : List Int) 0) = some r := H
  have A2 := Aside0.mk A20
  clear A20
  have H' := Aside0.mk H
  clear H
  go_enter Try.func34, Try.ntmps34
  go_wp2_with (first | ((with_reducible refine gate_callee (f := 56) rfl ?_); refine goesL_ (some 8) rfl rfl Try.func56 (by kernel_rfl) rfl #[.int .i64 a0] rfl (by (try simp only [List.map_toArray, List.map_cons, List.map_nil]); first | done | rfl | (simp only [List.length_drop, List.length_take]; rfl)) ?_; (with_reducible refine (vernierref06_regime.calls a0 t203 _ A2.out).mono ?_); rintro e w' ⟨rfl, ⟨nd, rfl⟩⟩; refine ⟨_, rfl, ?_⟩))
  go_loopg [4, 5] k (fun kq v4 v5 w' => ∃ (x4_1 : List Int) (x5_1 : Int), v5 = .int .i64 x5_1 ∧ Aside0 (vernierref06_Head.l0 kq a0 t203 x4_1 x5_1 = some r) ∧ Aside0 (kq ≤ k) ∧ Aside0 (Kd.R (Kd.int .u8) 5 w' w.heap.size (fun _ => True) v4 x4_1) ∧ Aside0 (Below w.heap.size w w'))
  case atStart => exact ⟨(([] : List Int)), (0), (by first | rfl | (simp; done) | (simp [*]; done)), H', ⟨Nat.le_refl _⟩, ⟨by first | exact Kd.R_nil _ _ _ _ _ | exact Kd.N_nil _ _ _ _ _ | exact Kd.V_nil _ _ _ _ _ | exact Kd.Q_nil _ _ _ _ _ | exact Kd.S_nil _ _ _ _ _⟩, ⟨by repeat (first | (with_reducible first | exact HB.out | apply below_alloc | apply pw_below_drewN | apply below_drew1) | exact HB.out)⟩⟩
  case round =>
    clear H'
    try clear p2
    obtain ⟨x4_1, x5_1, rfl, HA, HK1, HO_4, HB⟩ := hrel
    cases gk with
    | zero => exact absurd HA.out (by simp [vernierref06_Head.l0])
    | succ k1 =>
      have H := HA.out
      clear HA
      simp only [vernierref06_Head.l0] at H
      by_cases c3 : x5_1 ≤ t203
      · rw [if_pos c3] at H
        have c3b0 : decide (x5_1 ≤ t203) = true := decide_eq_true c3
        clear c3
        by_cases c4 : x4_1.length < 140737488355328
        · rw [if_pos c4] at H
          have LMc4 := Aside0.mk c4
          clear c4
          obtain ⟨y204, hy204⟩ : ∃ y_ : List Int, y_ = (x4_1 ++ [49]) := ⟨_, rfl⟩
          replace H : (vernierref06_Head.l0 k1 a0 t203 y204 (wrap64 (x5_1 + 1))) = some r := by first | (rw [hy204]; with_reducible exact H) | (have H2_ := (Option.bind_some _ _).symm.trans H; rw [hy204]; with_reducible exact H2_) | (have H2_ := (Option.bind_some _ _).symm.trans H; with_reducible exact H2_) | with_reducible exact H | (rw [hy204]; exact H) | exact H
          have Ny204 := Aside0.mk hy204
          clear hy204
          have H' := Aside0.mk H
          clear H
          go_wp2_with (first | ((with_reducible refine gate_builtin (b := .append) (xs := #[.tmp 14, .tmp 15]) rfl ?_); at_builtin; refine Kd.R_append (Kd.int .u8) (w0 := w) w.heap.size rfl (.tmp 14) (.tmp 15) 97 5 (.int .u8 0) 1 rfl Try.underlying97 info5 rfl (by decide) (by omega) u4 x4_1 49 [.int .u8 49] (fun _ => True) (fun _ => False) rfl rfl ?aP (fun _ hk => hk.elim) ?aF ?aO ?aB ?aS ?aL ?_; (case aP => exact rfl); (case aB => exact (by repeat (first | (with_reducible first | exact HB.out | apply below_alloc | apply pw_below_drewN | apply below_drew1) | exact HB.out))); (case aF => exact (fun _ _ => trivial)); (case aO => exact (by (with_reducible repeat (first | apply Kd.R_alloc | apply Kd.R_drewN | apply Kd.R_drew)); exact HO_4.out)); (case aS => exact (below_size (by repeat (first | (with_reducible first | exact HB.out | apply below_alloc | apply pw_below_drewN | apply below_drew1) | exact HB.out)))); (case aL => have := LMc4.out; omega); intro v205 w5 ho hb hg hat; rw [← Ny204.out] at ho; have n0_ := Aside0.mk (hb); have n1_ := Aside0.mk (ho); clear HB; clear HO_4; have HB := n0_; have HO206 := n1_; clear n0_ n1_; clear ho hb hg hat))
          go_roundg k1
          case measure => have := HK1.out; omega
          case rel => exact ⟨(y204), (wrap64 (x5_1 + 1)), (by first | rfl | (simp; done) | (simp [*]; done)), H', ⟨by have := HK1.out; omega⟩, ⟨by (with_reducible repeat (first | apply Kd.R_alloc | apply Kd.R_drewN | apply Kd.R_drew)); exact HO206.out⟩, ⟨by repeat (first | (with_reducible first | exact HB.out | apply below_alloc | apply pw_below_drewN | apply below_drew1) | exact HB.out)⟩⟩
        · rw [if_neg c4] at H
          exact absurd H (by simp)
      · rw [if_neg c3] at H
        have c3b0 : decide (x5_1 ≤ t203) = false := decide_eq_false c3
        clear c3
        have H' := Aside0.mk H
        clear H
        go_wp2
        go_loopg [4, 6] k1 (fun kq v4 v6 w' => ∃ (x4_2 : List Int) (x6_2 : Int), v6 = .int .i64 x6_2 ∧ Aside0 (vernierref06_Head.l1 kq a0 t203 x4_2 x6_2 = some r) ∧ Aside0 (kq ≤ k1) ∧ Aside0 (Kd.R (Kd.int .u8) 5 w' w.heap.size (fun _ => True) v4 x4_2) ∧ Aside0 (Below w.heap.size w w'))
        case atStart => exact ⟨(x4_1), (0), (by first | rfl | (simp; done) | (simp [*]; done)), H', ⟨Nat.le_refl _⟩, ⟨by (with_reducible repeat (first | apply Kd.R_alloc | apply Kd.R_drewN | apply Kd.R_drew)); exact HO_4.out⟩, ⟨by repeat (first | (with_reducible first | exact HB.out | apply below_alloc | apply pw_below_drewN | apply below_drew1) | exact HB.out)⟩⟩
        case round =>
          clear H'
          try clear p2
          try clear c3
          try clear c3b0
          try clear c4
          try clear c5
          try clear p2
          obtain ⟨x4_2, x6_2, rfl, HA, HK2, HO_4, HB⟩ := hrel
          cases gk with
          | zero => exact absurd HA.out (by simp [vernierref06_Head.l1])
          | succ k2 =>
            have H := HA.out
            clear HA
            simp only [vernierref06_Head.l1] at H
            by_cases c6 : x6_2 > t203
            · rw [if_pos c6] at H
              have c6b0 : decide (t203 < x6_2) = true := decide_eq_true c6
              clear c6
              by_cases c7 : x4_2.length < 140737488355328
              · rw [if_pos c7] at H
                have LMc7 := Aside0.mk c7
                clear c7
                obtain ⟨y207, hy207⟩ : ∃ y_ : List Int, y_ = (x4_2 ++ [48]) := ⟨_, rfl⟩
                replace H : (vernierref06_Head.l1 k2 a0 t203 y207 (wrap64 (x6_2 - 1))) = some r := by first | (rw [hy207]; with_reducible exact H) | (have H2_ := (Option.bind_some _ _).symm.trans H; rw [hy207]; with_reducible exact H2_) | (have H2_ := (Option.bind_some _ _).symm.trans H; with_reducible exact H2_) | with_reducible exact H | (rw [hy207]; exact H) | exact H
                have Ny207 := Aside0.mk hy207
                clear hy207
                have H' := Aside0.mk H
                clear H
                go_wp2_with (first | ((with_reducible refine gate_builtin (b := .append) (xs := #[.tmp 22, .tmp 23]) rfl ?_); at_builtin; refine Kd.R_append (Kd.int .u8) (w0 := w) w.heap.size rfl (.tmp 22) (.tmp 23) 97 5 (.int .u8 0) 1 rfl Try.underlying97 info5 rfl (by decide) (by omega) u4 x4_2 48 [.int .u8 48] (fun _ => True) (fun _ => False) rfl rfl ?aP (fun _ hk => hk.elim) ?aF ?aO ?aB ?aS ?aL ?_; (case aP => exact rfl); (case aB => exact (by repeat (first | (with_reducible first | exact HB.out | apply below_alloc | apply pw_below_drewN | apply below_drew1) | exact HB.out))); (case aF => exact (fun _ _ => trivial)); (case aO => exact (by (with_reducible repeat (first | apply Kd.R_alloc | apply Kd.R_drewN | apply Kd.R_drew)); exact HO_4.out)); (case aS => exact (below_size (by repeat (first | (with_reducible first | exact HB.out | apply below_alloc | apply pw_below_drewN | apply below_drew1) | exact HB.out)))); (case aL => have := LMc7.out; omega); intro v208 w8 ho hb hg hat; rw [← Ny207.out] at ho; have n0_ := Aside0.mk (hb); have n1_ := Aside0.mk (ho); clear HB; clear HO_4; have HB := n0_; have HO209 := n1_; clear n0_ n1_; clear ho hb hg hat))
                go_roundg k2
                case measure => have := HK1.out; have := HK2.out; omega
                case rel => exact ⟨(y207), (wrap64 (x6_2 - 1)), (by first | rfl | (simp; done) | (simp [*]; done)), H', ⟨by have := HK1.out; have := HK2.out; omega⟩, ⟨by (with_reducible repeat (first | apply Kd.R_alloc | apply Kd.R_drewN | apply Kd.R_drew)); exact HO209.out⟩, ⟨by repeat (first | (with_reducible first | exact HB.out | apply below_alloc | apply pw_below_drewN | apply below_drew1) | exact HB.out)⟩⟩
              · rw [if_neg c7] at H
                exact absurd H (by simp)
            · rw [if_neg c6] at H
              have c6b0 : decide (t203 < x6_2) = false := decide_eq_false c6
              clear c6
              by_cases c9 : t203 ≥ 0
              · rw [if_pos c9] at H
                have c9b0 : decide (0 ≤ t203) = true := decide_eq_true c9
                clear c9
                by_cases c10 : x4_2.length < 140737488355328
                · rw [if_pos c10] at H
                  have LMc10 := Aside0.mk c10
                  clear c10
                  obtain ⟨y210, hy210⟩ : ∃ y_ : List Int, y_ = (x4_2 ++ [48]) := ⟨_, rfl⟩
                  replace H : ((vernierref01_Text.f k2 (IntKind.u64.wrap (wrap64 (a0 - (wrap64 (4 * t203))))) 2).bind fun t213 => (if (strOfNums y210).size + t213.size ≤ 9223372036854775807 then (some ((strOfNums y210) ++ t213)) else (none))) = some r := by first | (rw [hy210]; with_reducible exact H) | (have H2_ := (Option.bind_some _ _).symm.trans H; rw [hy210]; with_reducible exact H2_) | (have H2_ := (Option.bind_some _ _).symm.trans H; with_reducible exact H2_) | with_reducible exact H | (rw [hy210]; exact H) | exact H
                  have Ny210 := Aside0.mk hy210
                  clear hy210
                  replace H := Option.bind_eq_some_iff.mp H
                  obtain ⟨t213, A110, H⟩ := H
                  replace H : (if (strOfNums y210).size + t213.size ≤ 9223372036854775807 then (some ((strOfNums y210) ++ t213)) else (none)) = some r := H
                  have A11 := Aside0.mk A110
                  clear A110
                  by_cases c12 : (strOfNums y210).size + t213.size ≤ 9223372036854775807
                  · rw [if_pos c12] at H
                    have c12b0 := eq_true c12
                    have c12b1 : decide ((strOfNums y210).size + t213.size ≤ 9223372036854775807) = true := decide_eq_true c12
                    try have c12b2 : (9223372036854775807 < (strOfNums y210).size + t213.size) = False := eq_false (Nat.not_lt.2 c12)
                    obtain rfl := Option.some.inj H
                    try go_wp2_with (first | ((with_reducible refine gate_builtin (b := .append) (xs := #[.tmp 27, .tmp 28]) rfl ?_); at_builtin; refine Kd.R_append (Kd.int .u8) (w0 := w) w.heap.size rfl (.tmp 27) (.tmp 28) 97 5 (.int .u8 0) 1 rfl Try.underlying97 info5 rfl (by decide) (by omega) u4 x4_2 48 [.int .u8 48] (fun _ => True) (fun _ => False) rfl rfl ?aP (fun _ hk => hk.elim) ?aF ?aO ?aB ?aS ?aL ?_; (case aP => exact rfl); (case aB => exact (by repeat (first | (with_reducible first | exact HB.out | apply below_alloc | apply pw_below_drewN | apply below_drew1) | exact HB.out))); (case aF => exact (fun _ _ => trivial)); (case aO => exact (by (with_reducible repeat (first | apply Kd.R_alloc | apply Kd.R_drewN | apply Kd.R_drew)); exact HO_4.out)); (case aS => exact (below_size (by repeat (first | (with_reducible first | exact HB.out | apply below_alloc | apply pw_below_drewN | apply below_drew1) | exact HB.out)))); (case aL => have := LMc10.out; omega); intro v211 w13 ho hb hg hat; rw [← Ny210.out] at ho; have n0_ := Aside0.mk (hb); have n1_ := Aside0.mk (ho); clear HB; clear HO_4; have HB := n0_; have HO212 := n1_; clear n0_ n1_; clear ho hb hg hat))
                    have n0_ := Aside0.mk (Kd.R_drew HO212.out)
                    have n1_ := Aside0.mk (below_drew1 HB.out)
                    clear HO212
                    clear HB
                    have HO212 := n0_
                    have HB := n1_
                    clear n0_ n1_
                    refine start_ (n := 10) (S := fun w' => (convert 97 9 v211).run Try.prog w' = .ok (.string (strOfNums y210)) w') (ds := []) #[false, false, false, false, false, false, false, false, false, false] (by kernel_rfl) rfl rfl (own_string (P := Try.prog) Try.underlying97 Try.underlying5 Try.underlying9 (Kd.own_of_R HO212.out)) (fun hHeld => ?_); refine with_tabW vernierref06_Head.tab14 vernierref06_Head.bits14 (fun HT_ HW_ => ?_)
                    generalize w13.drew = w14 at HO212 HB hHeld ⊢
                    refine pure_ (i := 0) (N := some 33) (v := ?_) (a' := ?_) #[true, false, false, false, false, false, false, false, false, false] rfl rfl (any_of HT_.out (by kernel_rfl)) (fun _ _ _ h => h) (Or.inl ⟨by rfl, ?_⟩) ?_ ?_
                    rotate_left
                    · intro w'
                      go_simp
                      with_reducible rfl
                    rotate_left
                    · simp only [Act.put, List.setIfInBounds_toArray, List.set_cons_zero, List.set_cons_succ, i64_w, i32_w]
                      rfl
                    refine take_ (i := 1) (N := some 34) (v := ?_) (a' := ?_) #[true, true, false, false, false, false, false, false, false, false] rfl rfl (take_ofW HT_.out HW_.out (by kernel_rfl)) (fun _ _ _ h => h) (Or.inl ⟨by rfl, ?_⟩) hHeld ?_ ?_
                    rotate_left
                    · intro w' s0
                      go_simp
                      with_reducible rfl
                    rotate_left
                    · simp only [Act.put, List.setIfInBounds_toArray, List.set_cons_zero, List.set_cons_succ, i64_w, i32_w]
                      rfl
                    refine pure_ (i := 2) (N := some 35) (v := ?_) (a' := ?_) #[true, true, true, false, false, false, false, false, false, false] rfl rfl (any_of HT_.out (by kernel_rfl)) (fun _ _ _ h => h) (Or.inl ⟨by rfl, ?_⟩) ?_ ?_
                    rotate_left
                    · intro w'
                      go_simp
                      with_reducible rfl
                    rotate_left
                    · simp only [Act.put, List.setIfInBounds_toArray, List.set_cons_zero, List.set_cons_succ, i64_w, i32_w]
                      rfl
                    refine pure_ (i := 3) (N := some 36) (v := ?_) (a' := ?_) #[true, true, true, true, false, false, false, false, false, false] rfl rfl (any_of HT_.out (by kernel_rfl)) (fun _ _ _ h => h) (Or.inl ⟨by rfl, ?_⟩) ?_ ?_
                    rotate_left
                    · intro w'
                      go_simp
                      with_reducible rfl
                    rotate_left
                    · simp only [Act.put, List.setIfInBounds_toArray, List.set_cons_zero, List.set_cons_succ, i64_w, i32_w]
                      rfl
                    refine pure_ (i := 4) (N := some 37) (v := ?_) (a' := ?_) #[true, true, true, true, true, false, false, false, false, false] rfl rfl (any_of HT_.out (by kernel_rfl)) (fun _ _ _ h => h) (Or.inl ⟨by rfl, ?_⟩) ?_ ?_
                    rotate_left
                    · intro w'
                      go_simp
                      with_reducible rfl
                    rotate_left
                    · simp only [Act.put, List.setIfInBounds_toArray, List.set_cons_zero, List.set_cons_succ, i64_w, i32_w]
                      rfl
                    refine pure_ (i := 5) (N := some 38) (v := ?_) (a' := ?_) #[true, true, true, true, true, true, false, false, false, false] rfl rfl (any_of HT_.out (by kernel_rfl)) (fun _ _ _ h => h) (Or.inl ⟨by rfl, ?_⟩) ?_ ?_
                    rotate_left
                    · intro w'
                      go_simp
                      with_reducible rfl
                    rotate_left
                    · simp only [Act.put, List.setIfInBounds_toArray, List.set_cons_zero, List.set_cons_succ, i64_w, i32_w]
                      rfl
                    refine pure_ (i := 6) (N := some 39) (v := ?_) (a' := ?_) #[true, true, true, true, true, true, true, false, false, false] rfl rfl (any_of HT_.out (by kernel_rfl)) (fun _ _ _ h => h) (Or.inl ⟨by rfl, ?_⟩) ?_ ?_
                    rotate_left
                    · intro w'
                      go_simp
                      with_reducible rfl
                    rotate_left
                    · simp only [Act.put, List.setIfInBounds_toArray, List.set_cons_zero, List.set_cons_succ, i64_w, i32_w]
                      rfl
                    refine one_ (i := 7) (N := some 40) #[true, true, true, true, true, true, true, true, false, false] rfl rfl (one_of HT_.out (by kernel_rfl)) (by decide) (fun K hK => ?_)
                    refine goes_ Try.func32 (by kernel_rfl) rfl #[.int .u64 (IntKind.u64.wrap (wrap64 (a0 - (wrap64 (4 * t203))))), .int .i64 2] (by rfl) rfl rfl (by (try simp only [List.map_toArray, List.map_cons, List.map_nil]); first | done | rfl | (simp only [List.length_drop, List.length_take]; rfl)) ?_
                    with_reducible refine (vernierref01_Text.calls k2 (IntKind.u64.wrap (wrap64 (a0 - (wrap64 (4 * t203))))) 2 t213 _ A11.out).mono ?_
                    rintro e w16 ⟨rfl, hb⟩
                    refine ⟨_, rfl, ?_⟩
                    have n0_ := Aside0.mk (Kd.R_below (by (with_reducible repeat (first | apply Kd.R_alloc | apply Kd.R_drewN | apply Kd.R_drew)); exact HO212.out) hb)
                    have n1_ := Aside0.mk (below_step (by repeat (first | (with_reducible first | exact HB.out | apply below_alloc | apply pw_below_drewN | apply below_drew1) | exact HB.out)) hb)
                    clear HO212
                    clear HB
                    have HO212 := n0_
                    have HB := n1_
                    clear n0_ n1_
                    (try clear hb)
                    (try clear hb2)
                    (try clear hk)
                    (try clear hi)
                    refine hK.out _ _ (own_string (P := Try.prog) Try.underlying97 Try.underlying5 Try.underlying9 (Kd.own_of_R HO212.out)) (fun hHeld => ?_)
                    clear hK K
                    refine norm_ (a' := ?_) ?_ ?_
                    rotate_left
                    · show Act.put _ (some 40) _ = _
                      simp only [Act.put, List.setIfInBounds_toArray, List.set_cons_zero, List.set_cons_succ, i64_w, i32_w]
                      rfl
                    refine pure_ (i := 8) (N := some 41) (v := ?_) (a' := ?_) #[true, true, true, true, true, true, true, true, true, false] rfl rfl (any_of HT_.out (by kernel_rfl)) (fun _ _ _ h => h) (Or.inl ⟨by rfl, ?_⟩) ?_ ?_
                    rotate_left
                    · intro w'
                      go_simp
                      with_reducible rfl
                    rotate_left
                    · simp only [Act.put, List.setIfInBounds_toArray, List.set_cons_zero, List.set_cons_succ, i64_w, i32_w]
                      rfl
                    refine pure_ (i := 9) (N := some 2) (v := ?_) (a' := ?_) #[true, true, true, true, true, true, true, true, true, true] rfl rfl (any_of HT_.out (by kernel_rfl)) (fun _ _ _ h => h) (Or.inl ⟨by rfl, ?_⟩) ?_ ?_
                    rotate_left
                    · intro w'
                      go_simp
                      with_reducible rfl
                    rotate_left
                    · simp only [Act.put, List.setIfInBounds_toArray, List.set_cons_zero, List.set_cons_succ, i64_w, i32_w]
                      rfl
                    refine done_ (done_of HT_.out (by kernel_rfl)) ?_
                    try go_wp2
                    go_ret
                    exact ⟨by first | rfl | (simp [errW_none, errW_some] <;> rfl) | (simp [*, errW_none, errW_some] <;> rfl), by repeat (first | (with_reducible first | exact HB.out | apply below_alloc | apply pw_below_drewN | apply below_drew1) | exact HB.out)⟩
                  · rw [if_neg c12] at H
                    exact absurd H (by simp)
                · rw [if_neg c10] at H
                  exact absurd H (by simp)
              · rw [if_neg c9] at H
                have c9b0 : decide (0 ≤ t203) = false := decide_eq_false c9
                clear c9
                by_cases c18 : x4_2.length < 140737488355328
                · rw [if_pos c18] at H
                  have LMc18 := Aside0.mk c18
                  clear c18
                  obtain ⟨y214, hy214⟩ : ∃ y_ : List Int, y_ = (x4_2 ++ [49]) := ⟨_, rfl⟩
                  replace H : ((vernierref01_Text.f k2 (IntKind.u64.wrap (wrap64 (a0 - (wrap64 (4 * t203))))) 2).bind fun t217 => (if (strOfNums y214).size + t217.size ≤ 9223372036854775807 then (some ((strOfNums y214) ++ t217)) else (none))) = some r := by first | (rw [hy214]; with_reducible exact H) | (have H2_ := (Option.bind_some _ _).symm.trans H; rw [hy214]; with_reducible exact H2_) | (have H2_ := (Option.bind_some _ _).symm.trans H; with_reducible exact H2_) | with_reducible exact H | (rw [hy214]; exact H) | exact H
                  have Ny214 := Aside0.mk hy214
                  clear hy214
                  replace H := Option.bind_eq_some_iff.mp H
                  obtain ⟨t217, A190, H⟩ := H
                  replace H : (if (strOfNums y214).size + t217.size ≤ 9223372036854775807 then (some ((strOfNums y214) ++ t217)) else (none)) = some r := H
                  have A19 := Aside0.mk A190
                  clear A190
                  by_cases c20 : (strOfNums y214).size + t217.size ≤ 9223372036854775807
                  · rw [if_pos c20] at H
                    have c20b0 := eq_true c20
                    have c20b1 : decide ((strOfNums y214).size + t217.size ≤ 9223372036854775807) = true := decide_eq_true c20
                    try have c20b2 : (9223372036854775807 < (strOfNums y214).size + t217.size) = False := eq_false (Nat.not_lt.2 c20)
                    obtain rfl := Option.some.inj H
                    try go_wp2_with (first | ((with_reducible refine gate_builtin (b := .append) (xs := #[.tmp 30, .tmp 31]) rfl ?_); at_builtin; refine Kd.R_append (Kd.int .u8) (w0 := w) w.heap.size rfl (.tmp 30) (.tmp 31) 97 5 (.int .u8 0) 1 rfl Try.underlying97 info5 rfl (by decide) (by omega) u4 x4_2 49 [.int .u8 49] (fun _ => True) (fun _ => False) rfl rfl ?aP (fun _ hk => hk.elim) ?aF ?aO ?aB ?aS ?aL ?_; (case aP => exact rfl); (case aB => exact (by repeat (first | (with_reducible first | exact HB.out | apply below_alloc | apply pw_below_drewN | apply below_drew1) | exact HB.out))); (case aF => exact (fun _ _ => trivial)); (case aO => exact (by (with_reducible repeat (first | apply Kd.R_alloc | apply Kd.R_drewN | apply Kd.R_drew)); exact HO_4.out)); (case aS => exact (below_size (by repeat (first | (with_reducible first | exact HB.out | apply below_alloc | apply pw_below_drewN | apply below_drew1) | exact HB.out)))); (case aL => have := LMc18.out; omega); intro v215 w21 ho hb hg hat; rw [← Ny214.out] at ho; have n0_ := Aside0.mk (hb); have n1_ := Aside0.mk (ho); clear HB; clear HO_4; have HB := n0_; have HO216 := n1_; clear n0_ n1_; clear ho hb hg hat))
                    have n0_ := Aside0.mk (Kd.R_drew HO216.out)
                    have n1_ := Aside0.mk (below_drew1 HB.out)
                    clear HO216
                    clear HB
                    have HO216 := n0_
                    have HB := n1_
                    clear n0_ n1_
                    refine start_ (n := 10) (S := fun w' => (convert 97 9 v215).run Try.prog w' = .ok (.string (strOfNums y214)) w') (ds := []) #[false, false, false, false, false, false, false, false, false, false] (by kernel_rfl) rfl rfl (own_string (P := Try.prog) Try.underlying97 Try.underlying5 Try.underlying9 (Kd.own_of_R HO216.out)) (fun hHeld => ?_); refine with_tabW vernierref06_Head.tab14 vernierref06_Head.bits14 (fun HT_ HW_ => ?_)
                    generalize w21.drew = w22 at HO216 HB hHeld ⊢
                    refine pure_ (i := 0) (N := some 33) (v := ?_) (a' := ?_) #[true, false, false, false, false, false, false, false, false, false] rfl rfl (any_of HT_.out (by kernel_rfl)) (fun _ _ _ h => h) (Or.inl ⟨by rfl, ?_⟩) ?_ ?_
                    rotate_left
                    · intro w'
                      go_simp
                      with_reducible rfl
                    rotate_left
                    · simp only [Act.put, List.setIfInBounds_toArray, List.set_cons_zero, List.set_cons_succ, i64_w, i32_w]
                      rfl
                    refine take_ (i := 1) (N := some 34) (v := ?_) (a' := ?_) #[true, true, false, false, false, false, false, false, false, false] rfl rfl (take_ofW HT_.out HW_.out (by kernel_rfl)) (fun _ _ _ h => h) (Or.inl ⟨by rfl, ?_⟩) hHeld ?_ ?_
                    rotate_left
                    · intro w' s0
                      go_simp
                      with_reducible rfl
                    rotate_left
                    · simp only [Act.put, List.setIfInBounds_toArray, List.set_cons_zero, List.set_cons_succ, i64_w, i32_w]
                      rfl
                    refine pure_ (i := 2) (N := some 35) (v := ?_) (a' := ?_) #[true, true, true, false, false, false, false, false, false, false] rfl rfl (any_of HT_.out (by kernel_rfl)) (fun _ _ _ h => h) (Or.inl ⟨by rfl, ?_⟩) ?_ ?_
                    rotate_left
                    · intro w'
                      go_simp
                      with_reducible rfl
                    rotate_left
                    · simp only [Act.put, List.setIfInBounds_toArray, List.set_cons_zero, List.set_cons_succ, i64_w, i32_w]
                      rfl
                    refine pure_ (i := 3) (N := some 36) (v := ?_) (a' := ?_) #[true, true, true, true, false, false, false, false, false, false] rfl rfl (any_of HT_.out (by kernel_rfl)) (fun _ _ _ h => h) (Or.inl ⟨by rfl, ?_⟩) ?_ ?_
                    rotate_left
                    · intro w'
                      go_simp
                      with_reducible rfl
                    rotate_left
                    · simp only [Act.put, List.setIfInBounds_toArray, List.set_cons_zero, List.set_cons_succ, i64_w, i32_w]
                      rfl
                    refine pure_ (i := 4) (N := some 37) (v := ?_) (a' := ?_) #[true, true, true, true, true, false, false, false, false, false] rfl rfl (any_of HT_.out (by kernel_rfl)) (fun _ _ _ h => h) (Or.inl ⟨by rfl, ?_⟩) ?_ ?_
                    rotate_left
                    · intro w'
                      go_simp
                      with_reducible rfl
                    rotate_left
                    · simp only [Act.put, List.setIfInBounds_toArray, List.set_cons_zero, List.set_cons_succ, i64_w, i32_w]
                      rfl
                    refine pure_ (i := 5) (N := some 38) (v := ?_) (a' := ?_) #[true, true, true, true, true, true, false, false, false, false] rfl rfl (any_of HT_.out (by kernel_rfl)) (fun _ _ _ h => h) (Or.inl ⟨by rfl, ?_⟩) ?_ ?_
                    rotate_left
                    · intro w'
                      go_simp
                      with_reducible rfl
                    rotate_left
                    · simp only [Act.put, List.setIfInBounds_toArray, List.set_cons_zero, List.set_cons_succ, i64_w, i32_w]
                      rfl
                    refine pure_ (i := 6) (N := some 39) (v := ?_) (a' := ?_) #[true, true, true, true, true, true, true, false, false, false] rfl rfl (any_of HT_.out (by kernel_rfl)) (fun _ _ _ h => h) (Or.inl ⟨by rfl, ?_⟩) ?_ ?_
                    rotate_left
                    · intro w'
                      go_simp
                      with_reducible rfl
                    rotate_left
                    · simp only [Act.put, List.setIfInBounds_toArray, List.set_cons_zero, List.set_cons_succ, i64_w, i32_w]
                      rfl
                    refine one_ (i := 7) (N := some 40) #[true, true, true, true, true, true, true, true, false, false] rfl rfl (one_of HT_.out (by kernel_rfl)) (by decide) (fun K hK => ?_)
                    refine goes_ Try.func32 (by kernel_rfl) rfl #[.int .u64 (IntKind.u64.wrap (wrap64 (a0 - (wrap64 (4 * t203))))), .int .i64 2] (by rfl) rfl rfl (by (try simp only [List.map_toArray, List.map_cons, List.map_nil]); first | done | rfl | (simp only [List.length_drop, List.length_take]; rfl)) ?_
                    with_reducible refine (vernierref01_Text.calls k2 (IntKind.u64.wrap (wrap64 (a0 - (wrap64 (4 * t203))))) 2 t217 _ A19.out).mono ?_
                    rintro e w24 ⟨rfl, hb⟩
                    refine ⟨_, rfl, ?_⟩
                    have n0_ := Aside0.mk (Kd.R_below (by (with_reducible repeat (first | apply Kd.R_alloc | apply Kd.R_drewN | apply Kd.R_drew)); exact HO216.out) hb)
                    have n1_ := Aside0.mk (below_step (by repeat (first | (with_reducible first | exact HB.out | apply below_alloc | apply pw_below_drewN | apply below_drew1) | exact HB.out)) hb)
                    clear HO216
                    clear HB
                    have HO216 := n0_
                    have HB := n1_
                    clear n0_ n1_
                    (try clear hb)
                    (try clear hb2)
                    (try clear hk)
                    (try clear hi)
                    refine hK.out _ _ (own_string (P := Try.prog) Try.underlying97 Try.underlying5 Try.underlying9 (Kd.own_of_R HO216.out)) (fun hHeld => ?_)
                    clear hK K
                    refine norm_ (a' := ?_) ?_ ?_
                    rotate_left
                    · show Act.put _ (some 40) _ = _
                      simp only [Act.put, List.setIfInBounds_toArray, List.set_cons_zero, List.set_cons_succ, i64_w, i32_w]
                      rfl
                    refine pure_ (i := 8) (N := some 41) (v := ?_) (a' := ?_) #[true, true, true, true, true, true, true, true, true, false] rfl rfl (any_of HT_.out (by kernel_rfl)) (fun _ _ _ h => h) (Or.inl ⟨by rfl, ?_⟩) ?_ ?_
                    rotate_left
                    · intro w'
                      go_simp
                      with_reducible rfl
                    rotate_left
                    · simp only [Act.put, List.setIfInBounds_toArray, List.set_cons_zero, List.set_cons_succ, i64_w, i32_w]
                      rfl
                    refine pure_ (i := 9) (N := some 2) (v := ?_) (a' := ?_) #[true, true, true, true, true, true, true, true, true, true] rfl rfl (any_of HT_.out (by kernel_rfl)) (fun _ _ _ h => h) (Or.inl ⟨by rfl, ?_⟩) ?_ ?_
                    rotate_left
                    · intro w'
                      go_simp
                      with_reducible rfl
                    rotate_left
                    · simp only [Act.put, List.setIfInBounds_toArray, List.set_cons_zero, List.set_cons_succ, i64_w, i32_w]
                      rfl
                    refine done_ (done_of HT_.out (by kernel_rfl)) ?_
                    try go_wp2
                    go_ret
                    exact ⟨by first | rfl | (simp [errW_none, errW_some] <;> rfl) | (simp [*, errW_none, errW_some] <;> rfl), by repeat (first | (with_reducible first | exact HB.out | apply below_alloc | apply pw_below_drewN | apply below_drew1) | exact HB.out)⟩
                  · rw [if_neg c20] at H
                    exact absurd H (by simp)
                · rw [if_neg c18] at H
                  exact absurd H (by simp)
end Go.Proofs.Ytfegofnplcmacaa.PAll
namespace Go.Proofs.Ytfegofnplcmacaa.PAll
open Go.RowKit Go.Proofs.YtfegofnplcmacaaW.PrintWords Go.Proofs.YtfegofnplcmacaaW.PrintLast Go.Proofs.YtfegofnplcmacaaW.PrintMore
attribute [local go_sem] max2_int min2_int max_two min_two max_three min_three max_four min_four
set_option linter.unusedVariables false
set_option linter.unusedSimpArgs false
mutual
def vernierref07_left.j0 : Nat → ByteArray → Bool → Option (Int)
  | 0, _, _ => none
  | k + 1, x0, x1 => if 1 ≤ (x0.size : Int) then ((vernierref07_some.f k (x0.extract 1 x0.size)).bind fun t218 => (if 0 < (x0.size : Int) then (if (bt x0 0) = 49 then (if t218 = true then (vernierref07_left.j1 k x0 x1 t218 true) else (vernierref07_left.j1 k x0 x1 t218 x1)) else (vernierref07_left.j1 k x0 x1 t218 false)) else (none))) else (none)
def vernierref07_left.j1 : Nat → ByteArray → Bool → Bool → Bool → Option (Int)
  | 0, _, _, _, _ => none
  | k + 1, x0, x1, x5, x11 => if x11 = true then (some 3) else (if 0 < (x0.size : Int) then (if (bt x0 0) = 49 then (some 2) else (if x5 = true then (some 1) else (if x1 = true then (some 1) else (some 0)))) else (none))
end
def vernierref07_left.f (k : Nat) (a0 : ByteArray) (a1 : Bool) : Option (Int) := if a0.toList = ([] : List UInt8) then (vernierref07_left.j0 k (⟨#[48]⟩ : ByteArray) a1) else (vernierref07_left.j0 k a0 a1)
theorem vernierref07_left.mono_l : ∀ k, (∀ y0 y1, LeO (vernierref07_left.j0 k y0 y1) (vernierref07_left.j0 (k + 1) y0 y1)) ∧ (∀ y0 y1 y2 y3, LeO (vernierref07_left.j1 k y0 y1 y2 y3) (vernierref07_left.j1 (k + 1) y0 y1 y2 y3))
  | 0 => ⟨fun _ _ r h => by simp [vernierref07_left.j0] at h, fun _ _ _ _ r h => by simp [vernierref07_left.j1] at h⟩
  | k + 1 => by
    obtain ⟨ih0, ih1⟩ := vernierref07_left.mono_l k
    refine ⟨?_, ?_⟩
    · intro y0 y1
      unfold vernierref07_left.j0
      repeat' first
      | (with_reducible exact ih0 _ _)
      | (with_reducible exact ih1 _ _ _ _)
      | (with_reducible exact vernierref07_some.mono _ _)
      | (with_reducible exact LeO.refl _)
      | (with_reducible exact LeO.none _)
      | (with_reducible refine LeO.ite ?_ ?_)
      | (with_reducible refine LeO.bind ?_ (fun _ => ?_))
      | exact ih0 _ _
      | exact ih1 _ _ _ _
      | exact vernierref07_some.mono _ _
      | exact LeO.none _
      | refine LeO.ite ?_ ?_
      | refine LeO.bind ?_ (fun _ => ?_)
    · intro y0 y1 y2 y3
      unfold vernierref07_left.j1
      repeat' first
      | (with_reducible exact ih0 _ _)
      | (with_reducible exact ih1 _ _ _ _)
      | (with_reducible exact vernierref07_some.mono _ _)
      | (with_reducible exact LeO.refl _)
      | (with_reducible exact LeO.none _)
      | (with_reducible refine LeO.ite ?_ ?_)
      | (with_reducible refine LeO.bind ?_ (fun _ => ?_))
      | exact ih0 _ _
      | exact ih1 _ _ _ _
      | exact vernierref07_some.mono _ _
      | exact LeO.none _
      | refine LeO.ite ?_ ?_
      | refine LeO.bind ?_ (fun _ => ?_)
theorem vernierref07_left.mono : ∀ a0 a1 k, LeO (vernierref07_left.f k a0 a1) (vernierref07_left.f (k + 1) a0 a1) := by
  intro a0 a1 k
  obtain ⟨ih0, ih1⟩ := vernierref07_left.mono_l k
  unfold vernierref07_left.f
  repeat' first
      | (with_reducible exact ih0 _ _)
      | (with_reducible exact ih1 _ _ _ _)
      | (with_reducible exact vernierref07_some.mono _ _)
      | (with_reducible exact LeO.refl _)
      | (with_reducible exact LeO.none _)
      | (with_reducible refine LeO.ite ?_ ?_)
      | (with_reducible refine LeO.bind ?_ (fun _ => ?_))
      | exact ih0 _ _
      | exact ih1 _ _ _ _
      | exact vernierref07_some.mono _ _
      | exact LeO.none _
      | refine LeO.ite ?_ ?_
      | refine LeO.bind ?_ (fun _ => ?_)
set_option maxHeartbeats 8000000 in
set_option maxRecDepth 100000 in
theorem vernierref07_left.calls (k : Nat) (a0 : ByteArray) (a1 : Bool) (r : Int) (w : World) (h : vernierref07_left.f k a0 a1 = some r) :
    Calls Try.prog 36 #[.string a0, .bool a1] w fun e w' => e = .returned (.int .i64 r) ∧ Drawn0 w w' := by
  have H : (if a0.toList = ([] : List UInt8) then (vernierref07_left.j0 k (⟨#[48]⟩ : ByteArray) a1) else (vernierref07_left.j0 k a0 a1)) = some r := h
  clear h
  have HC3 := Aside0.mk H
  clear H
  go_enter Try.func36, Try.ntmps36
  go_upto_if 7 with (fail)
  go_cut [0] (fun v0 wc => ∃ (kq : Nat) (x0_2 : ByteArray), v0 = .string x0_2 ∧ Aside0 (vernierref07_left.j0 kq x0_2 a1 = some r) ∧ Aside0 (kq ≤ k) ∧ Drawn0 w wc)
  case first =>
    have H := HC3.out
    clear HC3
    by_cases c4 : a0.toList = ([] : List UInt8)
    · rw [if_pos c4] at H
      have c4b0 : a0.toList.isEmpty = true := by first | simpa using c4 | simp [c4]
      have c4b1 : (a0.toList == ([] : List UInt8)) = true := beq_iff_eq.mpr c4
      have c4b2 : (a0.toList != ([] : List UInt8)) = false := bne_eq_false_iff_eq.mpr c4
      clear c4
      (first | rw [c4b0] | (simp only [i64_w, i32_w]; rw [c4b0]) | skip)
      have H' := Aside0.mk H
      clear H
      go_wp2
      go_meet
      case rel => exact ⟨_, ((⟨#[48]⟩ : ByteArray)), (by first | rfl | (simp; done) | (simp [*]; done)), H', ⟨by first | omega | exact Nat.le_refl _⟩, by repeat (first | exact Drawn0.refl _ | apply Drawn0.step)⟩
    · rw [if_neg c4] at H
      have c4b0 : a0.toList.isEmpty = false := by first | simpa using c4 | simp [c4]
      have c4b1 : (a0.toList == ([] : List UInt8)) = false := beq_eq_false_iff_ne.mpr c4
      have c4b2 : (a0.toList != ([] : List UInt8)) = true := bne_iff_ne.mpr c4
      (first | rw [c4b0] | (simp only [i64_w, i32_w]; rw [c4b0]) | skip)
      have H' := Aside0.mk H
      clear H
      go_wp2
      go_meet
      case rel => exact ⟨_, (a0), (by first | rfl | (simp; done) | (simp [*]; done)), H', ⟨by first | omega | exact Nat.le_refl _⟩, by repeat (first | exact Drawn0.refl _ | apply Drawn0.step)⟩
  case rest =>
    clear HC3
    try clear p2
    try clear c3
    try clear c4
    try clear c4b0
    try clear c4b1
    try clear c4b2
    obtain ⟨kq, x0_2, rfl, HA, HJ2, ⟨mc2, rfl⟩⟩ := hcut
    cases kq with
    | zero => exact absurd HA.out (by simp [vernierref07_left.j0])
    | succ kj2 =>
      have H := HA.out
      clear HA
      simp only [vernierref07_left.j0] at H
      by_cases c5 : 1 ≤ (x0_2.size : Int)
      · rw [if_pos c5] at H
        have c5b0 := eq_true c5
        have c5b1 : decide (1 ≤ (x0_2.size : Int)) = true := decide_eq_true c5
        clear c5
        replace H := Option.bind_eq_some_iff.mp H
        obtain ⟨t218, A60, H⟩ := H
        replace H : (if 0 < (x0_2.size : Int) then (if (bt x0_2 0) = 49 then (if t218 = true then (vernierref07_left.j1 kj2 x0_2 a1 t218 true) else (vernierref07_left.j1 kj2 x0_2 a1 t218 a1)) else (vernierref07_left.j1 kj2 x0_2 a1 t218 false)) else (none)) = some r := H
        have A6 := Aside0.mk A60
        clear A60
        have HC7 := Aside0.mk H
        clear H
        go_upto_region 4 with (first | ((with_reducible refine gate_callee (f := 33) rfl ?_); refine goesL_ (some 10) rfl rfl Try.func33 (by kernel_rfl) rfl #[.string (x0_2.extract 1 x0_2.size)] rfl (by (try simp only [List.map_toArray, List.map_cons, List.map_nil]); first | done | rfl | (simp only [List.length_drop, List.length_take]; rfl)) ?_; (with_reducible refine (vernierref07_some.calls kj2 (x0_2.extract 1 x0_2.size) t218 _ A6.out).mono ?_); rintro e w' ⟨rfl, ⟨nd, rfl⟩⟩; refine ⟨_, rfl, ?_⟩))
        (try simp only [Act.put, List.setIfInBounds_toArray, List.set_cons_zero, List.set_cons_succ])
        go_cut [11] (fun v11 wc => ∃ (kq : Nat) (x11_6 : Bool), v11 = .bool x11_6 ∧ Aside0 (vernierref07_left.j1 kq x0_2 a1 t218 x11_6 = some r) ∧ Aside0 (kq ≤ kj2) ∧ Drawn0 w wc)
        case first =>
          have H := HC7.out
          clear HC7
          by_cases c8 : 0 < (x0_2.size : Int)
          · rw [if_pos c8] at H
            have c8b0 : decide (0 < (x0_2.size : Int)) = true := decide_eq_true c8
            have c8b1 : decide (0 < x0_2.size) = true := decide_eq_true (by omega)
            clear c8
            (first | rw [c8b0] | (simp only [i64_w, i32_w]; rw [c8b0]) | skip)
            by_cases c10 : (bt x0_2 0) = 49
            · rw [if_pos c10] at H
              have c10b0 : ((bt x0_2 0) == 49) = true := beq_iff_eq.mpr c10
              have c10b1 : ((bt x0_2 0) != 49) = false := bne_eq_false_iff_eq.mpr c10
              clear c10
              by_cases c11 : t218 = true
              · subst c11
                have H1 : (vernierref07_left.j1 kj2 x0_2 a1 true true) = some r := by rw [if_pos rfl] at H; exact H
                clear H
                have H := H1
                clear H1
                have H' := Aside0.mk H
                clear H
                have p9 : 0 ≤ (0 : Int) := (by omega)
                have q9 : 0 < x0_2.size := (by have : (0 : Int) < (x0_2.size : Int) := of_decide_eq_true (by first | (with_reducible assumption) | assumption); omega)
                have hx9 : ∀ h : 0 < x0_2.size, ((x0_2[0]'h).toNat : Int) = bt x0_2 0 := bt_at x0_2 0
                clear p9
                have qi9 : (0 < (x0_2.size : Int)) = True := eq_true (of_decide_eq_true (by first | (with_reducible assumption) | assumption))
                replace q9 := eq_true q9
                go_wp2
                go_meet
                case rel => exact ⟨_, (true), (by first | rfl | (simp; done) | (simp [*]; done)), H', ⟨by have := HJ2.out; first | omega | exact Nat.le_refl _⟩, by repeat (first | exact Drawn0.refl _ | apply Drawn0.step)⟩
              · replace c11 := Bool.eq_false_iff.mpr c11
                subst c11
                have H1 : (vernierref07_left.j1 kj2 x0_2 a1 false a1) = some r := by rw [if_neg (show ¬ (false = true) by decide)] at H; exact H
                clear H
                have H := H1
                clear H1
                have H' := Aside0.mk H
                clear H
                have p9 : 0 ≤ (0 : Int) := (by omega)
                have q9 : 0 < x0_2.size := (by have : (0 : Int) < (x0_2.size : Int) := of_decide_eq_true (by first | (with_reducible assumption) | assumption); omega)
                have hx9 : ∀ h : 0 < x0_2.size, ((x0_2[0]'h).toNat : Int) = bt x0_2 0 := bt_at x0_2 0
                clear p9
                have qi9 : (0 < (x0_2.size : Int)) = True := eq_true (of_decide_eq_true (by first | (with_reducible assumption) | assumption))
                replace q9 := eq_true q9
                go_wp2
                go_meet
                case rel => exact ⟨_, (a1), (by first | rfl | (simp; done) | (simp [*]; done)), H', ⟨by have := HJ2.out; first | omega | exact Nat.le_refl _⟩, by repeat (first | exact Drawn0.refl _ | apply Drawn0.step)⟩
            · rw [if_neg c10] at H
              have c10b0 : ((bt x0_2 0) == 49) = false := beq_eq_false_iff_ne.mpr c10
              have c10b1 : ((bt x0_2 0) != 49) = true := bne_iff_ne.mpr c10
              have H' := Aside0.mk H
              clear H
              have p9 : 0 ≤ (0 : Int) := (by omega)
              have q9 : 0 < x0_2.size := (by have : (0 : Int) < (x0_2.size : Int) := of_decide_eq_true (by first | (with_reducible assumption) | assumption); omega)
              have hx9 : ∀ h : 0 < x0_2.size, ((x0_2[0]'h).toNat : Int) = bt x0_2 0 := bt_at x0_2 0
              clear p9
              have qi9 : (0 < (x0_2.size : Int)) = True := eq_true (of_decide_eq_true (by first | (with_reducible assumption) | assumption))
              replace q9 := eq_true q9
              go_wp2
              go_meet
              case rel => exact ⟨_, (false), (by first | rfl | (simp; done) | (simp [*]; done)), H', ⟨by have := HJ2.out; first | omega | exact Nat.le_refl _⟩, by repeat (first | exact Drawn0.refl _ | apply Drawn0.step)⟩
          · rw [if_neg c8] at H
            exact absurd H (by simp)
        case rest =>
          clear HC7
          try clear c1
          try clear c2
          try clear p2
          try clear c3
          try clear c4
          try clear c4b0
          try clear c4b1
          try clear c4b2
          try clear c5
          try clear c5b0
          try clear c5b1
          try clear c8
          try clear c8b0
          try clear c8b1
          try clear p9
          try clear q9
          try clear hx9
          try clear qi9
          try clear c10
          try clear c10b0
          try clear c10b1
          try clear c11
          try clear p2
          try clear p9
          try clear q9
          obtain ⟨kq, x11_6, rfl, HA, HJ6, ⟨mc6, rfl⟩⟩ := hcut
          cases kq with
          | zero => exact absurd HA.out (by simp [vernierref07_left.j1])
          | succ kj6 =>
            have H := HA.out
            clear HA
            simp only [vernierref07_left.j1] at H
            by_cases c12 : x11_6 = true
            · subst c12
              have H1 : (some 3) = some r := by rw [if_pos rfl] at H; exact H
              clear H
              have H := H1
              clear H1
              obtain rfl := Option.some.inj H
              go_wp2
              go_ret
              exact ⟨by first | rfl | (simp; done) | (simp [*]; done), by repeat (first | exact Drawn0.refl _ | apply Drawn0.step)⟩
            · replace c12 := Bool.eq_false_iff.mpr c12
              subst c12
              have H1 : (if 0 < (x0_2.size : Int) then (if (bt x0_2 0) = 49 then (some 2) else (if t218 = true then (some 1) else (if a1 = true then (some 1) else (some 0)))) else (none)) = some r := by rw [if_neg (show ¬ (false = true) by decide)] at H; exact H
              clear H
              have H := H1
              clear H1
              by_cases c13 : 0 < (x0_2.size : Int)
              · rw [if_pos c13] at H
                have c13b0 : decide (0 < (x0_2.size : Int)) = true := decide_eq_true c13
                have c13b1 : decide (0 < x0_2.size) = true := decide_eq_true (by omega)
                clear c13
                by_cases c15 : (bt x0_2 0) = 49
                · rw [if_pos c15] at H
                  have c15b0 : ((bt x0_2 0) == 49) = true := beq_iff_eq.mpr c15
                  have c15b1 : ((bt x0_2 0) != 49) = false := bne_eq_false_iff_eq.mpr c15
                  clear c15
                  obtain rfl := Option.some.inj H
                  have p14 : 0 ≤ (0 : Int) := (by omega)
                  have q14 : 0 < x0_2.size := (by have : (0 : Int) < (x0_2.size : Int) := of_decide_eq_true (by first | (with_reducible assumption) | assumption); omega)
                  have hx14 : ∀ h : 0 < x0_2.size, ((x0_2[0]'h).toNat : Int) = bt x0_2 0 := bt_at x0_2 0
                  clear p14
                  have qi14 : (0 < (x0_2.size : Int)) = True := eq_true (of_decide_eq_true (by first | (with_reducible assumption) | assumption))
                  replace q14 := eq_true q14
                  go_wp2
                  go_ret
                  exact ⟨by first | rfl | (simp; done) | (simp [*]; done), by repeat (first | exact Drawn0.refl _ | apply Drawn0.step)⟩
                · rw [if_neg c15] at H
                  have c15b0 : ((bt x0_2 0) == 49) = false := beq_eq_false_iff_ne.mpr c15
                  have c15b1 : ((bt x0_2 0) != 49) = true := bne_iff_ne.mpr c15
                  by_cases c16 : t218 = true
                  · subst c16
                    have H1 : (some 1) = some r := by rw [if_pos rfl] at H; exact H
                    clear H
                    have H := H1
                    clear H1
                    obtain rfl := Option.some.inj H
                    have p14 : 0 ≤ (0 : Int) := (by omega)
                    have q14 : 0 < x0_2.size := (by have : (0 : Int) < (x0_2.size : Int) := of_decide_eq_true (by first | (with_reducible assumption) | assumption); omega)
                    have hx14 : ∀ h : 0 < x0_2.size, ((x0_2[0]'h).toNat : Int) = bt x0_2 0 := bt_at x0_2 0
                    clear p14
                    have qi14 : (0 < (x0_2.size : Int)) = True := eq_true (of_decide_eq_true (by first | (with_reducible assumption) | assumption))
                    replace q14 := eq_true q14
                    go_wp2
                    go_ret
                    exact ⟨by first | rfl | (simp; done) | (simp [*]; done), by repeat (first | exact Drawn0.refl _ | apply Drawn0.step)⟩
                  · replace c16 := Bool.eq_false_iff.mpr c16
                    subst c16
                    have H1 : (if a1 = true then (some 1) else (some 0)) = some r := by rw [if_neg (show ¬ (false = true) by decide)] at H; exact H
                    clear H
                    have H := H1
                    clear H1
                    by_cases c17 : a1 = true
                    · subst c17
                      have H1 : (some 1) = some r := by rw [if_pos rfl] at H; exact H
                      clear H
                      have H := H1
                      clear H1
                      obtain rfl := Option.some.inj H
                      have p14 : 0 ≤ (0 : Int) := (by omega)
                      have q14 : 0 < x0_2.size := (by have : (0 : Int) < (x0_2.size : Int) := of_decide_eq_true (by first | (with_reducible assumption) | assumption); omega)
                      have hx14 : ∀ h : 0 < x0_2.size, ((x0_2[0]'h).toNat : Int) = bt x0_2 0 := bt_at x0_2 0
                      clear p14
                      have qi14 : (0 < (x0_2.size : Int)) = True := eq_true (of_decide_eq_true (by first | (with_reducible assumption) | assumption))
                      replace q14 := eq_true q14
                      go_wp2
                      go_ret
                      exact ⟨by first | rfl | (simp; done) | (simp [*]; done), by repeat (first | exact Drawn0.refl _ | apply Drawn0.step)⟩
                    · replace c17 := Bool.eq_false_iff.mpr c17
                      subst c17
                      have H1 : (some 0) = some r := by rw [if_neg (show ¬ (false = true) by decide)] at H; exact H
                      clear H
                      have H := H1
                      clear H1
                      obtain rfl := Option.some.inj H
                      have p14 : 0 ≤ (0 : Int) := (by omega)
                      have q14 : 0 < x0_2.size := (by have : (0 : Int) < (x0_2.size : Int) := of_decide_eq_true (by first | (with_reducible assumption) | assumption); omega)
                      have hx14 : ∀ h : 0 < x0_2.size, ((x0_2[0]'h).toNat : Int) = bt x0_2 0 := bt_at x0_2 0
                      clear p14
                      have qi14 : (0 < (x0_2.size : Int)) = True := eq_true (of_decide_eq_true (by first | (with_reducible assumption) | assumption))
                      replace q14 := eq_true q14
                      go_wp2
                      go_ret
                      exact ⟨by first | rfl | (simp; done) | (simp [*]; done), by repeat (first | exact Drawn0.refl _ | apply Drawn0.step)⟩
              · rw [if_neg c13] at H
                exact absurd H (by simp)
      · rw [if_neg c5] at H
        exact absurd H (by simp)
end Go.Proofs.Ytfegofnplcmacaa.PAll
namespace Go.Proofs.Ytfegofnplcmacaa.PAll
open Go.RowKit Go.Proofs.YtfegofnplcmacaaW.PrintWords Go.Proofs.YtfegofnplcmacaaW.PrintLast Go.Proofs.YtfegofnplcmacaaW.PrintMore
attribute [local go_sem] max2_int min2_int max_two min_two max_three min_three max_four min_four
set_option linter.unusedVariables false
set_option linter.unusedSimpArgs false
mutual
def vernierref07_Cut.j0 : Nat → Int → ByteArray → Bool → Int → Bool → Int → Int → Int → Bool → Option (Int × Int × Int)
  | 0, _, _, _, _, _, _, _, _, _ => none
  | k + 1, x0, x10, x11, x220000, x220001, x220002, x220003, x220004, x220005 => if x220002 ≥ (wrap64 ((wrap64 (4 * x0)) - 8)) then ((vernierref05_Power.f k (wrap64 (x0 - 1))).bind fun t226 => (some (IntKind.u64.wrap (t226 - 1), 0, 0))) else (if x220002 < (wrap64 (-(wrap64 ((wrap64 (4 * x0)) - 8)))) then (vernierref07_Cut.j1 k x0 x10 true x220000 x220001 x220002 x220003 x220004 x220005) else (if x220002 = (wrap64 (-(wrap64 ((wrap64 (4 * x0)) - 8)))) then (vernierref07_Cut.j1 k x0 x10 x11 x220000 x220001 x220002 x220003 x220004 x220005) else (vernierref07_Cut.j1 k x0 x10 false x220000 x220001 x220002 x220003 x220004 x220005)))
def vernierref07_Cut.j1 : Nat → Int → ByteArray → Bool → Int → Bool → Int → Int → Int → Bool → Option (Int × Int × Int)
  | 0, _, _, _, _, _, _, _, _, _ => none
  | k + 1, x0, x10, x73, x220000, x220001, x220002, x220003, x220004, x220005 => if x73 = true then (some (1, 0, 0)) else ((vernierref06_Head.f k x220002).bind fun t227 => (if t227.size + x10.size ≤ 9223372036854775807 then (if 0 ≤ (wrap64 (x0 - 1)) then (if (wrap64 (x0 - 1)) ≤ ((t227 ++ x10).size : Int) then ((vernierref01_Number.f k ((t227 ++ x10).extract 0 ((wrap64 (x0 - 1)) : Int).toNat)).bind fun t228 => ((vernierref07_left.f k ((t227 ++ x10).extract ((wrap64 (x0 - 1)) : Int).toNat (t227 ++ x10).size) x220005).bind fun t229 => (some (t228, t229, 0)))) else (none)) else (none)) else (none)))
end
def vernierref07_Cut.f (k : Nat) (a0 : Int) (a1_0 : Int) (a1_1 : Bool) (a1_2 : Int) (a1_3 : Int) (a1_4 : Int) (a1_5 : Bool) : Option (Int × Int × Int) := (vernierref05_Is.f a0).bind fun t220 => ((vernierref07_Sound.f a1_0 a1_1 a1_2 a1_3 a1_4 a1_5).bind fun t221 => (if t220 = true then (if t221 = true then (if a1_0 = 1 then ((vernierref01_Text.f k a1_3 64).bind fun t223 => (if 1 ≤ (t223.size : Int) then ((vernierref01_Text.f k a1_4 64).bind fun t224 => (if (t223.extract 1 t223.size).size + t224.size ≤ 9223372036854775807 then (if a1_5 = true then (vernierref07_Cut.j0 k a0 ((t223.extract 1 t223.size) ++ t224) false a1_0 a1_1 a1_2 a1_3 a1_4 a1_5) else ((vernierref07_some.f k ((t223.extract 1 t223.size) ++ t224)).bind fun t225 => (vernierref07_Cut.j0 k a0 ((t223.extract 1 t223.size) ++ t224) (!t225) a1_0 a1_1 a1_2 a1_3 a1_4 a1_5))) else (none))) else (none))) else (if a1_0 = 2 then ((vernierref05_Power.f k (wrap64 (a0 - 1))).bind fun t222 => (some (t222, 0, 0))) else (some (0, 0, 0)))) else (some (0, 0, 1))) else (some (0, 0, 2))))
theorem vernierref07_Cut.mono_l : ∀ k, (∀ y0 y1 y2 y3 y4 y5 y6 y7 y8, LeO (vernierref07_Cut.j0 k y0 y1 y2 y3 y4 y5 y6 y7 y8) (vernierref07_Cut.j0 (k + 1) y0 y1 y2 y3 y4 y5 y6 y7 y8)) ∧ (∀ y0 y1 y2 y3 y4 y5 y6 y7 y8, LeO (vernierref07_Cut.j1 k y0 y1 y2 y3 y4 y5 y6 y7 y8) (vernierref07_Cut.j1 (k + 1) y0 y1 y2 y3 y4 y5 y6 y7 y8))
  | 0 => ⟨fun _ _ _ _ _ _ _ _ _ r h => by simp [vernierref07_Cut.j0] at h, fun _ _ _ _ _ _ _ _ _ r h => by simp [vernierref07_Cut.j1] at h⟩
  | k + 1 => by
    obtain ⟨ih0, ih1⟩ := vernierref07_Cut.mono_l k
    refine ⟨?_, ?_⟩
    · intro y0 y1 y2 y3 y4 y5 y6 y7 y8
      unfold vernierref07_Cut.j0
      repeat' first
      | (with_reducible exact ih0 _ _ _ _ _ _ _ _ _)
      | (with_reducible exact ih1 _ _ _ _ _ _ _ _ _)
      | (with_reducible exact vernierref01_Number.mono _ _)
      | (with_reducible exact vernierref01_Text.mono _ _ _)
      | (with_reducible exact vernierref05_Power.mono _ _)
      | (with_reducible exact vernierref06_Head.mono _ _)
      | (with_reducible exact vernierref07_left.mono _ _ _)
      | (with_reducible exact vernierref07_some.mono _ _)
      | (with_reducible exact LeO.refl _)
      | (with_reducible exact LeO.none _)
      | (with_reducible refine LeO.ite ?_ ?_)
      | (with_reducible refine LeO.bind ?_ (fun _ => ?_))
      | exact ih0 _ _ _ _ _ _ _ _ _
      | exact ih1 _ _ _ _ _ _ _ _ _
      | exact vernierref01_Number.mono _ _
      | exact vernierref01_Text.mono _ _ _
      | exact vernierref05_Power.mono _ _
      | exact vernierref06_Head.mono _ _
      | exact vernierref07_left.mono _ _ _
      | exact vernierref07_some.mono _ _
      | exact LeO.none _
      | refine LeO.ite ?_ ?_
      | refine LeO.bind ?_ (fun _ => ?_)
    · intro y0 y1 y2 y3 y4 y5 y6 y7 y8
      unfold vernierref07_Cut.j1
      repeat' first
      | (with_reducible exact ih0 _ _ _ _ _ _ _ _ _)
      | (with_reducible exact ih1 _ _ _ _ _ _ _ _ _)
      | (with_reducible exact vernierref01_Number.mono _ _)
      | (with_reducible exact vernierref01_Text.mono _ _ _)
      | (with_reducible exact vernierref05_Power.mono _ _)
      | (with_reducible exact vernierref06_Head.mono _ _)
      | (with_reducible exact vernierref07_left.mono _ _ _)
      | (with_reducible exact vernierref07_some.mono _ _)
      | (with_reducible exact LeO.refl _)
      | (with_reducible exact LeO.none _)
      | (with_reducible refine LeO.ite ?_ ?_)
      | (with_reducible refine LeO.bind ?_ (fun _ => ?_))
      | exact ih0 _ _ _ _ _ _ _ _ _
      | exact ih1 _ _ _ _ _ _ _ _ _
      | exact vernierref01_Number.mono _ _
      | exact vernierref01_Text.mono _ _ _
      | exact vernierref05_Power.mono _ _
      | exact vernierref06_Head.mono _ _
      | exact vernierref07_left.mono _ _ _
      | exact vernierref07_some.mono _ _
      | exact LeO.none _
      | refine LeO.ite ?_ ?_
      | refine LeO.bind ?_ (fun _ => ?_)
theorem vernierref07_Cut.mono : ∀ a0 a1 a2 a3 a4 a5 a6 k, LeO (vernierref07_Cut.f k a0 a1 a2 a3 a4 a5 a6) (vernierref07_Cut.f (k + 1) a0 a1 a2 a3 a4 a5 a6) := by
  intro a0 a1 a2 a3 a4 a5 a6 k
  obtain ⟨ih0, ih1⟩ := vernierref07_Cut.mono_l k
  unfold vernierref07_Cut.f
  repeat' first
      | (with_reducible exact ih0 _ _ _ _ _ _ _ _ _)
      | (with_reducible exact ih1 _ _ _ _ _ _ _ _ _)
      | (with_reducible exact vernierref01_Number.mono _ _)
      | (with_reducible exact vernierref01_Text.mono _ _ _)
      | (with_reducible exact vernierref05_Power.mono _ _)
      | (with_reducible exact vernierref06_Head.mono _ _)
      | (with_reducible exact vernierref07_left.mono _ _ _)
      | (with_reducible exact vernierref07_some.mono _ _)
      | (with_reducible exact LeO.refl _)
      | (with_reducible exact LeO.none _)
      | (with_reducible refine LeO.ite ?_ ?_)
      | (with_reducible refine LeO.bind ?_ (fun _ => ?_))
      | exact ih0 _ _ _ _ _ _ _ _ _
      | exact ih1 _ _ _ _ _ _ _ _ _
      | exact vernierref01_Number.mono _ _
      | exact vernierref01_Text.mono _ _ _
      | exact vernierref05_Power.mono _ _
      | exact vernierref06_Head.mono _ _
      | exact vernierref07_left.mono _ _ _
      | exact vernierref07_some.mono _ _
      | exact LeO.none _
      | refine LeO.ite ?_ ?_
      | refine LeO.bind ?_ (fun _ => ?_)
def vernierref07_Cut.T12 : Bool × List (List Nat × List Nat) := (true, [([], []), ([0], [0]), ([1], [1]), ([2], [2]), ([], []), ([4], [4]), ([5, 2], [5]), ([3, 6], [3, 6]), ([7, 6, 0, 1, 2, 3, 4, 5, 6, 7], [7])])
def vernierref07_Cut.B12 : List Nat := [0, 1, 3, 7, 0, 16, 55, 127, 255]
theorem vernierref07_Cut.tab12 : rtab .any (opsOf Try.f12 12) = vernierref07_Cut.T12 := by kernel_rfl
theorem vernierref07_Cut.bits12 : waitsOk vernierref07_Cut.T12.2 vernierref07_Cut.B12 = true := by kernel_rfl
def vernierref07_Cut.T20 : Bool × List (List Nat × List Nat) := (true, [([], []), ([], []), ([1], [1]), ([0, 2], [0, 2]), ([3], [3]), ([], []), ([], []), ([6], [6]), ([5, 7], [5, 7]), ([], []), ([9], [9]), ([8, 10, 4], [8, 10]), ([4, 11, 0, 1, 2, 3, 4], [4]), ([11, 12, 0, 1, 2, 3, 4, 5, 6, 7, 8, 9, 10, 11, 12], [11]), ([13, 0, 1, 2, 3, 4, 5, 6, 7, 8, 9, 10, 11, 12, 13], [])])
def vernierref07_Cut.B20 : List Nat := [0, 0, 2, 7, 15, 0, 0, 64, 224, 0, 512, 2047, 4095, 8191, 16383]
theorem vernierref07_Cut.tab20 : rtab .any (opsOf Try.f12 20) = vernierref07_Cut.T20 := by kernel_rfl
theorem vernierref07_Cut.bits20 : waitsOk vernierref07_Cut.T20.2 vernierref07_Cut.B20 = true := by kernel_rfl
set_option maxHeartbeats 8000000 in
set_option maxRecDepth 100000 in
theorem vernierref07_Cut.calls (k : Nat) (a0 : Int) (a1_0 : Int) (a1_1 : Bool) (a1_2 : Int) (a1_3 : Int) (a1_4 : Int) (a1_5 : Bool) (r1 : Int) (r2 : Int) (r3 : Int) (w : World) (h : vernierref07_Cut.f k a0 a1_0 a1_1 a1_2 a1_3 a1_4 a1_5 = some (r1, r2, r3)) :
    Calls Try.prog 12 #[.int .i64 a0, .agg #[.int .i64 a1_0, .bool a1_1, .int .i64 a1_2, .int .u64 a1_3, .int .u64 a1_4, .bool a1_5]] w fun e w' => e = .returned (.tuple #[.int .u64 r1, .int .i64 r2, .int .i64 r3]) ∧ Below w.heap.size w w' := by
  have hu24 := Try.underlying24
  have HB := Aside0.mk (Below.refl w.heap.size w)
  have H : ((vernierref05_Is.f a0).bind fun t220 => ((vernierref07_Sound.f a1_0 a1_1 a1_2 a1_3 a1_4 a1_5).bind fun t221 => (if t220 = true then (if t221 = true then (if a1_0 = 1 then ((vernierref01_Text.f k a1_3 64).bind fun t223 => (if 1 ≤ (t223.size : Int) then ((vernierref01_Text.f k a1_4 64).bind fun t224 => (if (t223.extract 1 t223.size).size + t224.size ≤ 9223372036854775807 then (if a1_5 = true then (vernierref07_Cut.j0 k a0 ((t223.extract 1 t223.size) ++ t224) false a1_0 a1_1 a1_2 a1_3 a1_4 a1_5) else ((vernierref07_some.f k ((t223.extract 1 t223.size) ++ t224)).bind fun t225 => (vernierref07_Cut.j0 k a0 ((t223.extract 1 t223.size) ++ t224) (!t225) a1_0 a1_1 a1_2 a1_3 a1_4 a1_5))) else (none))) else (none))) else (if a1_0 = 2 then ((vernierref05_Power.f k (wrap64 (a0 - 1))).bind fun t222 => (some (t222, 0, 0))) else (some (0, 0, 0)))) else (some (0, 0, 1))) else (some (0, 0, 2))))) = some (r1, r2, r3) := h
  clear h
  replace H := Option.bind_eq_some_iff.mp H
  obtain ⟨t220, A30, H⟩ := H
  replace H : ((vernierref07_Sound.f a1_0 a1_1 a1_2 a1_3 a1_4 a1_5).bind fun t221 => (if t220 = true then (if t221 = true then (if a1_0 = 1 then ((vernierref01_Text.f k a1_3 64).bind fun t223 => (if 1 ≤ (t223.size : Int) then ((vernierref01_Text.f k a1_4 64).bind fun t224 => (if (t223.extract 1 t223.size).size + t224.size ≤ 9223372036854775807 then (if a1_5 = true then (vernierref07_Cut.j0 k a0 ((t223.extract 1 t223.size) ++ t224) false a1_0 a1_1 a1_2 a1_3 a1_4 a1_5) else ((vernierref07_some.f k ((t223.extract 1 t223.size) ++ t224)).bind fun t225 => (vernierref07_Cut.j0 k a0 ((t223.extract 1 t223.size) ++ t224) (!t225) a1_0 a1_1 a1_2 a1_3 a1_4 a1_5))) else (none))) else (none))) else (if a1_0 = 2 then ((vernierref05_Power.f k (wrap64 (a0 - 1))).bind fun t222 => (some (t222, 0, 0))) else (some (0, 0, 0)))) else (some (0, 0, 1))) else (some (0, 0, 2)))) = some (r1, r2, r3) := H
  have A3 := Aside0.mk A30
  clear A30
  replace H := Option.bind_eq_some_iff.mp H
  obtain ⟨t221, A40, H⟩ := H
  replace H : (if t220 = true then (if t221 = true then (if a1_0 = 1 then ((vernierref01_Text.f k a1_3 64).bind fun t223 => (if 1 ≤ (t223.size : Int) then ((vernierref01_Text.f k a1_4 64).bind fun t224 => (if (t223.extract 1 t223.size).size + t224.size ≤ 9223372036854775807 then (if a1_5 = true then (vernierref07_Cut.j0 k a0 ((t223.extract 1 t223.size) ++ t224) false a1_0 a1_1 a1_2 a1_3 a1_4 a1_5) else ((vernierref07_some.f k ((t223.extract 1 t223.size) ++ t224)).bind fun t225 => (vernierref07_Cut.j0 k a0 ((t223.extract 1 t223.size) ++ t224) (!t225) a1_0 a1_1 a1_2 a1_3 a1_4 a1_5))) else (none))) else (none))) else (if a1_0 = 2 then ((vernierref05_Power.f k (wrap64 (a0 - 1))).bind fun t222 => (some (t222, 0, 0))) else (some (0, 0, 0)))) else (some (0, 0, 1))) else (some (0, 0, 2))) = some (r1, r2, r3) := H
  have A4 := Aside0.mk A40
  clear A40
  by_cases c5 : t220 = true
  · subst c5
    have H1 : (if t221 = true then (if a1_0 = 1 then ((vernierref01_Text.f k a1_3 64).bind fun t223 => (if 1 ≤ (t223.size : Int) then ((vernierref01_Text.f k a1_4 64).bind fun t224 => (if (t223.extract 1 t223.size).size + t224.size ≤ 9223372036854775807 then (if a1_5 = true then (vernierref07_Cut.j0 k a0 ((t223.extract 1 t223.size) ++ t224) false a1_0 a1_1 a1_2 a1_3 a1_4 a1_5) else ((vernierref07_some.f k ((t223.extract 1 t223.size) ++ t224)).bind fun t225 => (vernierref07_Cut.j0 k a0 ((t223.extract 1 t223.size) ++ t224) (!t225) a1_0 a1_1 a1_2 a1_3 a1_4 a1_5))) else (none))) else (none))) else (if a1_0 = 2 then ((vernierref05_Power.f k (wrap64 (a0 - 1))).bind fun t222 => (some (t222, 0, 0))) else (some (0, 0, 0)))) else (some (0, 0, 1))) = some (r1, r2, r3) := by rw [if_pos rfl] at H; exact H
    clear H
    have H := H1
    clear H1
    by_cases c6 : t221 = true
    · subst c6
      have H1 : (if a1_0 = 1 then ((vernierref01_Text.f k a1_3 64).bind fun t223 => (if 1 ≤ (t223.size : Int) then ((vernierref01_Text.f k a1_4 64).bind fun t224 => (if (t223.extract 1 t223.size).size + t224.size ≤ 9223372036854775807 then (if a1_5 = true then (vernierref07_Cut.j0 k a0 ((t223.extract 1 t223.size) ++ t224) false a1_0 a1_1 a1_2 a1_3 a1_4 a1_5) else ((vernierref07_some.f k ((t223.extract 1 t223.size) ++ t224)).bind fun t225 => (vernierref07_Cut.j0 k a0 ((t223.extract 1 t223.size) ++ t224) (!t225) a1_0 a1_1 a1_2 a1_3 a1_4 a1_5))) else (none))) else (none))) else (if a1_0 = 2 then ((vernierref05_Power.f k (wrap64 (a0 - 1))).bind fun t222 => (some (t222, 0, 0))) else (some (0, 0, 0)))) = some (r1, r2, r3) := by rw [if_pos rfl] at H; exact H
      clear H
      have H := H1
      clear H1
      by_cases c7 : a1_0 = 1
      · rw [if_pos c7] at H
        have c7b0 : (a1_0 == 1) = true := beq_iff_eq.mpr c7
        have c7b1 : (a1_0 != 1) = false := bne_eq_false_iff_eq.mpr c7
        clear c7
        replace H := Option.bind_eq_some_iff.mp H
        obtain ⟨t223, A80, H⟩ := H
        replace H : (if 1 ≤ (t223.size : Int) then ((vernierref01_Text.f k a1_4 64).bind fun t224 => (if (t223.extract 1 t223.size).size + t224.size ≤ 9223372036854775807 then (if a1_5 = true then (vernierref07_Cut.j0 k a0 ((t223.extract 1 t223.size) ++ t224) false a1_0 a1_1 a1_2 a1_3 a1_4 a1_5) else ((vernierref07_some.f k ((t223.extract 1 t223.size) ++ t224)).bind fun t225 => (vernierref07_Cut.j0 k a0 ((t223.extract 1 t223.size) ++ t224) (!t225) a1_0 a1_1 a1_2 a1_3 a1_4 a1_5))) else (none))) else (none)) = some (r1, r2, r3) := H
        have A8 := Aside0.mk A80
        clear A80
        by_cases c9 : 1 ≤ (t223.size : Int)
        · rw [if_pos c9] at H
          have c9b0 := eq_true c9
          have c9b1 : decide (1 ≤ (t223.size : Int)) = true := decide_eq_true c9
          clear c9
          replace H := Option.bind_eq_some_iff.mp H
          obtain ⟨t224, A100, H⟩ := H
          replace H : (if (t223.extract 1 t223.size).size + t224.size ≤ 9223372036854775807 then (if a1_5 = true then (vernierref07_Cut.j0 k a0 ((t223.extract 1 t223.size) ++ t224) false a1_0 a1_1 a1_2 a1_3 a1_4 a1_5) else ((vernierref07_some.f k ((t223.extract 1 t223.size) ++ t224)).bind fun t225 => (vernierref07_Cut.j0 k a0 ((t223.extract 1 t223.size) ++ t224) (!t225) a1_0 a1_1 a1_2 a1_3 a1_4 a1_5))) else (none)) = some (r1, r2, r3) := H
          have A10 := Aside0.mk A100
          clear A100
          by_cases c11 : (t223.extract 1 t223.size).size + t224.size ≤ 9223372036854775807
          · rw [if_pos c11] at H
            have c11b0 := eq_true c11
            have c11b1 : decide ((t223.extract 1 t223.size).size + t224.size ≤ 9223372036854775807) = true := decide_eq_true c11
            try have c11b2 : (9223372036854775807 < (t223.extract 1 t223.size).size + t224.size) = False := eq_false (Nat.not_lt.2 c11)
            (try (have c11e0 := c11b0; simp only [ByteArray.size_extract, Nat.min_self, Nat.sub_zero] at c11e0))
            (try (have c11e1 := c11b1; simp only [ByteArray.size_extract, Nat.min_self, Nat.sub_zero] at c11e1))
            (try (have c11e2 := c11b2; simp only [ByteArray.size_extract, Nat.min_self, Nat.sub_zero] at c11e2))
            obtain ⟨ji12, hji12⟩ : ∃ j_ : ByteArray, ((t223.extract 1 t223.size) ++ t224) = j_ := ⟨_, rfl⟩
            replace H : (if a1_5 = true then (vernierref07_Cut.j0 k a0 ji12 false a1_0 a1_1 a1_2 a1_3 a1_4 a1_5) else ((vernierref07_some.f k (ji12)).bind fun t225 => (vernierref07_Cut.j0 k a0 ji12 (!t225) a1_0 a1_1 a1_2 a1_3 a1_4 a1_5))) = some (r1, r2, r3) := by first | (rw [hji12] at H; exact H) | (simp only [hji12] at H ⊢; exact H)
            (try rw [hji12] at A3)
            (try rw [hji12] at A4)
            (try rw [hji12] at A8)
            (try rw [hji12] at A10)
            have HC13 := Aside0.mk H
            clear H
            go_enter Try.func12, Try.ntmps12
            try go_wp2_with (first | ((with_reducible refine gate_dst (N := 3) rfl ?_); refine box_event ?hg (N := 3) ?hd (cs := #[.int .i64 a1_0, .bool a1_1, .int .i64 a1_2, .int .u64 a1_3, .int .u64 a1_4, .bool a1_5]) (t := 24) ?hr ?_; (case hd => rfl); (case hg => rfl); (case hr => first | (go_simp; done) | (go_simp; rfl)); intro gb219 hg w14 hbox hb; have n0_ := Aside0.mk (below_step (by repeat (first | (with_reducible first | exact HB.out | apply below_alloc | apply pw_below_drewN | apply below_drew1) | exact HB.out)) hb); have n1_ := Aside0.mk (hbox); have n2_ := Aside0.mk ((by rw [hg]; exact (below_size (by repeat (first | (with_reducible first | exact HB.out | apply below_alloc | apply pw_below_drewN | apply below_drew1) | exact HB.out))) : w.heap.size ≤ gb219)); have n3_ := Aside0.mk ((by rw [hg]; exact (below_size (by repeat (first | (with_reducible first | exact HB.out | apply below_alloc | apply pw_below_drewN | apply below_drew1) | exact HB.out))) : w.heap.size ≤ gb219)); clear HB; have HB := n0_; have BK219 := n1_; have GW219 := n2_; have GE219 := n3_; clear n0_ n1_ n2_ n3_; clear hb hbox hg) | ((with_reducible refine gate_callee (f := 17) rfl ?_); refine goesL_ (some 15) rfl rfl Try.func17 (by kernel_rfl) rfl #[.int .i64 a0] rfl (by (try simp only [List.map_toArray, List.map_cons, List.map_nil]); first | done | rfl | (simp only [List.length_drop, List.length_take]; rfl)) ?_; (with_reducible refine (vernierref05_Is.calls a0 true _ A3.out).mono ?_); rintro e w' ⟨rfl, ⟨nd, rfl⟩⟩; refine ⟨_, rfl, ?_⟩; have hcz15_0 : w14.cell? ⟨gb219, 0, none⟩ = some (.int .i64 a1_0) := (blk_cell BK219.out 0).trans rfl; have hcz15_1 : w14.cell? ⟨gb219, 1, none⟩ = some (.bool a1_1) := (blk_cell BK219.out 1).trans rfl; have hcz15_2 : w14.cell? ⟨gb219, 2, none⟩ = some (.int .i64 a1_2) := (blk_cell BK219.out 2).trans rfl; have hcz15_3 : w14.cell? ⟨gb219, 3, none⟩ = some (.int .u64 a1_3) := (blk_cell BK219.out 3).trans rfl; have hcz15_4 : w14.cell? ⟨gb219, 4, none⟩ = some (.int .u64 a1_4) := (blk_cell BK219.out 4).trans rfl; have hcz15_5 : w14.cell? ⟨gb219, 5, none⟩ = some (.bool a1_5) := (blk_cell BK219.out 5).trans rfl; have hfz15_0 := blk_frozen BK219.out 0; have hfz15_1 := blk_frozen BK219.out 1; have hfz15_2 := blk_frozen BK219.out 2; have hfz15_3 := blk_frozen BK219.out 3; have hfz15_4 := blk_frozen BK219.out 4; have hfz15_5 := blk_frozen BK219.out 5) | ((with_reducible refine gate_callee (f := 16) rfl ?_); refine goesL_ (some 17) rfl rfl Try.func16 (by kernel_rfl) rfl #[.agg #[.int .i64 a1_0, .bool a1_1, .int .i64 a1_2, .int .u64 a1_3, .int .u64 a1_4, .bool a1_5]] rfl (by (try simp only [List.map_toArray, List.map_cons, List.map_nil]); first | done | rfl | (simp only [List.length_drop, List.length_take]; rfl)) ?_; (with_reducible refine (vernierref07_Sound.calls a1_0 a1_1 a1_2 a1_3 a1_4 a1_5 true _ A4.out).mono ?_); rintro e w16 ⟨rfl, hb⟩; refine ⟨_, rfl, ?_⟩; have n0_ := Aside0.mk (blk_below (g := gb219) (o := .cells #[.int .i64 a1_0, .bool a1_1, .int .i64 a1_2, .int .u64 a1_3, .int .u64 a1_4, .bool a1_5] 24 (0, 0)) (by (with_reducible repeat (first | refine blk_drewN ?_ _ | refine blk_drew ?_ | refine blk_alloc ?_ _)); exact BK219.out) hb); have n1_ := Aside0.mk (below_step (by repeat (first | (with_reducible first | exact HB.out | apply below_alloc | apply pw_below_drewN | apply below_drew1 | refine below_set ?_ GE219.out) | exact HB.out)) hb); clear BK219; clear HB; have BK219 := n0_; have HB := n1_; clear n0_ n1_; (try clear hb); (try clear hb2); (try clear hk); (try clear hi); have hcz17_0 : w16.cell? ⟨gb219, 0, none⟩ = some (.int .i64 a1_0) := (blk_cell BK219.out 0).trans rfl; have hcz17_1 : w16.cell? ⟨gb219, 1, none⟩ = some (.bool a1_1) := (blk_cell BK219.out 1).trans rfl; have hcz17_2 : w16.cell? ⟨gb219, 2, none⟩ = some (.int .i64 a1_2) := (blk_cell BK219.out 2).trans rfl; have hcz17_3 : w16.cell? ⟨gb219, 3, none⟩ = some (.int .u64 a1_3) := (blk_cell BK219.out 3).trans rfl; have hcz17_4 : w16.cell? ⟨gb219, 4, none⟩ = some (.int .u64 a1_4) := (blk_cell BK219.out 4).trans rfl; have hcz17_5 : w16.cell? ⟨gb219, 5, none⟩ = some (.bool a1_5) := (blk_cell BK219.out 5).trans rfl; have hfz17_0 := blk_frozen BK219.out 0; have hfz17_1 := blk_frozen BK219.out 1; have hfz17_2 := blk_frozen BK219.out 2; have hfz17_3 := blk_frozen BK219.out 3; have hfz17_4 := blk_frozen BK219.out 4; have hfz17_5 := blk_frozen BK219.out 5))
            have n0_ := Aside0.mk (blk_drew BK219.out)
            have n1_ := Aside0.mk (below_drew1 HB.out)
            clear BK219
            clear HB
            have BK219 := n0_
            have HB := n1_
            clear n0_ n1_
            refine start_ (n := 9) (S := fun w' => w'.cell? ⟨gb219, 0, none⟩ = some (.int .i64 a1_0) ∧ w'.cell? ⟨gb219, 1, none⟩ = some (.bool a1_1) ∧ w'.cell? ⟨gb219, 2, none⟩ = some (.int .i64 a1_2) ∧ w'.cell? ⟨gb219, 3, none⟩ = some (.int .u64 a1_3) ∧ w'.cell? ⟨gb219, 4, none⟩ = some (.int .u64 a1_4) ∧ w'.cell? ⟨gb219, 5, none⟩ = some (.bool a1_5)) (ds := []) #[false, false, false, false, false, false, false, false, false] (by kernel_rfl) rfl rfl ⟨(blk_cell BK219.out 0).trans rfl, (blk_cell BK219.out 1).trans rfl, (blk_cell BK219.out 2).trans rfl, (blk_cell BK219.out 3).trans rfl, (blk_cell BK219.out 4).trans rfl, (blk_cell BK219.out 5).trans rfl⟩ (fun hHeld => ?_); refine with_tabW vernierref07_Cut.tab12 vernierref07_Cut.bits12 (fun HT_ HW_ => ?_)
            generalize w16.drew = w18 at BK219 HB hHeld ⊢
            refine pure_ (i := 0) (N := some 32) (v := ?_) (a' := ?_) #[true, false, false, false, false, false, false, false, false] rfl rfl (any_of HT_.out (by kernel_rfl)) (fun _ _ _ h => h) (Or.inl ⟨by rfl, ?_⟩) ?_ ?_
            rotate_left
            · intro w'
              go_simp
              with_reducible rfl
            rotate_left
            · simp only [Act.put, List.setIfInBounds_toArray, List.set_cons_zero, List.set_cons_succ, i64_w, i32_w]
              rfl
            refine pure_ (i := 4) (N := some 36) (v := ?_) (a' := ?_) #[true, false, false, false, true, false, false, false, false] rfl rfl (any_of HT_.out (by kernel_rfl)) (fun _ _ _ h => h) (Or.inl ⟨by rfl, ?_⟩) ?_ ?_
            rotate_left
            · intro w'
              go_simp
              with_reducible rfl
            rotate_left
            · simp only [Act.put, List.setIfInBounds_toArray, List.set_cons_zero, List.set_cons_succ, i64_w, i32_w]
              rfl
            refine take_ (i := 1) (N := some 33) (v := ?_) (a' := ?_) #[true, true, false, false, true, false, false, false, false] rfl rfl (take_ofW HT_.out HW_.out (by kernel_rfl)) (fun _ _ _ h => h) (Or.inl ⟨by rfl, ?_⟩) hHeld ?_ ?_
            rotate_left
            · rintro w' ⟨s0, s1, s2, s3, s4, s5⟩
              go_simp
              with_reducible rfl
            rotate_left
            · simp only [Act.put, List.setIfInBounds_toArray, List.set_cons_zero, List.set_cons_succ, i64_w, i32_w]
              rfl
            refine take_ (i := 5) (N := some 37) (v := ?_) (a' := ?_) #[true, true, false, false, true, true, false, false, false] rfl rfl (take_ofW HT_.out HW_.out (by kernel_rfl)) (fun _ _ _ h => h) (Or.inl ⟨by rfl, ?_⟩) hHeld ?_ ?_
            rotate_left
            · rintro w' ⟨s0, s1, s2, s3, s4, s5⟩
              go_simp
              with_reducible rfl
            rotate_left
            · simp only [Act.put, List.setIfInBounds_toArray, List.set_cons_zero, List.set_cons_succ, i64_w, i32_w]
              rfl
            refine one_ (i := 2) (N := some 34) #[true, true, true, false, true, true, false, false, false] rfl rfl (one_of HT_.out (by kernel_rfl)) (by decide) (fun K hK => ?_)
            refine goes_ Try.func32 (by kernel_rfl) rfl #[.int .u64 a1_3, .int .i64 64] (by rfl) rfl rfl (by (try simp only [List.map_toArray, List.map_cons, List.map_nil]); first | done | rfl | (simp only [List.length_drop, List.length_take]; rfl)) ?_
            with_reducible refine (vernierref01_Text.calls k a1_3 64 t223 _ A8.out).mono ?_
            rintro e w19 ⟨rfl, hb⟩
            refine ⟨_, rfl, ?_⟩
            have n0_ := Aside0.mk (blk_below (g := gb219) (o := .cells #[.int .i64 a1_0, .bool a1_1, .int .i64 a1_2, .int .u64 a1_3, .int .u64 a1_4, .bool a1_5] 24 (0, 0)) (by (with_reducible repeat (first | refine blk_drewN ?_ _ | refine blk_drew ?_ | refine blk_alloc ?_ _)); exact BK219.out) hb)
            have n1_ := Aside0.mk (below_step (by repeat (first | (with_reducible first | exact HB.out | apply below_alloc | apply pw_below_drewN | apply below_drew1 | refine below_set ?_ GE219.out) | exact HB.out)) hb)
            clear BK219
            clear HB
            have BK219 := n0_
            have HB := n1_
            clear n0_ n1_
            (try clear hb)
            (try clear hb2)
            (try clear hk)
            (try clear hi)
            refine hK.out _ _ ⟨(blk_cell BK219.out 0).trans rfl, (blk_cell BK219.out 1).trans rfl, (blk_cell BK219.out 2).trans rfl, (blk_cell BK219.out 3).trans rfl, (blk_cell BK219.out 4).trans rfl, (blk_cell BK219.out 5).trans rfl⟩ (fun hHeld => ?_)
            clear hK K
            refine norm_ (a' := ?_) ?_ ?_
            rotate_left
            · show Act.put _ (some 34) _ = _
              simp only [Act.put, List.setIfInBounds_toArray, List.set_cons_zero, List.set_cons_succ, i64_w, i32_w]
              rfl
            refine pure_ (i := 3) (N := some 35) (v := ?_) (a' := ?_) #[true, true, true, true, true, true, false, false, false] rfl rfl (any_of HT_.out (by kernel_rfl)) (fun _ _ _ h => h) (Or.inl ⟨by rfl, ?_⟩) ?_ ?_
            rotate_left
            · intro w'
              go_simp
              with_reducible rfl
            rotate_left
            · simp only [Act.put, List.setIfInBounds_toArray, List.set_cons_zero, List.set_cons_succ, i64_w, i32_w]
              rfl
            refine one_ (i := 6) (N := some 38) #[true, true, true, true, true, true, true, false, false] rfl rfl (one_of HT_.out (by kernel_rfl)) (by decide) (fun K hK => ?_)
            refine goes_ Try.func32 (by kernel_rfl) rfl #[.int .u64 a1_4, .int .i64 64] (by rfl) rfl rfl (by (try simp only [List.map_toArray, List.map_cons, List.map_nil]); first | done | rfl | (simp only [List.length_drop, List.length_take]; rfl)) ?_
            with_reducible refine (vernierref01_Text.calls k a1_4 64 t224 _ A10.out).mono ?_
            rintro e w20 ⟨rfl, hb⟩
            refine ⟨_, rfl, ?_⟩
            have n0_ := Aside0.mk (blk_below (g := gb219) (o := .cells #[.int .i64 a1_0, .bool a1_1, .int .i64 a1_2, .int .u64 a1_3, .int .u64 a1_4, .bool a1_5] 24 (0, 0)) (by (with_reducible repeat (first | refine blk_drewN ?_ _ | refine blk_drew ?_ | refine blk_alloc ?_ _)); exact BK219.out) hb)
            have n1_ := Aside0.mk (below_step (by repeat (first | (with_reducible first | exact HB.out | apply below_alloc | apply pw_below_drewN | apply below_drew1 | refine below_set ?_ GE219.out) | exact HB.out)) hb)
            clear BK219
            clear HB
            have BK219 := n0_
            have HB := n1_
            clear n0_ n1_
            (try clear hb)
            (try clear hb2)
            (try clear hk)
            (try clear hi)
            refine hK.out _ _ ⟨(blk_cell BK219.out 0).trans rfl, (blk_cell BK219.out 1).trans rfl, (blk_cell BK219.out 2).trans rfl, (blk_cell BK219.out 3).trans rfl, (blk_cell BK219.out 4).trans rfl, (blk_cell BK219.out 5).trans rfl⟩ (fun hHeld => ?_)
            clear hK K
            refine norm_ (a' := ?_) ?_ ?_
            rotate_left
            · show Act.put _ (some 38) _ = _
              simp only [Act.put, List.setIfInBounds_toArray, List.set_cons_zero, List.set_cons_succ, i64_w, i32_w]
              rfl
            refine pure_ (i := 7) (N := some 39) (v := ?_) (a' := ?_) #[true, true, true, true, true, true, true, true, false] rfl rfl (any_of HT_.out (by kernel_rfl)) (fun _ _ _ h => h) (Or.inl ⟨by rfl, ?_⟩) ?_ ?_
            rotate_left
            · intro w'
              go_simp
              with_reducible rfl
            rotate_left
            · simp only [Act.put, List.setIfInBounds_toArray, List.set_cons_zero, List.set_cons_succ, i64_w, i32_w]
              rfl
            refine pure_ (i := 8) (N := some 10) (v := ?_) (a' := ?_) #[true, true, true, true, true, true, true, true, true] rfl rfl (any_of HT_.out (by kernel_rfl)) (fun _ _ _ h => h) (Or.inl ⟨by rfl, ?_⟩) ?_ ?_
            rotate_left
            · intro w'
              go_simp
              with_reducible rfl
            rotate_left
            · simp only [Act.put, List.setIfInBounds_toArray, List.set_cons_zero, List.set_cons_succ, i64_w, i32_w]
              rfl
            refine done_ (done_of HT_.out (by kernel_rfl)) ?_
            go_upto_region 13 with (fail)
            go_cut [11] (fun v11 wc => ∃ (kq : Nat) (x11_12 : Bool), v11 = .bool x11_12 ∧ Aside0 (vernierref07_Cut.j0 kq a0 ji12 x11_12 a1_0 a1_1 a1_2 a1_3 a1_4 a1_5 = some (r1, r2, r3)) ∧ Aside0 (kq ≤ k) ∧ Aside0 (wc.heap[gb219]? = some (.cells #[.int .i64 a1_0, .bool a1_1, .int .i64 a1_2, .int .u64 a1_3, .int .u64 a1_4, .bool a1_5] 24 (0, 0))) ∧ Aside0 (Below w.heap.size w wc))
            case first =>
              have H := HC13.out
              clear HC13
              by_cases c21 : a1_5 = true
              · subst c21
                have H1 : (vernierref07_Cut.j0 k a0 ji12 false a1_0 a1_1 a1_2 a1_3 a1_4 true) = some (r1, r2, r3) := by rw [if_pos rfl] at H; exact H
                clear H
                have H := H1
                clear H1
                have H' := Aside0.mk H
                clear H
                have hcz22_0 : w20.cell? ⟨gb219, 0, none⟩ = some (.int .i64 a1_0) := (blk_cell BK219.out 0).trans rfl
                have hcz22_1 : w20.cell? ⟨gb219, 1, none⟩ = some (.bool a1_1) := (blk_cell BK219.out 1).trans rfl
                have hcz22_2 : w20.cell? ⟨gb219, 2, none⟩ = some (.int .i64 a1_2) := (blk_cell BK219.out 2).trans rfl
                have hcz22_3 : w20.cell? ⟨gb219, 3, none⟩ = some (.int .u64 a1_3) := (blk_cell BK219.out 3).trans rfl
                have hcz22_4 : w20.cell? ⟨gb219, 4, none⟩ = some (.int .u64 a1_4) := (blk_cell BK219.out 4).trans rfl
                have hcz22_5 : w20.cell? ⟨gb219, 5, none⟩ = some (.bool true) := (blk_cell BK219.out 5).trans rfl
                have hfz22_0 := blk_frozen BK219.out 0
                have hfz22_1 := blk_frozen BK219.out 1
                have hfz22_2 := blk_frozen BK219.out 2
                have hfz22_3 := blk_frozen BK219.out 3
                have hfz22_4 := blk_frozen BK219.out 4
                have hfz22_5 := blk_frozen BK219.out 5
                go_wp2
                go_meet
                case rel => exact ⟨_, (false), (by first | rfl | (simp; done) | (simp [*]; done)), H', ⟨by first | omega | exact Nat.le_refl _⟩, ⟨by (with_reducible repeat (first | refine blk_drewN ?_ _ | refine blk_drew ?_ | refine blk_alloc ?_ _)); exact BK219.out⟩, ⟨by repeat (first | (with_reducible first | exact HB.out | apply below_alloc | apply pw_below_drewN | apply below_drew1 | refine below_set ?_ GE219.out) | exact HB.out)⟩⟩
              · replace c21 := Bool.eq_false_iff.mpr c21
                subst c21
                have H1 : ((vernierref07_some.f k (ji12)).bind fun t225 => (vernierref07_Cut.j0 k a0 ji12 (!t225) a1_0 a1_1 a1_2 a1_3 a1_4 false)) = some (r1, r2, r3) := by rw [if_neg (show ¬ (false = true) by decide)] at H; exact H
                clear H
                have H := H1
                clear H1
                replace H := Option.bind_eq_some_iff.mp H
                obtain ⟨t225, A230, H⟩ := H
                replace H : (vernierref07_Cut.j0 k a0 ji12 (!t225) a1_0 a1_1 a1_2 a1_3 a1_4 false) = some (r1, r2, r3) := H
                have A23 := Aside0.mk A230
                clear A230
                have H' := Aside0.mk H
                clear H
                have hcz24_0 : w20.cell? ⟨gb219, 0, none⟩ = some (.int .i64 a1_0) := (blk_cell BK219.out 0).trans rfl
                have hcz24_1 : w20.cell? ⟨gb219, 1, none⟩ = some (.bool a1_1) := (blk_cell BK219.out 1).trans rfl
                have hcz24_2 : w20.cell? ⟨gb219, 2, none⟩ = some (.int .i64 a1_2) := (blk_cell BK219.out 2).trans rfl
                have hcz24_3 : w20.cell? ⟨gb219, 3, none⟩ = some (.int .u64 a1_3) := (blk_cell BK219.out 3).trans rfl
                have hcz24_4 : w20.cell? ⟨gb219, 4, none⟩ = some (.int .u64 a1_4) := (blk_cell BK219.out 4).trans rfl
                have hcz24_5 : w20.cell? ⟨gb219, 5, none⟩ = some (.bool false) := (blk_cell BK219.out 5).trans rfl
                have hfz24_0 := blk_frozen BK219.out 0
                have hfz24_1 := blk_frozen BK219.out 1
                have hfz24_2 := blk_frozen BK219.out 2
                have hfz24_3 := blk_frozen BK219.out 3
                have hfz24_4 := blk_frozen BK219.out 4
                have hfz24_5 := blk_frozen BK219.out 5
                go_wp2_with (first | (go_at_call 33; (with_reducible refine (vernierref07_some.calls k ji12 t225 _ A23.out).mono ?_); rintro e w' ⟨rfl, ⟨nd, rfl⟩⟩))
                go_meet
                case rel => exact ⟨_, (!t225), (by first | rfl | (simp; done) | (simp [*]; done)), H', ⟨by first | omega | exact Nat.le_refl _⟩, ⟨by (with_reducible repeat (first | refine blk_drewN ?_ _ | refine blk_drew ?_ | refine blk_alloc ?_ _)); exact BK219.out⟩, ⟨by repeat (first | (with_reducible first | exact HB.out | apply below_alloc | apply pw_below_drewN | apply below_drew1 | refine below_set ?_ GE219.out) | exact HB.out)⟩⟩
            case rest =>
              clear HC13
              try clear c1
              try clear c2
              try clear p2
              try clear c3
              try clear c5
              try clear c6
              try clear p6
              try clear c7
              try clear c7b0
              try clear c7b1
              try clear c9
              try clear c9b0
              try clear c9b1
              try clear c11
              try clear c11b0
              try clear c11b1
              try clear c11b2
              try clear c12
              try clear c16
              try clear c17
              try clear c21
              try clear hcz15_0
              try clear hcz15_1
              try clear hcz15_2
              try clear hcz15_3
              try clear hcz15_4
              try clear hcz15_5
              try clear hcz17_0
              try clear hcz17_1
              try clear hcz17_2
              try clear hcz17_3
              try clear hcz17_4
              try clear hcz17_5
              try clear hcz22_0
              try clear hcz22_1
              try clear hcz22_2
              try clear hcz22_3
              try clear hcz22_4
              try clear hcz22_5
              try clear hcz24_0
              try clear hcz24_1
              try clear hcz24_2
              try clear hcz24_3
              try clear hcz24_4
              try clear hcz24_5
              try clear hfz15_0
              try clear hfz15_1
              try clear hfz15_2
              try clear hfz15_3
              try clear hfz15_4
              try clear hfz15_5
              try clear hfz17_0
              try clear hfz17_1
              try clear hfz17_2
              try clear hfz17_3
              try clear hfz17_4
              try clear hfz17_5
              try clear hfz22_0
              try clear hfz22_1
              try clear hfz22_2
              try clear hfz22_3
              try clear hfz22_4
              try clear hfz22_5
              try clear hfz24_0
              try clear hfz24_1
              try clear hfz24_2
              try clear hfz24_3
              try clear hfz24_4
              try clear hfz24_5
              obtain ⟨kq, x11_12, rfl, HA, HJ12, BK219, HB⟩ := hcut
              cases kq with
              | zero => exact absurd HA.out (by simp [vernierref07_Cut.j0])
              | succ kj12 =>
                have H := HA.out
                clear HA
                simp only [vernierref07_Cut.j0] at H
                by_cases c25 : a1_2 ≥ (wrap64 ((wrap64 (4 * a0)) - 8))
                · rw [if_pos c25] at H
                  have c25b0 : decide ((wrap64 ((wrap64 (4 * a0)) - 8)) ≤ a1_2) = true := decide_eq_true c25
                  clear c25
                  replace H := Option.bind_eq_some_iff.mp H
                  obtain ⟨t226, A260, H⟩ := H
                  replace H : (some (IntKind.u64.wrap (t226 - 1), 0, 0)) = some (r1, r2, r3) := H
                  have A26 := Aside0.mk A260
                  clear A260
                  simp only [Option.some.injEq, Prod.mk.injEq] at H
                  obtain ⟨rfl, rfl, rfl⟩ := H
                  have hcz27_0 : wc.cell? ⟨gb219, 0, none⟩ = some (.int .i64 a1_0) := (blk_cell BK219.out 0).trans rfl
                  have hcz27_1 : wc.cell? ⟨gb219, 1, none⟩ = some (.bool a1_1) := (blk_cell BK219.out 1).trans rfl
                  have hcz27_2 : wc.cell? ⟨gb219, 2, none⟩ = some (.int .i64 a1_2) := (blk_cell BK219.out 2).trans rfl
                  have hcz27_3 : wc.cell? ⟨gb219, 3, none⟩ = some (.int .u64 a1_3) := (blk_cell BK219.out 3).trans rfl
                  have hcz27_4 : wc.cell? ⟨gb219, 4, none⟩ = some (.int .u64 a1_4) := (blk_cell BK219.out 4).trans rfl
                  have hcz27_5 : wc.cell? ⟨gb219, 5, none⟩ = some (.bool a1_5) := (blk_cell BK219.out 5).trans rfl
                  have hfz27_0 := blk_frozen BK219.out 0
                  have hfz27_1 := blk_frozen BK219.out 1
                  have hfz27_2 := blk_frozen BK219.out 2
                  have hfz27_3 := blk_frozen BK219.out 3
                  have hfz27_4 := blk_frozen BK219.out 4
                  have hfz27_5 := blk_frozen BK219.out 5
                  go_wp2_with (first | ((with_reducible refine gate_callee (f := 26) rfl ?_); refine goesL_ (some 57) rfl rfl Try.func26 (by kernel_rfl) rfl #[.int .i64 (wrap64 (a0 - 1))] rfl (by (try simp only [List.map_toArray, List.map_cons, List.map_nil]); first | done | rfl | (simp only [List.length_drop, List.length_take]; rfl)) ?_; (with_reducible refine (vernierref05_Power.calls kj12 (wrap64 (a0 - 1)) t226 _ A26.out).mono ?_); rintro e w' ⟨rfl, ⟨nd, rfl⟩⟩; refine ⟨_, rfl, ?_⟩))
                  go_ret3
                  exact ⟨by first | rfl | (simp [errW_none, errW_some] <;> rfl) | (simp only [← hji12]; first | rfl | (simp [errW_none, errW_some] <;> rfl)) | (simp [*, errW_none, errW_some] <;> rfl), by repeat (first | (with_reducible first | exact HB.out | apply below_alloc | apply pw_below_drewN | apply below_drew1 | refine below_set ?_ GE219.out) | exact HB.out)⟩
                · rw [if_neg c25] at H
                  have c25b0 : decide ((wrap64 ((wrap64 (4 * a0)) - 8)) ≤ a1_2) = false := decide_eq_false c25
                  clear c25
                  have HC28 := Aside0.mk H
                  clear H
                  have hcz29_0 : wc.cell? ⟨gb219, 0, none⟩ = some (.int .i64 a1_0) := (blk_cell BK219.out 0).trans rfl
                  have hcz29_1 : wc.cell? ⟨gb219, 1, none⟩ = some (.bool a1_1) := (blk_cell BK219.out 1).trans rfl
                  have hcz29_2 : wc.cell? ⟨gb219, 2, none⟩ = some (.int .i64 a1_2) := (blk_cell BK219.out 2).trans rfl
                  have hcz29_3 : wc.cell? ⟨gb219, 3, none⟩ = some (.int .u64 a1_3) := (blk_cell BK219.out 3).trans rfl
                  have hcz29_4 : wc.cell? ⟨gb219, 4, none⟩ = some (.int .u64 a1_4) := (blk_cell BK219.out 4).trans rfl
                  have hcz29_5 : wc.cell? ⟨gb219, 5, none⟩ = some (.bool a1_5) := (blk_cell BK219.out 5).trans rfl
                  have hfz29_0 := blk_frozen BK219.out 0
                  have hfz29_1 := blk_frozen BK219.out 1
                  have hfz29_2 := blk_frozen BK219.out 2
                  have hfz29_3 := blk_frozen BK219.out 3
                  have hfz29_4 := blk_frozen BK219.out 4
                  have hfz29_5 := blk_frozen BK219.out 5
                  go_upto_region 17 with (fail)
                  go_cut [73] (fun v73 wc => ∃ (kq : Nat) (x73_27 : Bool), v73 = .bool x73_27 ∧ Aside0 (vernierref07_Cut.j1 kq a0 ji12 x73_27 a1_0 a1_1 a1_2 a1_3 a1_4 a1_5 = some (r1, r2, r3)) ∧ Aside0 (kq ≤ kj12) ∧ Aside0 (wc.heap[gb219]? = some (.cells #[.int .i64 a1_0, .bool a1_1, .int .i64 a1_2, .int .u64 a1_3, .int .u64 a1_4, .bool a1_5] 24 (0, 0))) ∧ Aside0 (Below w.heap.size w wc))
                  case first =>
                    have H := HC28.out
                    clear HC28
                    by_cases c30 : a1_2 < (wrap64 (-(wrap64 ((wrap64 (4 * a0)) - 8))))
                    · rw [if_pos c30] at H
                      have c30b0 : decide (a1_2 < (wrap64 (-(wrap64 ((wrap64 (4 * a0)) - 8))))) = true := decide_eq_true c30
                      clear c30
                      (first | rw [c30b0] | (simp only [i64_w, i32_w]; rw [c30b0]) | skip)
                      have H' := Aside0.mk H
                      clear H
                      have hcz31_0 : wc.cell? ⟨gb219, 0, none⟩ = some (.int .i64 a1_0) := (blk_cell BK219.out 0).trans rfl
                      have hcz31_1 : wc.cell? ⟨gb219, 1, none⟩ = some (.bool a1_1) := (blk_cell BK219.out 1).trans rfl
                      have hcz31_2 : wc.cell? ⟨gb219, 2, none⟩ = some (.int .i64 a1_2) := (blk_cell BK219.out 2).trans rfl
                      have hcz31_3 : wc.cell? ⟨gb219, 3, none⟩ = some (.int .u64 a1_3) := (blk_cell BK219.out 3).trans rfl
                      have hcz31_4 : wc.cell? ⟨gb219, 4, none⟩ = some (.int .u64 a1_4) := (blk_cell BK219.out 4).trans rfl
                      have hcz31_5 : wc.cell? ⟨gb219, 5, none⟩ = some (.bool a1_5) := (blk_cell BK219.out 5).trans rfl
                      have hfz31_0 := blk_frozen BK219.out 0
                      have hfz31_1 := blk_frozen BK219.out 1
                      have hfz31_2 := blk_frozen BK219.out 2
                      have hfz31_3 := blk_frozen BK219.out 3
                      have hfz31_4 := blk_frozen BK219.out 4
                      have hfz31_5 := blk_frozen BK219.out 5
                      go_wp2
                      go_meet
                      case rel => exact ⟨_, (true), (by first | rfl | (simp; done) | (simp [*]; done)), H', ⟨by have := HJ12.out; first | omega | exact Nat.le_refl _⟩, ⟨by (with_reducible repeat (first | refine blk_drewN ?_ _ | refine blk_drew ?_ | refine blk_alloc ?_ _)); exact BK219.out⟩, ⟨by repeat (first | (with_reducible first | exact HB.out | apply below_alloc | apply pw_below_drewN | apply below_drew1 | refine below_set ?_ GE219.out) | exact HB.out)⟩⟩
                    · rw [if_neg c30] at H
                      have c30b0 : decide (a1_2 < (wrap64 (-(wrap64 ((wrap64 (4 * a0)) - 8))))) = false := decide_eq_false c30
                      clear c30
                      (first | rw [c30b0] | (simp only [i64_w, i32_w]; rw [c30b0]) | skip)
                      by_cases c32 : a1_2 = (wrap64 (-(wrap64 ((wrap64 (4 * a0)) - 8))))
                      · rw [if_pos c32] at H
                        have c32b0 : (a1_2 == (wrap64 (-(wrap64 ((wrap64 (4 * a0)) - 8))))) = true := beq_iff_eq.mpr c32
                        have c32b1 : (a1_2 != (wrap64 (-(wrap64 ((wrap64 (4 * a0)) - 8))))) = false := bne_eq_false_iff_eq.mpr c32
                        clear c32
                        have H' := Aside0.mk H
                        clear H
                        have hcz33_0 : wc.cell? ⟨gb219, 0, none⟩ = some (.int .i64 a1_0) := (blk_cell BK219.out 0).trans rfl
                        have hcz33_1 : wc.cell? ⟨gb219, 1, none⟩ = some (.bool a1_1) := (blk_cell BK219.out 1).trans rfl
                        have hcz33_2 : wc.cell? ⟨gb219, 2, none⟩ = some (.int .i64 a1_2) := (blk_cell BK219.out 2).trans rfl
                        have hcz33_3 : wc.cell? ⟨gb219, 3, none⟩ = some (.int .u64 a1_3) := (blk_cell BK219.out 3).trans rfl
                        have hcz33_4 : wc.cell? ⟨gb219, 4, none⟩ = some (.int .u64 a1_4) := (blk_cell BK219.out 4).trans rfl
                        have hcz33_5 : wc.cell? ⟨gb219, 5, none⟩ = some (.bool a1_5) := (blk_cell BK219.out 5).trans rfl
                        have hfz33_0 := blk_frozen BK219.out 0
                        have hfz33_1 := blk_frozen BK219.out 1
                        have hfz33_2 := blk_frozen BK219.out 2
                        have hfz33_3 := blk_frozen BK219.out 3
                        have hfz33_4 := blk_frozen BK219.out 4
                        have hfz33_5 := blk_frozen BK219.out 5
                        go_wp2
                        go_meet
                        case rel => exact ⟨_, (x11_12), (by first | rfl | (simp; done) | (simp [*]; done)), H', ⟨by have := HJ12.out; first | omega | exact Nat.le_refl _⟩, ⟨by (with_reducible repeat (first | refine blk_drewN ?_ _ | refine blk_drew ?_ | refine blk_alloc ?_ _)); exact BK219.out⟩, ⟨by repeat (first | (with_reducible first | exact HB.out | apply below_alloc | apply pw_below_drewN | apply below_drew1 | refine below_set ?_ GE219.out) | exact HB.out)⟩⟩
                      · rw [if_neg c32] at H
                        have c32b0 : (a1_2 == (wrap64 (-(wrap64 ((wrap64 (4 * a0)) - 8))))) = false := beq_eq_false_iff_ne.mpr c32
                        have c32b1 : (a1_2 != (wrap64 (-(wrap64 ((wrap64 (4 * a0)) - 8))))) = true := bne_iff_ne.mpr c32
                        have H' := Aside0.mk H
                        clear H
                        have hcz34_0 : wc.cell? ⟨gb219, 0, none⟩ = some (.int .i64 a1_0) := (blk_cell BK219.out 0).trans rfl
                        have hcz34_1 : wc.cell? ⟨gb219, 1, none⟩ = some (.bool a1_1) := (blk_cell BK219.out 1).trans rfl
                        have hcz34_2 : wc.cell? ⟨gb219, 2, none⟩ = some (.int .i64 a1_2) := (blk_cell BK219.out 2).trans rfl
                        have hcz34_3 : wc.cell? ⟨gb219, 3, none⟩ = some (.int .u64 a1_3) := (blk_cell BK219.out 3).trans rfl
                        have hcz34_4 : wc.cell? ⟨gb219, 4, none⟩ = some (.int .u64 a1_4) := (blk_cell BK219.out 4).trans rfl
                        have hcz34_5 : wc.cell? ⟨gb219, 5, none⟩ = some (.bool a1_5) := (blk_cell BK219.out 5).trans rfl
                        have hfz34_0 := blk_frozen BK219.out 0
                        have hfz34_1 := blk_frozen BK219.out 1
                        have hfz34_2 := blk_frozen BK219.out 2
                        have hfz34_3 := blk_frozen BK219.out 3
                        have hfz34_4 := blk_frozen BK219.out 4
                        have hfz34_5 := blk_frozen BK219.out 5
                        go_wp2
                        go_meet
                        case rel => exact ⟨_, (false), (by first | rfl | (simp; done) | (simp [*]; done)), H', ⟨by have := HJ12.out; first | omega | exact Nat.le_refl _⟩, ⟨by (with_reducible repeat (first | refine blk_drewN ?_ _ | refine blk_drew ?_ | refine blk_alloc ?_ _)); exact BK219.out⟩, ⟨by repeat (first | (with_reducible first | exact HB.out | apply below_alloc | apply pw_below_drewN | apply below_drew1 | refine below_set ?_ GE219.out) | exact HB.out)⟩⟩
                  case rest =>
                    clear HC28
                    try clear c1
                    try clear c2
                    try clear p2
                    try clear c3
                    try clear c5
                    try clear c6
                    try clear p6
                    try clear c7
                    try clear c7b0
                    try clear c7b1
                    try clear c9
                    try clear c9b0
                    try clear c9b1
                    try clear c11
                    try clear c11b0
                    try clear c11b1
                    try clear c11b2
                    try clear c12
                    try clear c16
                    try clear c17
                    try clear c21
                    try clear c25
                    try clear c25b0
                    try clear c26
                    try clear c30
                    try clear c30b0
                    try clear c32
                    try clear c32b0
                    try clear c32b1
                    try clear hcz15_0
                    try clear hcz15_1
                    try clear hcz15_2
                    try clear hcz15_3
                    try clear hcz15_4
                    try clear hcz15_5
                    try clear hcz17_0
                    try clear hcz17_1
                    try clear hcz17_2
                    try clear hcz17_3
                    try clear hcz17_4
                    try clear hcz17_5
                    try clear hcz22_0
                    try clear hcz22_1
                    try clear hcz22_2
                    try clear hcz22_3
                    try clear hcz22_4
                    try clear hcz22_5
                    try clear hcz24_0
                    try clear hcz24_1
                    try clear hcz24_2
                    try clear hcz24_3
                    try clear hcz24_4
                    try clear hcz24_5
                    try clear hcz27_0
                    try clear hcz27_1
                    try clear hcz27_2
                    try clear hcz27_3
                    try clear hcz27_4
                    try clear hcz27_5
                    try clear hcz29_0
                    try clear hcz29_1
                    try clear hcz29_2
                    try clear hcz29_3
                    try clear hcz29_4
                    try clear hcz29_5
                    try clear hcz31_0
                    try clear hcz31_1
                    try clear hcz31_2
                    try clear hcz31_3
                    try clear hcz31_4
                    try clear hcz31_5
                    try clear hcz33_0
                    try clear hcz33_1
                    try clear hcz33_2
                    try clear hcz33_3
                    try clear hcz33_4
                    try clear hcz33_5
                    try clear hcz34_0
                    try clear hcz34_1
                    try clear hcz34_2
                    try clear hcz34_3
                    try clear hcz34_4
                    try clear hcz34_5
                    try clear hfz15_0
                    try clear hfz15_1
                    try clear hfz15_2
                    try clear hfz15_3
                    try clear hfz15_4
                    try clear hfz15_5
                    try clear hfz17_0
                    try clear hfz17_1
                    try clear hfz17_2
                    try clear hfz17_3
                    try clear hfz17_4
                    try clear hfz17_5
                    try clear hfz22_0
                    try clear hfz22_1
                    try clear hfz22_2
                    try clear hfz22_3
                    try clear hfz22_4
                    try clear hfz22_5
                    try clear hfz24_0
                    try clear hfz24_1
                    try clear hfz24_2
                    try clear hfz24_3
                    try clear hfz24_4
                    try clear hfz24_5
                    try clear hfz27_0
                    try clear hfz27_1
                    try clear hfz27_2
                    try clear hfz27_3
                    try clear hfz27_4
                    try clear hfz27_5
                    try clear hfz29_0
                    try clear hfz29_1
                    try clear hfz29_2
                    try clear hfz29_3
                    try clear hfz29_4
                    try clear hfz29_5
                    try clear hfz31_0
                    try clear hfz31_1
                    try clear hfz31_2
                    try clear hfz31_3
                    try clear hfz31_4
                    try clear hfz31_5
                    try clear hfz33_0
                    try clear hfz33_1
                    try clear hfz33_2
                    try clear hfz33_3
                    try clear hfz33_4
                    try clear hfz33_5
                    try clear hfz34_0
                    try clear hfz34_1
                    try clear hfz34_2
                    try clear hfz34_3
                    try clear hfz34_4
                    try clear hfz34_5
                    try clear p2
                    try clear p6
                    obtain ⟨kq, x73_27, rfl, HA, HJ27, BK219, HB⟩ := hcut
                    cases kq with
                    | zero => exact absurd HA.out (by simp [vernierref07_Cut.j1])
                    | succ kj27 =>
                      have H := HA.out
                      clear HA
                      simp only [vernierref07_Cut.j1] at H
                      by_cases c35 : x73_27 = true
                      · subst c35
                        have H1 : (some (1, 0, 0)) = some (r1, r2, r3) := by rw [if_pos rfl] at H; exact H
                        clear H
                        have H := H1
                        clear H1
                        simp only [Option.some.injEq, Prod.mk.injEq] at H
                        obtain ⟨rfl, rfl, rfl⟩ := H
                        go_wp2
                        go_ret3
                        exact ⟨by first | rfl | (simp [errW_none, errW_some] <;> rfl) | (simp only [← hji12]; first | rfl | (simp [errW_none, errW_some] <;> rfl)) | (simp [*, errW_none, errW_some] <;> rfl), by repeat (first | (with_reducible first | exact HB.out | apply below_alloc | apply pw_below_drewN | apply below_drew1 | refine below_set ?_ GE219.out) | exact HB.out)⟩
                      · replace c35 := Bool.eq_false_iff.mpr c35
                        subst c35
                        have H1 : ((vernierref06_Head.f kj27 a1_2).bind fun t227 => (if t227.size + ji12.size ≤ 9223372036854775807 then (if 0 ≤ (wrap64 (a0 - 1)) then (if (wrap64 (a0 - 1)) ≤ ((t227 ++ ji12).size : Int) then ((vernierref01_Number.f kj27 ((t227 ++ ji12).extract 0 ((wrap64 (a0 - 1)) : Int).toNat)).bind fun t228 => ((vernierref07_left.f kj27 ((t227 ++ ji12).extract ((wrap64 (a0 - 1)) : Int).toNat (t227 ++ ji12).size) a1_5).bind fun t229 => (some (t228, t229, 0)))) else (none)) else (none)) else (none))) = some (r1, r2, r3) := by rw [if_neg (show ¬ (false = true) by decide)] at H; exact H
                        clear H
                        have H := H1
                        clear H1
                        replace H := Option.bind_eq_some_iff.mp H
                        obtain ⟨t227, A360, H⟩ := H
                        replace H : (if t227.size + ji12.size ≤ 9223372036854775807 then (if 0 ≤ (wrap64 (a0 - 1)) then (if (wrap64 (a0 - 1)) ≤ ((t227 ++ ji12).size : Int) then ((vernierref01_Number.f kj27 ((t227 ++ ji12).extract 0 ((wrap64 (a0 - 1)) : Int).toNat)).bind fun t228 => ((vernierref07_left.f kj27 ((t227 ++ ji12).extract ((wrap64 (a0 - 1)) : Int).toNat (t227 ++ ji12).size) a1_5).bind fun t229 => (some (t228, t229, 0)))) else (none)) else (none)) else (none)) = some (r1, r2, r3) := H
                        have A36 := Aside0.mk A360
                        clear A360
                        by_cases c37 : t227.size + ji12.size ≤ 9223372036854775807
                        · rw [if_pos c37] at H
                          have c37b0 := eq_true c37
                          have c37b1 : decide (t227.size + ji12.size ≤ 9223372036854775807) = true := decide_eq_true c37
                          try have c37b2 : (9223372036854775807 < t227.size + ji12.size) = False := eq_false (Nat.not_lt.2 c37)
                          obtain ⟨ji38, hji38⟩ : ∃ j_ : ByteArray, (t227 ++ ji12) = j_ := ⟨_, rfl⟩
                          replace H : (if 0 ≤ (wrap64 (a0 - 1)) then (if (wrap64 (a0 - 1)) ≤ ((ji38).size : Int) then ((vernierref01_Number.f kj27 ((ji38).extract 0 ((wrap64 (a0 - 1)) : Int).toNat)).bind fun t228 => ((vernierref07_left.f kj27 ((ji38).extract ((wrap64 (a0 - 1)) : Int).toNat (ji38).size) a1_5).bind fun t229 => (some (t228, t229, 0)))) else (none)) else (none)) = some (r1, r2, r3) := by first | (rw [hji38] at H; exact H) | (simp only [hji38] at H ⊢; exact H)
                          (try rw [hji38] at A36)
                          obtain ⟨ji39, hji39⟩ : ∃ j_ : Int, (wrap64 (a0 - 1)) = j_ := ⟨_, rfl⟩
                          replace H : (if 0 ≤ (ji39) then (if (ji39) ≤ ((ji38).size : Int) then ((vernierref01_Number.f kj27 ((ji38).extract 0 ((ji39) : Int).toNat)).bind fun t228 => ((vernierref07_left.f kj27 ((ji38).extract ((ji39) : Int).toNat (ji38).size) a1_5).bind fun t229 => (some (t228, t229, 0)))) else (none)) else (none)) = some (r1, r2, r3) := by first | (rw [hji39] at H; exact H) | (simp only [hji39] at H ⊢; exact H)
                          (try rw [hji39] at A36)
                          have hji39w : (IntKind.i64.wrap (a0 - 1)) = ji39 := (i64_w _).trans hji39
                          by_cases c40 : 0 ≤ (ji39)
                          · rw [if_pos c40] at H
                            have c40b0 := eq_true c40
                            have c40b1 : decide (0 ≤ (ji39)) = true := decide_eq_true c40
                            clear c40
                            by_cases c41 : (ji39) ≤ ((ji38).size : Int)
                            · rw [if_pos c41] at H
                              have c41b0 := eq_true c41
                              have c41b1 : decide ((ji39) ≤ ((ji38).size : Int)) = true := decide_eq_true c41
                              clear c41
                              replace H := Option.bind_eq_some_iff.mp H
                              obtain ⟨t228, A420, H⟩ := H
                              replace H : ((vernierref07_left.f kj27 ((ji38).extract ((ji39) : Int).toNat (ji38).size) a1_5).bind fun t229 => (some (t228, t229, 0))) = some (r1, r2, r3) := H
                              have A42 := Aside0.mk A420
                              clear A420
                              have c43b0 := eq_true (of_decide_eq_true (by first | (with_reducible assumption) | assumption) : 0 ≤ (ji39))
                              have c44b0 := eq_true (of_decide_eq_true (by first | (with_reducible assumption) | assumption) : (ji39) ≤ ((ji38).size : Int))
                              replace H := Option.bind_eq_some_iff.mp H
                              obtain ⟨t229, A450, H⟩ := H
                              replace H : (some (t228, t229, 0)) = some (r1, r2, r3) := H
                              have A45 := Aside0.mk A450
                              clear A450
                              simp only [Option.some.injEq, Prod.mk.injEq] at H
                              obtain ⟨rfl, rfl, rfl⟩ := H
                              have hcz46_0 : wc.cell? ⟨gb219, 0, none⟩ = some (.int .i64 a1_0) := (blk_cell BK219.out 0).trans rfl
                              have hcz46_1 : wc.cell? ⟨gb219, 1, none⟩ = some (.bool a1_1) := (blk_cell BK219.out 1).trans rfl
                              have hcz46_2 : wc.cell? ⟨gb219, 2, none⟩ = some (.int .i64 a1_2) := (blk_cell BK219.out 2).trans rfl
                              have hcz46_3 : wc.cell? ⟨gb219, 3, none⟩ = some (.int .u64 a1_3) := (blk_cell BK219.out 3).trans rfl
                              have hcz46_4 : wc.cell? ⟨gb219, 4, none⟩ = some (.int .u64 a1_4) := (blk_cell BK219.out 4).trans rfl
                              have hcz46_5 : wc.cell? ⟨gb219, 5, none⟩ = some (.bool a1_5) := (blk_cell BK219.out 5).trans rfl
                              have hfz46_0 := blk_frozen BK219.out 0
                              have hfz46_1 := blk_frozen BK219.out 1
                              have hfz46_2 := blk_frozen BK219.out 2
                              have hfz46_3 := blk_frozen BK219.out 3
                              have hfz46_4 := blk_frozen BK219.out 4
                              have hfz46_5 := blk_frozen BK219.out 5
                              try go_wp2_with (first | ((with_reducible refine gate_callee (f := 34) rfl ?_); refine goesL_ (some 76) rfl rfl Try.func34 (by kernel_rfl) rfl #[.int .i64 a1_2] rfl (by (try simp only [List.map_toArray, List.map_cons, List.map_nil]); first | done | rfl | (simp only [List.length_drop, List.length_take]; rfl)) ?_; (with_reducible refine (vernierref06_Head.calls kj27 a1_2 t227 _ A36.out).mono ?_); rintro e w47 ⟨rfl, hb⟩; refine ⟨_, rfl, ?_⟩; have n0_ := Aside0.mk (blk_below (g := gb219) (o := .cells #[.int .i64 a1_0, .bool a1_1, .int .i64 a1_2, .int .u64 a1_3, .int .u64 a1_4, .bool a1_5] 24 (0, 0)) (by (with_reducible repeat (first | refine blk_drewN ?_ _ | refine blk_drew ?_ | refine blk_alloc ?_ _)); exact BK219.out) hb); have n1_ := Aside0.mk (below_step (by repeat (first | (with_reducible first | exact HB.out | apply below_alloc | apply pw_below_drewN | apply below_drew1 | refine below_set ?_ GE219.out) | exact HB.out)) hb); clear BK219; clear HB; have BK219 := n0_; have HB := n1_; clear n0_ n1_; (try clear hb); (try clear hb2); (try clear hk); (try clear hi)))
                              have n0_ := Aside0.mk (blk_drew BK219.out)
                              have n1_ := Aside0.mk (below_drew1 HB.out)
                              clear BK219
                              clear HB
                              have BK219 := n0_
                              have HB := n1_
                              clear n0_ n1_
                              refine start_ (n := 15) (S := fun w' => w'.cell? ⟨gb219, 0, none⟩ = some (.int .i64 a1_0) ∧ w'.cell? ⟨gb219, 1, none⟩ = some (.bool a1_1) ∧ w'.cell? ⟨gb219, 2, none⟩ = some (.int .i64 a1_2) ∧ w'.cell? ⟨gb219, 3, none⟩ = some (.int .u64 a1_3) ∧ w'.cell? ⟨gb219, 4, none⟩ = some (.int .u64 a1_4) ∧ w'.cell? ⟨gb219, 5, none⟩ = some (.bool a1_5)) (ds := []) #[false, false, false, false, false, false, false, false, false, false, false, false, false, false, false] (by kernel_rfl) rfl rfl ⟨(blk_cell BK219.out 0).trans rfl, (blk_cell BK219.out 1).trans rfl, (blk_cell BK219.out 2).trans rfl, (blk_cell BK219.out 3).trans rfl, (blk_cell BK219.out 4).trans rfl, (blk_cell BK219.out 5).trans rfl⟩ (fun hHeld => ?_); refine with_tabW vernierref07_Cut.tab20 vernierref07_Cut.bits20 (fun HT_ HW_ => ?_)
                              generalize w47.drew = w48 at BK219 HB hHeld ⊢
                              refine pure_ (i := 0) (N := some 79) (v := ?_) (a' := ?_) #[true, false, false, false, false, false, false, false, false, false, false, false, false, false, false] rfl rfl (any_of HT_.out (by kernel_rfl)) (fun _ _ _ h => h) (Or.inl ⟨by rfl, ?_⟩) ?_ ?_
                              rotate_left
                              · intro w'
                                go_simp
                                with_reducible rfl
                              rotate_left
                              · simp only [Act.put, List.setIfInBounds_toArray, List.set_cons_zero, List.set_cons_succ, i64_w, i32_w]
                                rfl
                              refine pure_ (i := 1) (N := some 80) (v := ?_) (a' := ?_) #[true, true, false, false, false, false, false, false, false, false, false, false, false, false, false] rfl rfl (any_of HT_.out (by kernel_rfl)) (fun _ _ _ h => h) (Or.inl ⟨by rfl, ?_⟩) ?_ ?_
                              rotate_left
                              · intro w'
                                go_simp
                                with_reducible rfl
                              rotate_left
                              · simp only [Act.put, List.setIfInBounds_toArray, List.set_cons_zero, List.set_cons_succ, i64_w, i32_w]
                                rfl
                              refine pure_ (i := 2) (N := some 81) (v := ?_) (a' := ?_) #[true, true, true, false, false, false, false, false, false, false, false, false, false, false, false] rfl rfl (any_of HT_.out (by kernel_rfl)) (fun _ _ _ h => h) (Or.inl ⟨by rfl, ?_⟩) ?_ ?_
                              rotate_left
                              · intro w'
                                go_simp
                                with_reducible rfl
                              rotate_left
                              · simp only [Act.put, List.setIfInBounds_toArray, List.set_cons_zero, List.set_cons_succ, i64_w, i32_w]
                                rfl
                              refine pure_ (i := 3) (N := some 82) (v := ?_) (a' := ?_) #[true, true, true, true, false, false, false, false, false, false, false, false, false, false, false] rfl rfl (any_of HT_.out (by kernel_rfl)) (fun _ _ _ h => h) (Or.inl ⟨by rfl, ?_⟩) ?_ ?_
                              rotate_left
                              · intro w'
                                go_simp
                                with_reducible rfl
                              rotate_left
                              · simp only [Act.put, List.setIfInBounds_toArray, List.set_cons_zero, List.set_cons_succ, i64_w, i32_w]
                                rfl
                              refine pure_ (i := 5) (N := some 84) (v := ?_) (a' := ?_) #[true, true, true, true, false, true, false, false, false, false, false, false, false, false, false] rfl rfl (any_of HT_.out (by kernel_rfl)) (fun _ _ _ h => h) (Or.inl ⟨by rfl, ?_⟩) ?_ ?_
                              rotate_left
                              · intro w'
                                go_simp
                                with_reducible rfl
                              rotate_left
                              · simp only [Act.put, List.setIfInBounds_toArray, List.set_cons_zero, List.set_cons_succ, i64_w, i32_w]
                                rfl
                              refine pure_ (i := 6) (N := some 85) (v := ?_) (a' := ?_) #[true, true, true, true, false, true, true, false, false, false, false, false, false, false, false] rfl rfl (any_of HT_.out (by kernel_rfl)) (fun _ _ _ h => h) (Or.inl ⟨by rfl, ?_⟩) ?_ ?_
                              rotate_left
                              · intro w'
                                go_simp
                                with_reducible rfl
                              rotate_left
                              · simp only [Act.put, List.setIfInBounds_toArray, List.set_cons_zero, List.set_cons_succ, i64_w, i32_w]
                                rfl
                              refine pure_ (i := 7) (N := some 86) (v := ?_) (a' := ?_) #[true, true, true, true, false, true, true, true, false, false, false, false, false, false, false] rfl rfl (any_of HT_.out (by kernel_rfl)) (fun _ _ _ h => h) (Or.inl ⟨by rfl, ?_⟩) ?_ ?_
                              rotate_left
                              · intro w'
                                go_simp
                                with_reducible rfl
                              rotate_left
                              · simp only [Act.put, List.setIfInBounds_toArray, List.set_cons_zero, List.set_cons_succ, i64_w, i32_w]
                                rfl
                              refine pure_ (i := 8) (N := some 87) (v := ?_) (a' := ?_) #[true, true, true, true, false, true, true, true, true, false, false, false, false, false, false] rfl rfl (any_of HT_.out (by kernel_rfl)) (fun _ _ _ h => h) (Or.inl ⟨by rfl, ?_⟩) ?_ ?_
                              rotate_left
                              · intro w'
                                go_simp
                                with_reducible rfl
                              rotate_left
                              · simp only [Act.put, List.setIfInBounds_toArray, List.set_cons_zero, List.set_cons_succ, i64_w, i32_w]
                                rfl
                              refine pure_ (i := 9) (N := some 88) (v := ?_) (a' := ?_) #[true, true, true, true, false, true, true, true, true, true, false, false, false, false, false] rfl rfl (any_of HT_.out (by kernel_rfl)) (fun _ _ _ h => h) (Or.inl ⟨by rfl, ?_⟩) ?_ ?_
                              rotate_left
                              · intro w'
                                go_simp
                                with_reducible rfl
                              rotate_left
                              · simp only [Act.put, List.setIfInBounds_toArray, List.set_cons_zero, List.set_cons_succ, i64_w, i32_w]
                                rfl
                              refine take_ (i := 10) (N := some 89) (v := ?_) (a' := ?_) #[true, true, true, true, false, true, true, true, true, true, true, false, false, false, false] rfl rfl (take_ofW HT_.out HW_.out (by kernel_rfl)) (fun _ _ _ h => h) (Or.inl ⟨by rfl, ?_⟩) hHeld ?_ ?_
                              rotate_left
                              · rintro w' ⟨s0, s1, s2, s3, s4, s5⟩
                                go_simp
                                with_reducible rfl
                              rotate_left
                              · simp only [Act.put, List.setIfInBounds_toArray, List.set_cons_zero, List.set_cons_succ, i64_w, i32_w]
                                rfl
                              refine one_ (i := 4) (N := some 83) #[true, true, true, true, true, true, true, true, true, true, true, false, false, false, false] rfl rfl (one_of HT_.out (by kernel_rfl)) (by decide) (fun K hK => ?_)
                              refine goes_ Try.func35 (by kernel_rfl) rfl #[.string ((ji38).extract 0 ((ji39) : Int).toNat)] (by rfl) rfl rfl (by (try simp only [List.map_toArray, List.map_cons, List.map_nil]); first | done | (simp only [hji38, hji39]; rfl) | rfl | (simp only [List.length_drop, List.length_take]; rfl)) ?_
                              with_reducible refine (vernierref01_Number.calls kj27 ((ji38).extract 0 ((ji39) : Int).toNat) t228 _ A42.out).mono ?_
                              rintro e w' ⟨rfl, ⟨nd, rfl⟩⟩
                              refine ⟨_, rfl, ?_⟩
                              refine hK.out _ _ ⟨(blk_cell BK219.out 0).trans rfl, (blk_cell BK219.out 1).trans rfl, (blk_cell BK219.out 2).trans rfl, (blk_cell BK219.out 3).trans rfl, (blk_cell BK219.out 4).trans rfl, (blk_cell BK219.out 5).trans rfl⟩ (fun hHeld => ?_)
                              clear hK K
                              refine norm_ (a' := ?_) ?_ ?_
                              rotate_left
                              · show Act.put _ (some 83) _ = _
                                simp only [Act.put, List.setIfInBounds_toArray, List.set_cons_zero, List.set_cons_succ, i64_w, i32_w]
                                rfl
                              refine one_ (i := 11) (N := some 90) #[true, true, true, true, true, true, true, true, true, true, true, true, false, false, false] rfl rfl (one_of HT_.out (by kernel_rfl)) (by decide) (fun K hK => ?_)
                              refine goes_ Try.func36 (by kernel_rfl) rfl #[.string ((ji38).extract ((ji39) : Int).toNat (ji38).size), .bool a1_5] (by rfl) rfl rfl (by (try simp only [List.map_toArray, List.map_cons, List.map_nil]); first | done | (simp only [hji38, hji39]; rfl) | rfl | (simp only [List.length_drop, List.length_take]; rfl)) ?_
                              with_reducible refine (vernierref07_left.calls kj27 ((ji38).extract ((ji39) : Int).toNat (ji38).size) a1_5 t229 _ A45.out).mono ?_
                              rintro e w' ⟨rfl, ⟨nd, rfl⟩⟩
                              refine ⟨_, rfl, ?_⟩
                              refine hK.out _ _ ⟨(blk_cell BK219.out 0).trans rfl, (blk_cell BK219.out 1).trans rfl, (blk_cell BK219.out 2).trans rfl, (blk_cell BK219.out 3).trans rfl, (blk_cell BK219.out 4).trans rfl, (blk_cell BK219.out 5).trans rfl⟩ (fun hHeld => ?_)
                              clear hK K
                              refine norm_ (a' := ?_) ?_ ?_
                              rotate_left
                              · show Act.put _ (some 90) _ = _
                                simp only [Act.put, List.setIfInBounds_toArray, List.set_cons_zero, List.set_cons_succ, i64_w, i32_w]
                                rfl
                              refine pure_ (i := 12) (N := some 4) (v := ?_) (a' := ?_) #[true, true, true, true, true, true, true, true, true, true, true, true, true, false, false] rfl rfl (any_of HT_.out (by kernel_rfl)) (fun _ _ _ h => h) (Or.inl ⟨by rfl, ?_⟩) ?_ ?_
                              rotate_left
                              · intro w'
                                go_simp
                                with_reducible rfl
                              rotate_left
                              · simp only [Act.put, List.setIfInBounds_toArray, List.set_cons_zero, List.set_cons_succ, i64_w, i32_w]
                                rfl
                              refine pure_ (i := 13) (N := some 5) (v := ?_) (a' := ?_) #[true, true, true, true, true, true, true, true, true, true, true, true, true, true, false] rfl rfl (any_of HT_.out (by kernel_rfl)) (fun _ _ _ h => h) (Or.inl ⟨by rfl, ?_⟩) ?_ ?_
                              rotate_left
                              · intro w'
                                go_simp
                                with_reducible rfl
                              rotate_left
                              · simp only [Act.put, List.setIfInBounds_toArray, List.set_cons_zero, List.set_cons_succ, i64_w, i32_w]
                                rfl
                              refine pure_ (i := 14) (N := some 6) (v := ?_) (a' := ?_) #[true, true, true, true, true, true, true, true, true, true, true, true, true, true, true] rfl rfl (any_of HT_.out (by kernel_rfl)) (fun _ _ _ h => h) (Or.inl ⟨by rfl, ?_⟩) ?_ ?_
                              rotate_left
                              · intro w'
                                go_simp
                                with_reducible rfl
                              rotate_left
                              · simp only [Act.put, List.setIfInBounds_toArray, List.set_cons_zero, List.set_cons_succ, i64_w, i32_w]
                                rfl
                              refine done_ (done_of HT_.out (by kernel_rfl)) ?_
                              try go_wp2
                              go_ret3
                              exact ⟨by first | rfl | (simp [errW_none, errW_some] <;> rfl) | (simp only [← hji12, ← hji38, ← hji39]; first | rfl | (simp [errW_none, errW_some] <;> rfl)) | (simp [*, errW_none, errW_some] <;> rfl), by repeat (first | (with_reducible first | exact HB.out | apply below_alloc | apply pw_below_drewN | apply below_drew1 | refine below_set ?_ GE219.out) | exact HB.out)⟩
                            · rw [if_neg c41] at H
                              exact absurd H (by simp)
                          · rw [if_neg c40] at H
                            exact absurd H (by simp)
                        · rw [if_neg c37] at H
                          exact absurd H (by simp)
          · rw [if_neg c11] at H
            exact absurd H (by simp)
        · rw [if_neg c9] at H
          exact absurd H (by simp)
      · rw [if_neg c7] at H
        have c7b0 : (a1_0 == 1) = false := beq_eq_false_iff_ne.mpr c7
        have c7b1 : (a1_0 != 1) = true := bne_iff_ne.mpr c7
        by_cases c49 : a1_0 = 2
        · rw [if_pos c49] at H
          have c49b0 : (a1_0 == 2) = true := beq_iff_eq.mpr c49
          have c49b1 : (a1_0 != 2) = false := bne_eq_false_iff_eq.mpr c49
          clear c49
          replace H := Option.bind_eq_some_iff.mp H
          obtain ⟨t222, A500, H⟩ := H
          replace H : (some (t222, 0, 0)) = some (r1, r2, r3) := H
          have A50 := Aside0.mk A500
          clear A500
          simp only [Option.some.injEq, Prod.mk.injEq] at H
          obtain ⟨rfl, rfl, rfl⟩ := H
          go_enter Try.func12, Try.ntmps12
          go_wp2_with (first | ((with_reducible refine gate_dst (N := 3) rfl ?_); refine box_event ?hg (N := 3) ?hd (cs := #[.int .i64 a1_0, .bool a1_1, .int .i64 a1_2, .int .u64 a1_3, .int .u64 a1_4, .bool a1_5]) (t := 24) ?hr ?_; (case hd => rfl); (case hg => rfl); (case hr => first | (go_simp; done) | (go_simp; rfl)); intro gb219 hg w51 hbox hb; have n0_ := Aside0.mk (below_step (by repeat (first | (with_reducible first | exact HB.out | apply below_alloc | apply pw_below_drewN | apply below_drew1) | exact HB.out)) hb); have n1_ := Aside0.mk (hbox); have n2_ := Aside0.mk ((by rw [hg]; exact (below_size (by repeat (first | (with_reducible first | exact HB.out | apply below_alloc | apply pw_below_drewN | apply below_drew1) | exact HB.out))) : w.heap.size ≤ gb219)); have n3_ := Aside0.mk ((by rw [hg]; exact (below_size (by repeat (first | (with_reducible first | exact HB.out | apply below_alloc | apply pw_below_drewN | apply below_drew1) | exact HB.out))) : w.heap.size ≤ gb219)); clear HB; have HB := n0_; have BK219 := n1_; have GW219 := n2_; have GE219 := n3_; clear n0_ n1_ n2_ n3_; clear hb hbox hg) | ((with_reducible refine gate_callee (f := 17) rfl ?_); refine goesL_ (some 15) rfl rfl Try.func17 (by kernel_rfl) rfl #[.int .i64 a0] rfl (by (try simp only [List.map_toArray, List.map_cons, List.map_nil]); first | done | rfl | (simp only [List.length_drop, List.length_take]; rfl)) ?_; (with_reducible refine (vernierref05_Is.calls a0 true _ A3.out).mono ?_); rintro e w' ⟨rfl, ⟨nd, rfl⟩⟩; refine ⟨_, rfl, ?_⟩; have hcz52_0 : w51.cell? ⟨gb219, 0, none⟩ = some (.int .i64 a1_0) := (blk_cell BK219.out 0).trans rfl; have hcz52_1 : w51.cell? ⟨gb219, 1, none⟩ = some (.bool a1_1) := (blk_cell BK219.out 1).trans rfl; have hcz52_2 : w51.cell? ⟨gb219, 2, none⟩ = some (.int .i64 a1_2) := (blk_cell BK219.out 2).trans rfl; have hcz52_3 : w51.cell? ⟨gb219, 3, none⟩ = some (.int .u64 a1_3) := (blk_cell BK219.out 3).trans rfl; have hcz52_4 : w51.cell? ⟨gb219, 4, none⟩ = some (.int .u64 a1_4) := (blk_cell BK219.out 4).trans rfl; have hcz52_5 : w51.cell? ⟨gb219, 5, none⟩ = some (.bool a1_5) := (blk_cell BK219.out 5).trans rfl; have hfz52_0 := blk_frozen BK219.out 0; have hfz52_1 := blk_frozen BK219.out 1; have hfz52_2 := blk_frozen BK219.out 2; have hfz52_3 := blk_frozen BK219.out 3; have hfz52_4 := blk_frozen BK219.out 4; have hfz52_5 := blk_frozen BK219.out 5) | ((with_reducible refine gate_callee (f := 16) rfl ?_); refine goesL_ (some 17) rfl rfl Try.func16 (by kernel_rfl) rfl #[.agg #[.int .i64 a1_0, .bool a1_1, .int .i64 a1_2, .int .u64 a1_3, .int .u64 a1_4, .bool a1_5]] rfl (by (try simp only [List.map_toArray, List.map_cons, List.map_nil]); first | done | rfl | (simp only [List.length_drop, List.length_take]; rfl)) ?_; (with_reducible refine (vernierref07_Sound.calls a1_0 a1_1 a1_2 a1_3 a1_4 a1_5 true _ A4.out).mono ?_); rintro e w53 ⟨rfl, hb⟩; refine ⟨_, rfl, ?_⟩; have n0_ := Aside0.mk (blk_below (g := gb219) (o := .cells #[.int .i64 a1_0, .bool a1_1, .int .i64 a1_2, .int .u64 a1_3, .int .u64 a1_4, .bool a1_5] 24 (0, 0)) (by (with_reducible repeat (first | refine blk_drewN ?_ _ | refine blk_drew ?_ | refine blk_alloc ?_ _)); exact BK219.out) hb); have n1_ := Aside0.mk (below_step (by repeat (first | (with_reducible first | exact HB.out | apply below_alloc | apply pw_below_drewN | apply below_drew1 | refine below_set ?_ GE219.out) | exact HB.out)) hb); clear BK219; clear HB; have BK219 := n0_; have HB := n1_; clear n0_ n1_; (try clear hb); (try clear hb2); (try clear hk); (try clear hi); have hcz54_0 : w53.cell? ⟨gb219, 0, none⟩ = some (.int .i64 a1_0) := (blk_cell BK219.out 0).trans rfl; have hcz54_1 : w53.cell? ⟨gb219, 1, none⟩ = some (.bool a1_1) := (blk_cell BK219.out 1).trans rfl; have hcz54_2 : w53.cell? ⟨gb219, 2, none⟩ = some (.int .i64 a1_2) := (blk_cell BK219.out 2).trans rfl; have hcz54_3 : w53.cell? ⟨gb219, 3, none⟩ = some (.int .u64 a1_3) := (blk_cell BK219.out 3).trans rfl; have hcz54_4 : w53.cell? ⟨gb219, 4, none⟩ = some (.int .u64 a1_4) := (blk_cell BK219.out 4).trans rfl; have hcz54_5 : w53.cell? ⟨gb219, 5, none⟩ = some (.bool a1_5) := (blk_cell BK219.out 5).trans rfl; have hfz54_0 := blk_frozen BK219.out 0; have hfz54_1 := blk_frozen BK219.out 1; have hfz54_2 := blk_frozen BK219.out 2; have hfz54_3 := blk_frozen BK219.out 3; have hfz54_4 := blk_frozen BK219.out 4; have hfz54_5 := blk_frozen BK219.out 5) | ((with_reducible refine gate_callee (f := 26) rfl ?_); refine goesL_ (some 30) rfl rfl Try.func26 (by kernel_rfl) rfl #[.int .i64 (wrap64 (a0 - 1))] rfl (by (try simp only [List.map_toArray, List.map_cons, List.map_nil]); first | done | rfl | (simp only [List.length_drop, List.length_take]; rfl)) ?_; (with_reducible refine (vernierref05_Power.calls k (wrap64 (a0 - 1)) t222 _ A50.out).mono ?_); rintro e w' ⟨rfl, ⟨nd, rfl⟩⟩; refine ⟨_, rfl, ?_⟩))
          go_ret3
          exact ⟨by first | rfl | (simp [errW_none, errW_some] <;> rfl) | (simp [*, errW_none, errW_some] <;> rfl), by repeat (first | (with_reducible first | exact HB.out | apply below_alloc | apply pw_below_drewN | apply below_drew1 | refine below_set ?_ GE219.out) | exact HB.out)⟩
        · rw [if_neg c49] at H
          have c49b0 : (a1_0 == 2) = false := beq_eq_false_iff_ne.mpr c49
          have c49b1 : (a1_0 != 2) = true := bne_iff_ne.mpr c49
          simp only [Option.some.injEq, Prod.mk.injEq] at H
          obtain ⟨rfl, rfl, rfl⟩ := H
          go_enter Try.func12, Try.ntmps12
          go_wp2_with (first | ((with_reducible refine gate_dst (N := 3) rfl ?_); refine box_event ?hg (N := 3) ?hd (cs := #[.int .i64 a1_0, .bool a1_1, .int .i64 a1_2, .int .u64 a1_3, .int .u64 a1_4, .bool a1_5]) (t := 24) ?hr ?_; (case hd => rfl); (case hg => rfl); (case hr => first | (go_simp; done) | (go_simp; rfl)); intro gb219 hg w55 hbox hb; have n0_ := Aside0.mk (below_step (by repeat (first | (with_reducible first | exact HB.out | apply below_alloc | apply pw_below_drewN | apply below_drew1) | exact HB.out)) hb); have n1_ := Aside0.mk (hbox); have n2_ := Aside0.mk ((by rw [hg]; exact (below_size (by repeat (first | (with_reducible first | exact HB.out | apply below_alloc | apply pw_below_drewN | apply below_drew1) | exact HB.out))) : w.heap.size ≤ gb219)); have n3_ := Aside0.mk ((by rw [hg]; exact (below_size (by repeat (first | (with_reducible first | exact HB.out | apply below_alloc | apply pw_below_drewN | apply below_drew1) | exact HB.out))) : w.heap.size ≤ gb219)); clear HB; have HB := n0_; have BK219 := n1_; have GW219 := n2_; have GE219 := n3_; clear n0_ n1_ n2_ n3_; clear hb hbox hg) | ((with_reducible refine gate_callee (f := 17) rfl ?_); refine goesL_ (some 15) rfl rfl Try.func17 (by kernel_rfl) rfl #[.int .i64 a0] rfl (by (try simp only [List.map_toArray, List.map_cons, List.map_nil]); first | done | rfl | (simp only [List.length_drop, List.length_take]; rfl)) ?_; (with_reducible refine (vernierref05_Is.calls a0 true _ A3.out).mono ?_); rintro e w' ⟨rfl, ⟨nd, rfl⟩⟩; refine ⟨_, rfl, ?_⟩; have hcz56_0 : w55.cell? ⟨gb219, 0, none⟩ = some (.int .i64 a1_0) := (blk_cell BK219.out 0).trans rfl; have hcz56_1 : w55.cell? ⟨gb219, 1, none⟩ = some (.bool a1_1) := (blk_cell BK219.out 1).trans rfl; have hcz56_2 : w55.cell? ⟨gb219, 2, none⟩ = some (.int .i64 a1_2) := (blk_cell BK219.out 2).trans rfl; have hcz56_3 : w55.cell? ⟨gb219, 3, none⟩ = some (.int .u64 a1_3) := (blk_cell BK219.out 3).trans rfl; have hcz56_4 : w55.cell? ⟨gb219, 4, none⟩ = some (.int .u64 a1_4) := (blk_cell BK219.out 4).trans rfl; have hcz56_5 : w55.cell? ⟨gb219, 5, none⟩ = some (.bool a1_5) := (blk_cell BK219.out 5).trans rfl; have hfz56_0 := blk_frozen BK219.out 0; have hfz56_1 := blk_frozen BK219.out 1; have hfz56_2 := blk_frozen BK219.out 2; have hfz56_3 := blk_frozen BK219.out 3; have hfz56_4 := blk_frozen BK219.out 4; have hfz56_5 := blk_frozen BK219.out 5) | ((with_reducible refine gate_callee (f := 16) rfl ?_); refine goesL_ (some 17) rfl rfl Try.func16 (by kernel_rfl) rfl #[.agg #[.int .i64 a1_0, .bool a1_1, .int .i64 a1_2, .int .u64 a1_3, .int .u64 a1_4, .bool a1_5]] rfl (by (try simp only [List.map_toArray, List.map_cons, List.map_nil]); first | done | rfl | (simp only [List.length_drop, List.length_take]; rfl)) ?_; (with_reducible refine (vernierref07_Sound.calls a1_0 a1_1 a1_2 a1_3 a1_4 a1_5 true _ A4.out).mono ?_); rintro e w57 ⟨rfl, hb⟩; refine ⟨_, rfl, ?_⟩; have n0_ := Aside0.mk (blk_below (g := gb219) (o := .cells #[.int .i64 a1_0, .bool a1_1, .int .i64 a1_2, .int .u64 a1_3, .int .u64 a1_4, .bool a1_5] 24 (0, 0)) (by (with_reducible repeat (first | refine blk_drewN ?_ _ | refine blk_drew ?_ | refine blk_alloc ?_ _)); exact BK219.out) hb); have n1_ := Aside0.mk (below_step (by repeat (first | (with_reducible first | exact HB.out | apply below_alloc | apply pw_below_drewN | apply below_drew1 | refine below_set ?_ GE219.out) | exact HB.out)) hb); clear BK219; clear HB; have BK219 := n0_; have HB := n1_; clear n0_ n1_; (try clear hb); (try clear hb2); (try clear hk); (try clear hi); have hcz58_0 : w57.cell? ⟨gb219, 0, none⟩ = some (.int .i64 a1_0) := (blk_cell BK219.out 0).trans rfl; have hcz58_1 : w57.cell? ⟨gb219, 1, none⟩ = some (.bool a1_1) := (blk_cell BK219.out 1).trans rfl; have hcz58_2 : w57.cell? ⟨gb219, 2, none⟩ = some (.int .i64 a1_2) := (blk_cell BK219.out 2).trans rfl; have hcz58_3 : w57.cell? ⟨gb219, 3, none⟩ = some (.int .u64 a1_3) := (blk_cell BK219.out 3).trans rfl; have hcz58_4 : w57.cell? ⟨gb219, 4, none⟩ = some (.int .u64 a1_4) := (blk_cell BK219.out 4).trans rfl; have hcz58_5 : w57.cell? ⟨gb219, 5, none⟩ = some (.bool a1_5) := (blk_cell BK219.out 5).trans rfl; have hfz58_0 := blk_frozen BK219.out 0; have hfz58_1 := blk_frozen BK219.out 1; have hfz58_2 := blk_frozen BK219.out 2; have hfz58_3 := blk_frozen BK219.out 3; have hfz58_4 := blk_frozen BK219.out 4; have hfz58_5 := blk_frozen BK219.out 5))
          go_ret3
          exact ⟨by first | rfl | (simp [errW_none, errW_some] <;> rfl) | (simp [*, errW_none, errW_some] <;> rfl), by repeat (first | (with_reducible first | exact HB.out | apply below_alloc | apply pw_below_drewN | apply below_drew1 | refine below_set ?_ GE219.out) | exact HB.out)⟩
    · replace c6 := Bool.eq_false_iff.mpr c6
      subst c6
      have H1 : (some (0, 0, 1)) = some (r1, r2, r3) := by rw [if_neg (show ¬ (false = true) by decide)] at H; exact H
      clear H
      have H := H1
      clear H1
      simp only [Option.some.injEq, Prod.mk.injEq] at H
      obtain ⟨rfl, rfl, rfl⟩ := H
      go_enter Try.func12, Try.ntmps12
      go_wp2_with (first | ((with_reducible refine gate_dst (N := 3) rfl ?_); refine box_event ?hg (N := 3) ?hd (cs := #[.int .i64 a1_0, .bool a1_1, .int .i64 a1_2, .int .u64 a1_3, .int .u64 a1_4, .bool a1_5]) (t := 24) ?hr ?_; (case hd => rfl); (case hg => rfl); (case hr => first | (go_simp; done) | (go_simp; rfl)); intro gb219 hg w59 hbox hb; have n0_ := Aside0.mk (below_step (by repeat (first | (with_reducible first | exact HB.out | apply below_alloc | apply pw_below_drewN | apply below_drew1) | exact HB.out)) hb); have n1_ := Aside0.mk (hbox); have n2_ := Aside0.mk ((by rw [hg]; exact (below_size (by repeat (first | (with_reducible first | exact HB.out | apply below_alloc | apply pw_below_drewN | apply below_drew1) | exact HB.out))) : w.heap.size ≤ gb219)); have n3_ := Aside0.mk ((by rw [hg]; exact (below_size (by repeat (first | (with_reducible first | exact HB.out | apply below_alloc | apply pw_below_drewN | apply below_drew1) | exact HB.out))) : w.heap.size ≤ gb219)); clear HB; have HB := n0_; have BK219 := n1_; have GW219 := n2_; have GE219 := n3_; clear n0_ n1_ n2_ n3_; clear hb hbox hg) | ((with_reducible refine gate_callee (f := 17) rfl ?_); refine goesL_ (some 15) rfl rfl Try.func17 (by kernel_rfl) rfl #[.int .i64 a0] rfl (by (try simp only [List.map_toArray, List.map_cons, List.map_nil]); first | done | rfl | (simp only [List.length_drop, List.length_take]; rfl)) ?_; (with_reducible refine (vernierref05_Is.calls a0 true _ A3.out).mono ?_); rintro e w' ⟨rfl, ⟨nd, rfl⟩⟩; refine ⟨_, rfl, ?_⟩; have hcz60_0 : w59.cell? ⟨gb219, 0, none⟩ = some (.int .i64 a1_0) := (blk_cell BK219.out 0).trans rfl; have hcz60_1 : w59.cell? ⟨gb219, 1, none⟩ = some (.bool a1_1) := (blk_cell BK219.out 1).trans rfl; have hcz60_2 : w59.cell? ⟨gb219, 2, none⟩ = some (.int .i64 a1_2) := (blk_cell BK219.out 2).trans rfl; have hcz60_3 : w59.cell? ⟨gb219, 3, none⟩ = some (.int .u64 a1_3) := (blk_cell BK219.out 3).trans rfl; have hcz60_4 : w59.cell? ⟨gb219, 4, none⟩ = some (.int .u64 a1_4) := (blk_cell BK219.out 4).trans rfl; have hcz60_5 : w59.cell? ⟨gb219, 5, none⟩ = some (.bool a1_5) := (blk_cell BK219.out 5).trans rfl; have hfz60_0 := blk_frozen BK219.out 0; have hfz60_1 := blk_frozen BK219.out 1; have hfz60_2 := blk_frozen BK219.out 2; have hfz60_3 := blk_frozen BK219.out 3; have hfz60_4 := blk_frozen BK219.out 4; have hfz60_5 := blk_frozen BK219.out 5) | ((with_reducible refine gate_callee (f := 16) rfl ?_); refine goesL_ (some 17) rfl rfl Try.func16 (by kernel_rfl) rfl #[.agg #[.int .i64 a1_0, .bool a1_1, .int .i64 a1_2, .int .u64 a1_3, .int .u64 a1_4, .bool a1_5]] rfl (by (try simp only [List.map_toArray, List.map_cons, List.map_nil]); first | done | rfl | (simp only [List.length_drop, List.length_take]; rfl)) ?_; (with_reducible refine (vernierref07_Sound.calls a1_0 a1_1 a1_2 a1_3 a1_4 a1_5 false _ A4.out).mono ?_); rintro e w61 ⟨rfl, hb⟩; refine ⟨_, rfl, ?_⟩; have n0_ := Aside0.mk (blk_below (g := gb219) (o := .cells #[.int .i64 a1_0, .bool a1_1, .int .i64 a1_2, .int .u64 a1_3, .int .u64 a1_4, .bool a1_5] 24 (0, 0)) (by (with_reducible repeat (first | refine blk_drewN ?_ _ | refine blk_drew ?_ | refine blk_alloc ?_ _)); exact BK219.out) hb); have n1_ := Aside0.mk (below_step (by repeat (first | (with_reducible first | exact HB.out | apply below_alloc | apply pw_below_drewN | apply below_drew1 | refine below_set ?_ GE219.out) | exact HB.out)) hb); clear BK219; clear HB; have BK219 := n0_; have HB := n1_; clear n0_ n1_; (try clear hb); (try clear hb2); (try clear hk); (try clear hi)))
      go_ret3
      exact ⟨by first | rfl | (simp [errW_none, errW_some] <;> rfl) | (simp [*, errW_none, errW_some] <;> rfl), by repeat (first | (with_reducible first | exact HB.out | apply below_alloc | apply pw_below_drewN | apply below_drew1 | refine below_set ?_ GE219.out) | exact HB.out)⟩
  · replace c5 := Bool.eq_false_iff.mpr c5
    subst c5
    have H1 : (some (0, 0, 2)) = some (r1, r2, r3) := by rw [if_neg (show ¬ (false = true) by decide)] at H; exact H
    clear H
    have H := H1
    clear H1
    simp only [Option.some.injEq, Prod.mk.injEq] at H
    obtain ⟨rfl, rfl, rfl⟩ := H
    go_enter Try.func12, Try.ntmps12
    go_wp2_with (first | ((with_reducible refine gate_dst (N := 3) rfl ?_); refine box_event ?hg (N := 3) ?hd (cs := #[.int .i64 a1_0, .bool a1_1, .int .i64 a1_2, .int .u64 a1_3, .int .u64 a1_4, .bool a1_5]) (t := 24) ?hr ?_; (case hd => rfl); (case hg => rfl); (case hr => first | (go_simp; done) | (go_simp; rfl)); intro gb219 hg w62 hbox hb; have n0_ := Aside0.mk (below_step (by repeat (first | (with_reducible first | exact HB.out | apply below_alloc | apply pw_below_drewN | apply below_drew1) | exact HB.out)) hb); have n1_ := Aside0.mk (hbox); have n2_ := Aside0.mk ((by rw [hg]; exact (below_size (by repeat (first | (with_reducible first | exact HB.out | apply below_alloc | apply pw_below_drewN | apply below_drew1) | exact HB.out))) : w.heap.size ≤ gb219)); have n3_ := Aside0.mk ((by rw [hg]; exact (below_size (by repeat (first | (with_reducible first | exact HB.out | apply below_alloc | apply pw_below_drewN | apply below_drew1) | exact HB.out))) : w.heap.size ≤ gb219)); clear HB; have HB := n0_; have BK219 := n1_; have GW219 := n2_; have GE219 := n3_; clear n0_ n1_ n2_ n3_; clear hb hbox hg) | ((with_reducible refine gate_callee (f := 17) rfl ?_); refine goesL_ (some 15) rfl rfl Try.func17 (by kernel_rfl) rfl #[.int .i64 a0] rfl (by (try simp only [List.map_toArray, List.map_cons, List.map_nil]); first | done | rfl | (simp only [List.length_drop, List.length_take]; rfl)) ?_; (with_reducible refine (vernierref05_Is.calls a0 false _ A3.out).mono ?_); rintro e w' ⟨rfl, ⟨nd, rfl⟩⟩; refine ⟨_, rfl, ?_⟩; have hcz63_0 : w62.cell? ⟨gb219, 0, none⟩ = some (.int .i64 a1_0) := (blk_cell BK219.out 0).trans rfl; have hcz63_1 : w62.cell? ⟨gb219, 1, none⟩ = some (.bool a1_1) := (blk_cell BK219.out 1).trans rfl; have hcz63_2 : w62.cell? ⟨gb219, 2, none⟩ = some (.int .i64 a1_2) := (blk_cell BK219.out 2).trans rfl; have hcz63_3 : w62.cell? ⟨gb219, 3, none⟩ = some (.int .u64 a1_3) := (blk_cell BK219.out 3).trans rfl; have hcz63_4 : w62.cell? ⟨gb219, 4, none⟩ = some (.int .u64 a1_4) := (blk_cell BK219.out 4).trans rfl; have hcz63_5 : w62.cell? ⟨gb219, 5, none⟩ = some (.bool a1_5) := (blk_cell BK219.out 5).trans rfl; have hfz63_0 := blk_frozen BK219.out 0; have hfz63_1 := blk_frozen BK219.out 1; have hfz63_2 := blk_frozen BK219.out 2; have hfz63_3 := blk_frozen BK219.out 3; have hfz63_4 := blk_frozen BK219.out 4; have hfz63_5 := blk_frozen BK219.out 5) | ((with_reducible refine gate_callee (f := 16) rfl ?_); refine goesL_ (some 17) rfl rfl Try.func16 (by kernel_rfl) rfl #[.agg #[.int .i64 a1_0, .bool a1_1, .int .i64 a1_2, .int .u64 a1_3, .int .u64 a1_4, .bool a1_5]] rfl (by (try simp only [List.map_toArray, List.map_cons, List.map_nil]); first | done | rfl | (simp only [List.length_drop, List.length_take]; rfl)) ?_; (with_reducible refine (vernierref07_Sound.calls a1_0 a1_1 a1_2 a1_3 a1_4 a1_5 t221 _ A4.out).mono ?_); rintro e w64 ⟨rfl, hb⟩; refine ⟨_, rfl, ?_⟩; have n0_ := Aside0.mk (blk_below (g := gb219) (o := .cells #[.int .i64 a1_0, .bool a1_1, .int .i64 a1_2, .int .u64 a1_3, .int .u64 a1_4, .bool a1_5] 24 (0, 0)) (by (with_reducible repeat (first | refine blk_drewN ?_ _ | refine blk_drew ?_ | refine blk_alloc ?_ _)); exact BK219.out) hb); have n1_ := Aside0.mk (below_step (by repeat (first | (with_reducible first | exact HB.out | apply below_alloc | apply pw_below_drewN | apply below_drew1 | refine below_set ?_ GE219.out) | exact HB.out)) hb); clear BK219; clear HB; have BK219 := n0_; have HB := n1_; clear n0_ n1_; (try clear hb); (try clear hb2); (try clear hk); (try clear hi)))
    go_ret3
    exact ⟨by first | rfl | (simp [errW_none, errW_some] <;> rfl) | (simp [*, errW_none, errW_some] <;> rfl), by repeat (first | (with_reducible first | exact HB.out | apply below_alloc | apply pw_below_drewN | apply below_drew1 | refine below_set ?_ GE219.out) | exact HB.out)⟩
end Go.Proofs.Ytfegofnplcmacaa.PAll
namespace Go.Proofs.Ytfegofnplcmacaa.PAll
open Go.RowKit Go.Proofs.YtfegofnplcmacaaW.PrintWords Go.Proofs.YtfegofnplcmacaaW.PrintLast Go.Proofs.YtfegofnplcmacaaW.PrintMore
attribute [local go_sem] max2_int min2_int max_two min_two max_three min_three max_four min_four
set_option linter.unusedVariables false
set_option linter.unusedSimpArgs false
def vernierref05_Fold.f (k : Nat) (a0 : Int) (a1 : Int) : Option (Int × Int) := (vernierref05_Is.f a0).bind fun t242 => (if t242 = true then ((vernierref01_Text.f k a1 a0).bind fun t243 => ((vernierref01_Number.f k t243).bind fun t244 => (some (t244, 0)))) else (some (0, 2)))
theorem vernierref05_Fold.mono : ∀ a0 a1 k, LeO (vernierref05_Fold.f k a0 a1) (vernierref05_Fold.f (k + 1) a0 a1) := by
  intro a0 a1 k
  unfold vernierref05_Fold.f
  repeat' first
      | (with_reducible exact vernierref01_Number.mono _ _)
      | (with_reducible exact vernierref01_Text.mono _ _ _)
      | (with_reducible exact LeO.refl _)
      | (with_reducible exact LeO.none _)
      | (with_reducible refine LeO.ite ?_ ?_)
      | (with_reducible refine LeO.bind ?_ (fun _ => ?_))
      | exact vernierref01_Number.mono _ _
      | exact vernierref01_Text.mono _ _ _
      | exact LeO.none _
      | refine LeO.ite ?_ ?_
      | refine LeO.bind ?_ (fun _ => ?_)
set_option maxHeartbeats 8000000 in
set_option maxRecDepth 100000 in
theorem vernierref05_Fold.calls (k : Nat) (a0 : Int) (a1 : Int) (r1 : Int) (r2 : Int) (w : World) (h : vernierref05_Fold.f k a0 a1 = some (r1, r2)) :
    Calls Try.prog 51 #[.int .i64 a0, .int .u64 a1] w fun e w' => e = .returned (.tuple #[.int .u64 r1, .int .i64 r2]) ∧ Below w.heap.size w w' := by
  have HB := Aside0.mk (Below.refl w.heap.size w)
  have H : ((vernierref05_Is.f a0).bind fun t242 => (if t242 = true then ((vernierref01_Text.f k a1 a0).bind fun t243 => ((vernierref01_Number.f k t243).bind fun t244 => (some (t244, 0)))) else (some (0, 2)))) = some (r1, r2) := h
  clear h
  replace H := Option.bind_eq_some_iff.mp H
  obtain ⟨t242, A30, H⟩ := H
  replace H : (if t242 = true then ((vernierref01_Text.f k a1 a0).bind fun t243 => ((vernierref01_Number.f k t243).bind fun t244 => (some (t244, 0)))) else (some (0, 2))) = some (r1, r2) := H
  have A3 := Aside0.mk A30
  clear A30
  by_cases c4 : t242 = true
  · subst c4
    have H1 : ((vernierref01_Text.f k a1 a0).bind fun t243 => ((vernierref01_Number.f k t243).bind fun t244 => (some (t244, 0)))) = some (r1, r2) := by rw [if_pos rfl] at H; exact H
    clear H
    have H := H1
    clear H1
    replace H := Option.bind_eq_some_iff.mp H
    obtain ⟨t243, A50, H⟩ := H
    replace H : ((vernierref01_Number.f k t243).bind fun t244 => (some (t244, 0))) = some (r1, r2) := H
    have A5 := Aside0.mk A50
    clear A50
    replace H := Option.bind_eq_some_iff.mp H
    obtain ⟨t244, A60, H⟩ := H
    replace H : (some (t244, 0)) = some (r1, r2) := H
    have A6 := Aside0.mk A60
    clear A60
    simp only [Option.some.injEq, Prod.mk.injEq] at H
    obtain ⟨rfl, rfl⟩ := H
    go_enter Try.func51, Try.ntmps51
    go_wp2_with (first | ((with_reducible refine gate_callee (f := 17) rfl ?_); refine goesL_ (some 8) rfl rfl Try.func17 (by kernel_rfl) rfl #[.int .i64 a0] rfl (by (try simp only [List.map_toArray, List.map_cons, List.map_nil]); first | done | rfl | (simp only [List.length_drop, List.length_take]; rfl)) ?_; (with_reducible refine (vernierref05_Is.calls a0 true _ A3.out).mono ?_); rintro e w' ⟨rfl, ⟨nd, rfl⟩⟩; refine ⟨_, rfl, ?_⟩) | ((with_reducible refine gate_callee (f := 32) rfl ?_); refine goesL_ (some 13) rfl rfl Try.func32 (by kernel_rfl) rfl #[.int .u64 a1, .int .i64 a0] rfl (by (try simp only [List.map_toArray, List.map_cons, List.map_nil]); first | done | rfl | (simp only [List.length_drop, List.length_take]; rfl)) ?_; (with_reducible refine (vernierref01_Text.calls k a1 a0 t243 _ A5.out).mono ?_); rintro e w7 ⟨rfl, hb⟩; refine ⟨_, rfl, ?_⟩; have n0_ := Aside0.mk (below_step (by repeat (first | (with_reducible first | exact HB.out | apply below_alloc | apply pw_below_drewN | apply below_drew1) | exact HB.out)) hb); clear HB; have HB := n0_; clear n0_; (try clear hb); (try clear hb2); (try clear hk); (try clear hi)) | ((with_reducible refine gate_callee (f := 35) rfl ?_); refine goesL_ (some 14) rfl rfl Try.func35 (by kernel_rfl) rfl #[.string t243] rfl (by (try simp only [List.map_toArray, List.map_cons, List.map_nil]); first | done | rfl | (simp only [List.length_drop, List.length_take]; rfl)) ?_; (with_reducible refine (vernierref01_Number.calls k t243 t244 _ A6.out).mono ?_); rintro e w' ⟨rfl, ⟨nd, rfl⟩⟩; refine ⟨_, rfl, ?_⟩))
    go_ret2
    exact ⟨by first | rfl | (simp [errW_none, errW_some] <;> rfl) | (simp [*, errW_none, errW_some] <;> rfl), by repeat (first | (with_reducible first | exact HB.out | apply below_alloc | apply pw_below_drewN | apply below_drew1) | exact HB.out)⟩
  · replace c4 := Bool.eq_false_iff.mpr c4
    subst c4
    have H1 : (some (0, 2)) = some (r1, r2) := by rw [if_neg (show ¬ (false = true) by decide)] at H; exact H
    clear H
    have H := H1
    clear H1
    simp only [Option.some.injEq, Prod.mk.injEq] at H
    obtain ⟨rfl, rfl⟩ := H
    go_enter Try.func51, Try.ntmps51
    go_wp2_with (first | ((with_reducible refine gate_callee (f := 17) rfl ?_); refine goesL_ (some 8) rfl rfl Try.func17 (by kernel_rfl) rfl #[.int .i64 a0] rfl (by (try simp only [List.map_toArray, List.map_cons, List.map_nil]); first | done | rfl | (simp only [List.length_drop, List.length_take]; rfl)) ?_; (with_reducible refine (vernierref05_Is.calls a0 false _ A3.out).mono ?_); rintro e w' ⟨rfl, ⟨nd, rfl⟩⟩; refine ⟨_, rfl, ?_⟩))
    go_ret2
    exact ⟨by first | rfl | (simp [errW_none, errW_some] <;> rfl) | (simp [*, errW_none, errW_some] <;> rfl), by repeat (first | (with_reducible first | exact HB.out | apply below_alloc | apply pw_below_drewN | apply below_drew1) | exact HB.out)⟩
end Go.Proofs.Ytfegofnplcmacaa.PAll
namespace Go.Proofs.Ytfegofnplcmacaa.PAll
open Go.RowKit Go.Proofs.YtfegofnplcmacaaW.PrintWords Go.Proofs.YtfegofnplcmacaaW.PrintLast Go.Proofs.YtfegofnplcmacaaW.PrintMore
attribute [local go_sem] max2_int min2_int max_two min_two max_three min_three max_four min_four
set_option linter.unusedVariables false
set_option linter.unusedSimpArgs false
def vernierref06_Fold.f (k : Nat) (a0 : Int) (a1 : Int) : Option (Int) := (vernierref05_Fold.f k a0 a1).bind fun bt245 => (some bt245.1)
theorem vernierref06_Fold.mono : ∀ a0 a1 k, LeO (vernierref06_Fold.f k a0 a1) (vernierref06_Fold.f (k + 1) a0 a1) := by
  intro a0 a1 k
  unfold vernierref06_Fold.f
  repeat' first
      | (with_reducible exact vernierref05_Fold.mono _ _ _)
      | (with_reducible exact LeO.refl _)
      | (with_reducible exact LeO.none _)
      | (with_reducible refine LeO.ite ?_ ?_)
      | (with_reducible refine LeO.bind ?_ (fun _ => ?_))
      | exact vernierref05_Fold.mono _ _ _
      | exact LeO.none _
      | refine LeO.ite ?_ ?_
      | refine LeO.bind ?_ (fun _ => ?_)
set_option maxHeartbeats 8000000 in
set_option maxRecDepth 100000 in
theorem vernierref06_Fold.calls (k : Nat) (a0 : Int) (a1 : Int) (r : Int) (w : World) (h : vernierref06_Fold.f k a0 a1 = some r) :
    Calls Try.prog 25 #[.int .i64 a0, .int .u64 a1] w fun e w' => e = .returned (.int .u64 r) ∧ Below w.heap.size w w' := by
  have HB := Aside0.mk (Below.refl w.heap.size w)
  have H : ((vernierref05_Fold.f k a0 a1).bind fun bt245 => (some bt245.1)) = some r := h
  clear h
  replace H := Option.bind_eq_some_iff.mp H
  obtain ⟨⟨t245, t246⟩, A30, H⟩ := H
  replace H : (some t245) = some r := H
  have A3 := Aside0.mk A30
  clear A30
  obtain rfl := Option.some.inj H
  go_enter Try.func25, Try.ntmps25
  go_wp2_with (first | ((with_reducible refine gate_callee (f := 51) rfl ?_); refine goesL_ (some 10) rfl rfl Try.func51 (by kernel_rfl) rfl #[.int .i64 a0, .int .u64 a1] rfl (by (try simp only [List.map_toArray, List.map_cons, List.map_nil]); first | done | rfl | (simp only [List.length_drop, List.length_take]; rfl)) ?_; (with_reducible refine (vernierref05_Fold.calls k a0 a1 t245 t246 _ A3.out).mono ?_); rintro e w4 ⟨rfl, hb⟩; refine ⟨_, rfl, ?_⟩; have n0_ := Aside0.mk (below_step (by repeat (first | (with_reducible first | exact HB.out | apply below_alloc | apply pw_below_drewN | apply below_drew1) | exact HB.out)) hb); clear HB; have HB := n0_; clear n0_; (try clear hb); (try clear hb2); (try clear hk); (try clear hi)))
  go_ret
  exact ⟨by first | rfl | (simp [errW_none, errW_some] <;> rfl) | (simp [*, errW_none, errW_some] <;> rfl), by repeat (first | (with_reducible first | exact HB.out | apply below_alloc | apply pw_below_drewN | apply below_drew1) | exact HB.out)⟩
end Go.Proofs.Ytfegofnplcmacaa.PAll
namespace Go.Proofs.Ytfegofnplcmacaa.PAll
open Go.RowKit Go.Proofs.YtfegofnplcmacaaW.PrintWords Go.Proofs.YtfegofnplcmacaaW.PrintLast Go.Proofs.YtfegofnplcmacaaW.PrintMore
attribute [local go_sem] max2_int min2_int max_two min_two max_three min_three max_four min_four
set_option linter.unusedVariables false
set_option linter.unusedSimpArgs false
def vernierref06_Neg.f (k : Nat) (a0 : Int) (a1 : Int) : Option (Int) := (vernierref06_Fold.f k a0 (IntKind.u64.wrap (-a1))).bind fun t247 => (some t247)
theorem vernierref06_Neg.mono : ∀ a0 a1 k, LeO (vernierref06_Neg.f k a0 a1) (vernierref06_Neg.f (k + 1) a0 a1) := by
  intro a0 a1 k
  unfold vernierref06_Neg.f
  repeat' first
      | (with_reducible exact vernierref06_Fold.mono _ _ _)
      | (with_reducible exact LeO.refl _)
      | (with_reducible exact LeO.none _)
      | (with_reducible refine LeO.ite ?_ ?_)
      | (with_reducible refine LeO.bind ?_ (fun _ => ?_))
      | exact vernierref06_Fold.mono _ _ _
      | exact LeO.none _
      | refine LeO.ite ?_ ?_
      | refine LeO.bind ?_ (fun _ => ?_)
set_option maxHeartbeats 8000000 in
set_option maxRecDepth 100000 in
theorem vernierref06_Neg.calls (k : Nat) (a0 : Int) (a1 : Int) (r : Int) (w : World) (h : vernierref06_Neg.f k a0 a1 = some r) :
    Calls Try.prog 39 #[.int .i64 a0, .int .u64 a1] w fun e w' => e = .returned (.int .u64 r) ∧ Below w.heap.size w w' := by
  have HB := Aside0.mk (Below.refl w.heap.size w)
  have H : ((vernierref06_Fold.f k a0 (IntKind.u64.wrap (-a1))).bind fun t247 => (some t247)) = some r := h
  clear h
  replace H := Option.bind_eq_some_iff.mp H
  obtain ⟨t247, A30, H⟩ := H
  replace H : (some t247) = some r := H
  have A3 := Aside0.mk A30
  clear A30
  obtain rfl := Option.some.inj H
  go_enter Try.func39, Try.ntmps39
  go_wp2_with (first | ((with_reducible refine gate_callee (f := 25) rfl ?_); refine goesL_ (some 8) rfl rfl Try.func25 (by kernel_rfl) rfl #[.int .i64 a0, .int .u64 (IntKind.u64.wrap (-a1))] rfl (by (try simp only [List.map_toArray, List.map_cons, List.map_nil]); first | done | rfl | (simp only [List.length_drop, List.length_take]; rfl)) ?_; (with_reducible refine (vernierref06_Fold.calls k a0 (IntKind.u64.wrap (-a1)) t247 _ A3.out).mono ?_); rintro e w4 ⟨rfl, hb⟩; refine ⟨_, rfl, ?_⟩; have n0_ := Aside0.mk (below_step (by repeat (first | (with_reducible first | exact HB.out | apply below_alloc | apply pw_below_drewN | apply below_drew1) | exact HB.out)) hb); clear HB; have HB := n0_; clear n0_; (try clear hb); (try clear hb2); (try clear hk); (try clear hi)))
  go_ret
  exact ⟨by first | rfl | (simp [errW_none, errW_some] <;> rfl) | (simp [*, errW_none, errW_some] <;> rfl), by repeat (first | (with_reducible first | exact HB.out | apply below_alloc | apply pw_below_drewN | apply below_drew1) | exact HB.out)⟩
end Go.Proofs.Ytfegofnplcmacaa.PAll
namespace Go.Proofs.Ytfegofnplcmacaa.PAll
open Go.RowKit Go.Proofs.YtfegofnplcmacaaW.PrintWords Go.Proofs.YtfegofnplcmacaaW.PrintLast Go.Proofs.YtfegofnplcmacaaW.PrintMore
attribute [local go_sem] max2_int min2_int max_two min_two max_three min_three max_four min_four
set_option linter.unusedVariables false
set_option linter.unusedSimpArgs false
def vernierref07_Rounds.j0 : Nat → Int → Int → Bool → Int → Bool → Int → Int → Int → Bool → Option (Int × Int)
  | 0, _, _, _, _, _, _, _, _, _ => none
  | k + 1, x0, x6, x29, x249000, x249001, x249002, x249003, x249004, x249005 => if x29 = true then (if x249001 = true then ((vernierref06_Neg.f k x0 (IntKind.u64.wrap (x6 + 1))).bind fun t252 => (some (t252, 0))) else (some (IntKind.u64.wrap (x6 + 1), 0))) else (if x249001 = true then ((vernierref06_Neg.f k x0 x6).bind fun t253 => (some (t253, 0))) else (some (x6, 0)))
def vernierref07_Rounds.f (k : Nat) (a0 : Int) (a1_0 : Int) (a1_1 : Bool) (a1_2 : Int) (a1_3 : Int) (a1_4 : Int) (a1_5 : Bool) : Option (Int × Int) := (vernierref07_Cut.f k a0 a1_0 a1_1 a1_2 a1_3 a1_4 a1_5).bind fun bt249 => (if bt249.2.2 = 0 then (if bt249.2.1 = 3 then (vernierref07_Rounds.j0 k a0 bt249.1 true a1_0 a1_1 a1_2 a1_3 a1_4 a1_5) else (if bt249.2.1 = 2 then (vernierref07_Rounds.j0 k a0 bt249.1 ((Int.tmod bt249.1 2) == 1) a1_0 a1_1 a1_2 a1_3 a1_4 a1_5) else (vernierref07_Rounds.j0 k a0 bt249.1 false a1_0 a1_1 a1_2 a1_3 a1_4 a1_5))) else (some (0, bt249.2.2)))
theorem vernierref07_Rounds.mono_l : ∀ k, (∀ y0 y1 y2 y3 y4 y5 y6 y7 y8, LeO (vernierref07_Rounds.j0 k y0 y1 y2 y3 y4 y5 y6 y7 y8) (vernierref07_Rounds.j0 (k + 1) y0 y1 y2 y3 y4 y5 y6 y7 y8))
  | 0 => fun _ _ _ _ _ _ _ _ _ r h => by simp [vernierref07_Rounds.j0] at h
  | k + 1 => by
    have ih0 := vernierref07_Rounds.mono_l k
    · intro y0 y1 y2 y3 y4 y5 y6 y7 y8
      unfold vernierref07_Rounds.j0
      repeat' first
      | (with_reducible exact ih0 _ _ _ _ _ _ _ _ _)
      | (with_reducible exact vernierref06_Neg.mono _ _ _)
      | (with_reducible exact vernierref07_Cut.mono _ _ _ _ _ _ _ _)
      | (with_reducible exact LeO.refl _)
      | (with_reducible exact LeO.none _)
      | (with_reducible refine LeO.ite ?_ ?_)
      | (with_reducible refine LeO.bind ?_ (fun _ => ?_))
      | exact ih0 _ _ _ _ _ _ _ _ _
      | exact vernierref06_Neg.mono _ _ _
      | exact vernierref07_Cut.mono _ _ _ _ _ _ _ _
      | exact LeO.none _
      | refine LeO.ite ?_ ?_
      | refine LeO.bind ?_ (fun _ => ?_)
theorem vernierref07_Rounds.mono : ∀ a0 a1 a2 a3 a4 a5 a6 k, LeO (vernierref07_Rounds.f k a0 a1 a2 a3 a4 a5 a6) (vernierref07_Rounds.f (k + 1) a0 a1 a2 a3 a4 a5 a6) := by
  intro a0 a1 a2 a3 a4 a5 a6 k
  have ih0 := vernierref07_Rounds.mono_l k
  unfold vernierref07_Rounds.f
  repeat' first
      | (with_reducible exact ih0 _ _ _ _ _ _ _ _ _)
      | (with_reducible exact vernierref06_Neg.mono _ _ _)
      | (with_reducible exact vernierref07_Cut.mono _ _ _ _ _ _ _ _)
      | (with_reducible exact LeO.refl _)
      | (with_reducible exact LeO.none _)
      | (with_reducible refine LeO.ite ?_ ?_)
      | (with_reducible refine LeO.bind ?_ (fun _ => ?_))
      | exact ih0 _ _ _ _ _ _ _ _ _
      | exact vernierref06_Neg.mono _ _ _
      | exact vernierref07_Cut.mono _ _ _ _ _ _ _ _
      | exact LeO.none _
      | refine LeO.ite ?_ ?_
      | refine LeO.bind ?_ (fun _ => ?_)
set_option maxHeartbeats 8000000 in
set_option maxRecDepth 100000 in
theorem vernierref07_Rounds.calls (k : Nat) (a0 : Int) (a1_0 : Int) (a1_1 : Bool) (a1_2 : Int) (a1_3 : Int) (a1_4 : Int) (a1_5 : Bool) (r1 : Int) (r2 : Int) (w : World) (h : vernierref07_Rounds.f k a0 a1_0 a1_1 a1_2 a1_3 a1_4 a1_5 = some (r1, r2)) :
    Calls Try.prog 15 #[.int .i64 a0, .agg #[.int .i64 a1_0, .bool a1_1, .int .i64 a1_2, .int .u64 a1_3, .int .u64 a1_4, .bool a1_5]] w fun e w' => e = .returned (.tuple #[.int .u64 r1, .int .i64 r2]) ∧ Below w.heap.size w w' := by
  have hu24 := Try.underlying24
  have HB := Aside0.mk (Below.refl w.heap.size w)
  have H : ((vernierref07_Cut.f k a0 a1_0 a1_1 a1_2 a1_3 a1_4 a1_5).bind fun bt249 => (if bt249.2.2 = 0 then (if bt249.2.1 = 3 then (vernierref07_Rounds.j0 k a0 bt249.1 true a1_0 a1_1 a1_2 a1_3 a1_4 a1_5) else (if bt249.2.1 = 2 then (vernierref07_Rounds.j0 k a0 bt249.1 ((Int.tmod bt249.1 2) == 1) a1_0 a1_1 a1_2 a1_3 a1_4 a1_5) else (vernierref07_Rounds.j0 k a0 bt249.1 false a1_0 a1_1 a1_2 a1_3 a1_4 a1_5))) else (some (0, bt249.2.2)))) = some (r1, r2) := h
  clear h
  replace H := Option.bind_eq_some_iff.mp H
  obtain ⟨⟨t249, t250, t251⟩, A30, H⟩ := H
  replace H : (if t251 = 0 then (if t250 = 3 then (vernierref07_Rounds.j0 k a0 t249 true a1_0 a1_1 a1_2 a1_3 a1_4 a1_5) else (if t250 = 2 then (vernierref07_Rounds.j0 k a0 t249 ((Int.tmod t249 2) == 1) a1_0 a1_1 a1_2 a1_3 a1_4 a1_5) else (vernierref07_Rounds.j0 k a0 t249 false a1_0 a1_1 a1_2 a1_3 a1_4 a1_5))) else (some (0, t251))) = some (r1, r2) := H
  have A3 := Aside0.mk A30
  clear A30
  by_cases c4 : t251 = 0
  · rw [if_pos c4] at H
    have c4b0 : (t251 == 0) = true := beq_iff_eq.mpr c4
    have c4b1 : (t251 != 0) = false := bne_eq_false_iff_eq.mpr c4
    clear c4
    have HC5 := Aside0.mk H
    clear H
    go_enter Try.func15, Try.ntmps15
    go_upto_region 4 with (first | ((with_reducible refine gate_dst (N := 3) rfl ?_); refine box_event ?hg (N := 3) ?hd (cs := #[.int .i64 a1_0, .bool a1_1, .int .i64 a1_2, .int .u64 a1_3, .int .u64 a1_4, .bool a1_5]) (t := 24) ?hr ?_; (case hd => rfl); (case hg => rfl); (case hr => first | (go_simp; done) | (go_simp; rfl)); intro gb248 hg w6 hbox hb; have n0_ := Aside0.mk (below_step (by repeat (first | (with_reducible first | exact HB.out | apply below_alloc | apply pw_below_drewN | apply below_drew1) | exact HB.out)) hb); have n1_ := Aside0.mk (hbox); have n2_ := Aside0.mk ((by rw [hg]; exact (below_size (by repeat (first | (with_reducible first | exact HB.out | apply below_alloc | apply pw_below_drewN | apply below_drew1) | exact HB.out))) : w.heap.size ≤ gb248)); have n3_ := Aside0.mk ((by rw [hg]; exact (below_size (by repeat (first | (with_reducible first | exact HB.out | apply below_alloc | apply pw_below_drewN | apply below_drew1) | exact HB.out))) : w.heap.size ≤ gb248)); clear HB; have HB := n0_; have BK248 := n1_; have GW248 := n2_; have GE248 := n3_; clear n0_ n1_ n2_ n3_; clear hb hbox hg; have hcz7_0 : w6.cell? ⟨gb248, 0, none⟩ = some (.int .i64 a1_0) := (blk_cell BK248.out 0).trans rfl; have hcz7_1 : w6.cell? ⟨gb248, 1, none⟩ = some (.bool a1_1) := (blk_cell BK248.out 1).trans rfl; have hcz7_2 : w6.cell? ⟨gb248, 2, none⟩ = some (.int .i64 a1_2) := (blk_cell BK248.out 2).trans rfl; have hcz7_3 : w6.cell? ⟨gb248, 3, none⟩ = some (.int .u64 a1_3) := (blk_cell BK248.out 3).trans rfl; have hcz7_4 : w6.cell? ⟨gb248, 4, none⟩ = some (.int .u64 a1_4) := (blk_cell BK248.out 4).trans rfl; have hcz7_5 : w6.cell? ⟨gb248, 5, none⟩ = some (.bool a1_5) := (blk_cell BK248.out 5).trans rfl; have hfz7_0 := blk_frozen BK248.out 0; have hfz7_1 := blk_frozen BK248.out 1; have hfz7_2 := blk_frozen BK248.out 2; have hfz7_3 := blk_frozen BK248.out 3; have hfz7_4 := blk_frozen BK248.out 4; have hfz7_5 := blk_frozen BK248.out 5) | ((with_reducible refine gate_callee (f := 12) rfl ?_); refine goesL_ (some 12) rfl rfl Try.func12 (by kernel_rfl) rfl #[.int .i64 a0, .agg #[.int .i64 a1_0, .bool a1_1, .int .i64 a1_2, .int .u64 a1_3, .int .u64 a1_4, .bool a1_5]] rfl (by (try simp only [List.map_toArray, List.map_cons, List.map_nil]); first | done | rfl | (simp only [List.length_drop, List.length_take]; rfl)) ?_; (with_reducible refine (vernierref07_Cut.calls k a0 a1_0 a1_1 a1_2 a1_3 a1_4 a1_5 t249 t250 t251 _ A3.out).mono ?_); rintro e w8 ⟨rfl, hb⟩; refine ⟨_, rfl, ?_⟩; have n0_ := Aside0.mk (blk_below (g := gb248) (o := .cells #[.int .i64 a1_0, .bool a1_1, .int .i64 a1_2, .int .u64 a1_3, .int .u64 a1_4, .bool a1_5] 24 (0, 0)) (by (with_reducible repeat (first | refine blk_drewN ?_ _ | refine blk_drew ?_ | refine blk_alloc ?_ _)); exact BK248.out) hb); have n1_ := Aside0.mk (below_step (by repeat (first | (with_reducible first | exact HB.out | apply below_alloc | apply pw_below_drewN | apply below_drew1 | refine below_set ?_ GE248.out) | exact HB.out)) hb); clear BK248; clear HB; have BK248 := n0_; have HB := n1_; clear n0_ n1_; (try clear hb); (try clear hb2); (try clear hk); (try clear hi)))
    (try simp only [Act.put, List.setIfInBounds_toArray, List.set_cons_zero, List.set_cons_succ])
    go_cut [29] (fun v29 wc => ∃ (kq : Nat) (x29_4 : Bool), v29 = .bool x29_4 ∧ Aside0 (vernierref07_Rounds.j0 kq a0 t249 x29_4 a1_0 a1_1 a1_2 a1_3 a1_4 a1_5 = some (r1, r2)) ∧ Aside0 (kq ≤ k) ∧ Aside0 (wc.heap[gb248]? = some (.cells #[.int .i64 a1_0, .bool a1_1, .int .i64 a1_2, .int .u64 a1_3, .int .u64 a1_4, .bool a1_5] 24 (0, 0))) ∧ Aside0 (Below w.heap.size w wc))
    case first =>
      have H := HC5.out
      clear HC5
      by_cases c9 : t250 = 3
      · rw [if_pos c9] at H
        have c9b0 : (t250 == 3) = true := beq_iff_eq.mpr c9
        have c9b1 : (t250 != 3) = false := bne_eq_false_iff_eq.mpr c9
        clear c9
        (first | rw [c9b0] | (simp only [i64_w, i32_w]; rw [c9b0]) | skip)
        have H' := Aside0.mk H
        clear H
        go_wp2
        go_meet
        case rel => exact ⟨_, (true), (by first | rfl | (simp; done) | (simp [*]; done)), H', ⟨by first | omega | exact Nat.le_refl _⟩, ⟨by (with_reducible repeat (first | refine blk_drewN ?_ _ | refine blk_drew ?_ | refine blk_alloc ?_ _)); exact BK248.out⟩, ⟨by repeat (first | (with_reducible first | exact HB.out | apply below_alloc | apply pw_below_drewN | apply below_drew1 | refine below_set ?_ GE248.out) | exact HB.out)⟩⟩
      · rw [if_neg c9] at H
        have c9b0 : (t250 == 3) = false := beq_eq_false_iff_ne.mpr c9
        have c9b1 : (t250 != 3) = true := bne_iff_ne.mpr c9
        (first | rw [c9b0] | (simp only [i64_w, i32_w]; rw [c9b0]) | skip)
        by_cases c10 : t250 = 2
        · rw [if_pos c10] at H
          have c10b0 : (t250 == 2) = true := beq_iff_eq.mpr c10
          have c10b1 : (t250 != 2) = false := bne_eq_false_iff_eq.mpr c10
          clear c10
          have H' := Aside0.mk H
          clear H
          go_wp2
          go_meet
          case rel => exact ⟨_, (((Int.tmod t249 2) == 1)), (by first | rfl | (simp; done) | (simp [*]; done)), H', ⟨by first | omega | exact Nat.le_refl _⟩, ⟨by (with_reducible repeat (first | refine blk_drewN ?_ _ | refine blk_drew ?_ | refine blk_alloc ?_ _)); exact BK248.out⟩, ⟨by repeat (first | (with_reducible first | exact HB.out | apply below_alloc | apply pw_below_drewN | apply below_drew1 | refine below_set ?_ GE248.out) | exact HB.out)⟩⟩
        · rw [if_neg c10] at H
          have c10b0 : (t250 == 2) = false := beq_eq_false_iff_ne.mpr c10
          have c10b1 : (t250 != 2) = true := bne_iff_ne.mpr c10
          have H' := Aside0.mk H
          clear H
          go_wp2
          go_meet
          case rel => exact ⟨_, (false), (by first | rfl | (simp; done) | (simp [*]; done)), H', ⟨by first | omega | exact Nat.le_refl _⟩, ⟨by (with_reducible repeat (first | refine blk_drewN ?_ _ | refine blk_drew ?_ | refine blk_alloc ?_ _)); exact BK248.out⟩, ⟨by repeat (first | (with_reducible first | exact HB.out | apply below_alloc | apply pw_below_drewN | apply below_drew1 | refine below_set ?_ GE248.out) | exact HB.out)⟩⟩
    case rest =>
      clear HC5
      try clear c1
      try clear p2
      try clear c4
      try clear c4b0
      try clear c4b1
      try clear c9
      try clear c9b0
      try clear c9b1
      try clear c10
      try clear c10b0
      try clear c10b1
      try clear hcz7_0
      try clear hcz7_1
      try clear hcz7_2
      try clear hcz7_3
      try clear hcz7_4
      try clear hcz7_5
      try clear hfz7_0
      try clear hfz7_1
      try clear hfz7_2
      try clear hfz7_3
      try clear hfz7_4
      try clear hfz7_5
      obtain ⟨kq, x29_4, rfl, HA, HJ4, BK248, HB⟩ := hcut
      cases kq with
      | zero => exact absurd HA.out (by simp [vernierref07_Rounds.j0])
      | succ kj4 =>
        have H := HA.out
        clear HA
        simp only [vernierref07_Rounds.j0] at H
        by_cases c11 : x29_4 = true
        · subst c11
          have H1 : (if a1_1 = true then ((vernierref06_Neg.f kj4 a0 (IntKind.u64.wrap (t249 + 1))).bind fun t252 => (some (t252, 0))) else (some (IntKind.u64.wrap (t249 + 1), 0))) = some (r1, r2) := by rw [if_pos rfl] at H; exact H
          clear H
          have H := H1
          clear H1
          by_cases c12 : a1_1 = true
          · subst c12
            have H1 : ((vernierref06_Neg.f kj4 a0 (IntKind.u64.wrap (t249 + 1))).bind fun t252 => (some (t252, 0))) = some (r1, r2) := by rw [if_pos rfl] at H; exact H
            clear H
            have H := H1
            clear H1
            replace H := Option.bind_eq_some_iff.mp H
            obtain ⟨t252, A130, H⟩ := H
            replace H : (some (t252, 0)) = some (r1, r2) := H
            have A13 := Aside0.mk A130
            clear A130
            simp only [Option.some.injEq, Prod.mk.injEq] at H
            obtain ⟨rfl, rfl⟩ := H
            have hcz14_0 : wc.cell? ⟨gb248, 0, none⟩ = some (.int .i64 a1_0) := (blk_cell BK248.out 0).trans rfl
            have hcz14_1 : wc.cell? ⟨gb248, 1, none⟩ = some (.bool true) := (blk_cell BK248.out 1).trans rfl
            have hcz14_2 : wc.cell? ⟨gb248, 2, none⟩ = some (.int .i64 a1_2) := (blk_cell BK248.out 2).trans rfl
            have hcz14_3 : wc.cell? ⟨gb248, 3, none⟩ = some (.int .u64 a1_3) := (blk_cell BK248.out 3).trans rfl
            have hcz14_4 : wc.cell? ⟨gb248, 4, none⟩ = some (.int .u64 a1_4) := (blk_cell BK248.out 4).trans rfl
            have hcz14_5 : wc.cell? ⟨gb248, 5, none⟩ = some (.bool a1_5) := (blk_cell BK248.out 5).trans rfl
            have hfz14_0 := blk_frozen BK248.out 0
            have hfz14_1 := blk_frozen BK248.out 1
            have hfz14_2 := blk_frozen BK248.out 2
            have hfz14_3 := blk_frozen BK248.out 3
            have hfz14_4 := blk_frozen BK248.out 4
            have hfz14_5 := blk_frozen BK248.out 5
            go_wp2_with (first | ((with_reducible refine gate_callee (f := 39) rfl ?_); refine goesL_ (some 36) rfl rfl Try.func39 (by kernel_rfl) rfl #[.int .i64 a0, .int .u64 (IntKind.u64.wrap (t249 + 1))] rfl (by (try simp only [List.map_toArray, List.map_cons, List.map_nil]); first | done | rfl | (simp only [List.length_drop, List.length_take]; rfl)) ?_; (with_reducible refine (vernierref06_Neg.calls kj4 a0 (IntKind.u64.wrap (t249 + 1)) t252 _ A13.out).mono ?_); rintro e w15 ⟨rfl, hb⟩; refine ⟨_, rfl, ?_⟩; have n0_ := Aside0.mk (blk_below (g := gb248) (o := .cells #[.int .i64 a1_0, .bool true, .int .i64 a1_2, .int .u64 a1_3, .int .u64 a1_4, .bool a1_5] 24 (0, 0)) (by (with_reducible repeat (first | refine blk_drewN ?_ _ | refine blk_drew ?_ | refine blk_alloc ?_ _)); exact BK248.out) hb); have n1_ := Aside0.mk (below_step (by repeat (first | (with_reducible first | exact HB.out | apply below_alloc | apply pw_below_drewN | apply below_drew1 | refine below_set ?_ GE248.out) | exact HB.out)) hb); clear BK248; clear HB; have BK248 := n0_; have HB := n1_; clear n0_ n1_; (try clear hb); (try clear hb2); (try clear hk); (try clear hi)))
            go_ret2
            exact ⟨by first | rfl | (simp [errW_none, errW_some] <;> rfl) | (simp [*, errW_none, errW_some] <;> rfl), by repeat (first | (with_reducible first | exact HB.out | apply below_alloc | apply pw_below_drewN | apply below_drew1 | refine below_set ?_ GE248.out) | exact HB.out)⟩
          · replace c12 := Bool.eq_false_iff.mpr c12
            subst c12
            have H1 : (some (IntKind.u64.wrap (t249 + 1), 0)) = some (r1, r2) := by rw [if_neg (show ¬ (false = true) by decide)] at H; exact H
            clear H
            have H := H1
            clear H1
            simp only [Option.some.injEq, Prod.mk.injEq] at H
            obtain ⟨rfl, rfl⟩ := H
            have hcz16_0 : wc.cell? ⟨gb248, 0, none⟩ = some (.int .i64 a1_0) := (blk_cell BK248.out 0).trans rfl
            have hcz16_1 : wc.cell? ⟨gb248, 1, none⟩ = some (.bool false) := (blk_cell BK248.out 1).trans rfl
            have hcz16_2 : wc.cell? ⟨gb248, 2, none⟩ = some (.int .i64 a1_2) := (blk_cell BK248.out 2).trans rfl
            have hcz16_3 : wc.cell? ⟨gb248, 3, none⟩ = some (.int .u64 a1_3) := (blk_cell BK248.out 3).trans rfl
            have hcz16_4 : wc.cell? ⟨gb248, 4, none⟩ = some (.int .u64 a1_4) := (blk_cell BK248.out 4).trans rfl
            have hcz16_5 : wc.cell? ⟨gb248, 5, none⟩ = some (.bool a1_5) := (blk_cell BK248.out 5).trans rfl
            have hfz16_0 := blk_frozen BK248.out 0
            have hfz16_1 := blk_frozen BK248.out 1
            have hfz16_2 := blk_frozen BK248.out 2
            have hfz16_3 := blk_frozen BK248.out 3
            have hfz16_4 := blk_frozen BK248.out 4
            have hfz16_5 := blk_frozen BK248.out 5
            go_wp2
            go_ret2
            exact ⟨by first | rfl | (simp [errW_none, errW_some] <;> rfl) | (simp [*, errW_none, errW_some] <;> rfl), by repeat (first | (with_reducible first | exact HB.out | apply below_alloc | apply pw_below_drewN | apply below_drew1 | refine below_set ?_ GE248.out) | exact HB.out)⟩
        · replace c11 := Bool.eq_false_iff.mpr c11
          subst c11
          have H1 : (if a1_1 = true then ((vernierref06_Neg.f kj4 a0 t249).bind fun t253 => (some (t253, 0))) else (some (t249, 0))) = some (r1, r2) := by rw [if_neg (show ¬ (false = true) by decide)] at H; exact H
          clear H
          have H := H1
          clear H1
          by_cases c17 : a1_1 = true
          · subst c17
            have H1 : ((vernierref06_Neg.f kj4 a0 t249).bind fun t253 => (some (t253, 0))) = some (r1, r2) := by rw [if_pos rfl] at H; exact H
            clear H
            have H := H1
            clear H1
            replace H := Option.bind_eq_some_iff.mp H
            obtain ⟨t253, A180, H⟩ := H
            replace H : (some (t253, 0)) = some (r1, r2) := H
            have A18 := Aside0.mk A180
            clear A180
            simp only [Option.some.injEq, Prod.mk.injEq] at H
            obtain ⟨rfl, rfl⟩ := H
            have hcz19_0 : wc.cell? ⟨gb248, 0, none⟩ = some (.int .i64 a1_0) := (blk_cell BK248.out 0).trans rfl
            have hcz19_1 : wc.cell? ⟨gb248, 1, none⟩ = some (.bool true) := (blk_cell BK248.out 1).trans rfl
            have hcz19_2 : wc.cell? ⟨gb248, 2, none⟩ = some (.int .i64 a1_2) := (blk_cell BK248.out 2).trans rfl
            have hcz19_3 : wc.cell? ⟨gb248, 3, none⟩ = some (.int .u64 a1_3) := (blk_cell BK248.out 3).trans rfl
            have hcz19_4 : wc.cell? ⟨gb248, 4, none⟩ = some (.int .u64 a1_4) := (blk_cell BK248.out 4).trans rfl
            have hcz19_5 : wc.cell? ⟨gb248, 5, none⟩ = some (.bool a1_5) := (blk_cell BK248.out 5).trans rfl
            have hfz19_0 := blk_frozen BK248.out 0
            have hfz19_1 := blk_frozen BK248.out 1
            have hfz19_2 := blk_frozen BK248.out 2
            have hfz19_3 := blk_frozen BK248.out 3
            have hfz19_4 := blk_frozen BK248.out 4
            have hfz19_5 := blk_frozen BK248.out 5
            go_wp2_with (first | ((with_reducible refine gate_callee (f := 39) rfl ?_); refine goesL_ (some 36) rfl rfl Try.func39 (by kernel_rfl) rfl #[.int .i64 a0, .int .u64 t249] rfl (by (try simp only [List.map_toArray, List.map_cons, List.map_nil]); first | done | rfl | (simp only [List.length_drop, List.length_take]; rfl)) ?_; (with_reducible refine (vernierref06_Neg.calls kj4 a0 t249 t253 _ A18.out).mono ?_); rintro e w20 ⟨rfl, hb⟩; refine ⟨_, rfl, ?_⟩; have n0_ := Aside0.mk (blk_below (g := gb248) (o := .cells #[.int .i64 a1_0, .bool true, .int .i64 a1_2, .int .u64 a1_3, .int .u64 a1_4, .bool a1_5] 24 (0, 0)) (by (with_reducible repeat (first | refine blk_drewN ?_ _ | refine blk_drew ?_ | refine blk_alloc ?_ _)); exact BK248.out) hb); have n1_ := Aside0.mk (below_step (by repeat (first | (with_reducible first | exact HB.out | apply below_alloc | apply pw_below_drewN | apply below_drew1 | refine below_set ?_ GE248.out) | exact HB.out)) hb); clear BK248; clear HB; have BK248 := n0_; have HB := n1_; clear n0_ n1_; (try clear hb); (try clear hb2); (try clear hk); (try clear hi)))
            go_ret2
            exact ⟨by first | rfl | (simp [errW_none, errW_some] <;> rfl) | (simp [*, errW_none, errW_some] <;> rfl), by repeat (first | (with_reducible first | exact HB.out | apply below_alloc | apply pw_below_drewN | apply below_drew1 | refine below_set ?_ GE248.out) | exact HB.out)⟩
          · replace c17 := Bool.eq_false_iff.mpr c17
            subst c17
            have H1 : (some (t249, 0)) = some (r1, r2) := by rw [if_neg (show ¬ (false = true) by decide)] at H; exact H
            clear H
            have H := H1
            clear H1
            simp only [Option.some.injEq, Prod.mk.injEq] at H
            obtain ⟨rfl, rfl⟩ := H
            have hcz21_0 : wc.cell? ⟨gb248, 0, none⟩ = some (.int .i64 a1_0) := (blk_cell BK248.out 0).trans rfl
            have hcz21_1 : wc.cell? ⟨gb248, 1, none⟩ = some (.bool false) := (blk_cell BK248.out 1).trans rfl
            have hcz21_2 : wc.cell? ⟨gb248, 2, none⟩ = some (.int .i64 a1_2) := (blk_cell BK248.out 2).trans rfl
            have hcz21_3 : wc.cell? ⟨gb248, 3, none⟩ = some (.int .u64 a1_3) := (blk_cell BK248.out 3).trans rfl
            have hcz21_4 : wc.cell? ⟨gb248, 4, none⟩ = some (.int .u64 a1_4) := (blk_cell BK248.out 4).trans rfl
            have hcz21_5 : wc.cell? ⟨gb248, 5, none⟩ = some (.bool a1_5) := (blk_cell BK248.out 5).trans rfl
            have hfz21_0 := blk_frozen BK248.out 0
            have hfz21_1 := blk_frozen BK248.out 1
            have hfz21_2 := blk_frozen BK248.out 2
            have hfz21_3 := blk_frozen BK248.out 3
            have hfz21_4 := blk_frozen BK248.out 4
            have hfz21_5 := blk_frozen BK248.out 5
            go_wp2
            go_ret2
            exact ⟨by first | rfl | (simp [errW_none, errW_some] <;> rfl) | (simp [*, errW_none, errW_some] <;> rfl), by repeat (first | (with_reducible first | exact HB.out | apply below_alloc | apply pw_below_drewN | apply below_drew1 | refine below_set ?_ GE248.out) | exact HB.out)⟩
  · rw [if_neg c4] at H
    have c4b0 : (t251 == 0) = false := beq_eq_false_iff_ne.mpr c4
    have c4b1 : (t251 != 0) = true := bne_iff_ne.mpr c4
    simp only [Option.some.injEq, Prod.mk.injEq] at H
    obtain ⟨rfl, rfl⟩ := H
    go_enter Try.func15, Try.ntmps15
    go_wp2_with (first | ((with_reducible refine gate_dst (N := 3) rfl ?_); refine box_event ?hg (N := 3) ?hd (cs := #[.int .i64 a1_0, .bool a1_1, .int .i64 a1_2, .int .u64 a1_3, .int .u64 a1_4, .bool a1_5]) (t := 24) ?hr ?_; (case hd => rfl); (case hg => rfl); (case hr => first | (go_simp; done) | (go_simp; rfl)); intro gb248 hg w22 hbox hb; have n0_ := Aside0.mk (below_step (by repeat (first | (with_reducible first | exact HB.out | apply below_alloc | apply pw_below_drewN | apply below_drew1) | exact HB.out)) hb); have n1_ := Aside0.mk (hbox); have n2_ := Aside0.mk ((by rw [hg]; exact (below_size (by repeat (first | (with_reducible first | exact HB.out | apply below_alloc | apply pw_below_drewN | apply below_drew1) | exact HB.out))) : w.heap.size ≤ gb248)); have n3_ := Aside0.mk ((by rw [hg]; exact (below_size (by repeat (first | (with_reducible first | exact HB.out | apply below_alloc | apply pw_below_drewN | apply below_drew1) | exact HB.out))) : w.heap.size ≤ gb248)); clear HB; have HB := n0_; have BK248 := n1_; have GW248 := n2_; have GE248 := n3_; clear n0_ n1_ n2_ n3_; clear hb hbox hg; have hcz23_0 : w22.cell? ⟨gb248, 0, none⟩ = some (.int .i64 a1_0) := (blk_cell BK248.out 0).trans rfl; have hcz23_1 : w22.cell? ⟨gb248, 1, none⟩ = some (.bool a1_1) := (blk_cell BK248.out 1).trans rfl; have hcz23_2 : w22.cell? ⟨gb248, 2, none⟩ = some (.int .i64 a1_2) := (blk_cell BK248.out 2).trans rfl; have hcz23_3 : w22.cell? ⟨gb248, 3, none⟩ = some (.int .u64 a1_3) := (blk_cell BK248.out 3).trans rfl; have hcz23_4 : w22.cell? ⟨gb248, 4, none⟩ = some (.int .u64 a1_4) := (blk_cell BK248.out 4).trans rfl; have hcz23_5 : w22.cell? ⟨gb248, 5, none⟩ = some (.bool a1_5) := (blk_cell BK248.out 5).trans rfl; have hfz23_0 := blk_frozen BK248.out 0; have hfz23_1 := blk_frozen BK248.out 1; have hfz23_2 := blk_frozen BK248.out 2; have hfz23_3 := blk_frozen BK248.out 3; have hfz23_4 := blk_frozen BK248.out 4; have hfz23_5 := blk_frozen BK248.out 5) | ((with_reducible refine gate_callee (f := 12) rfl ?_); refine goesL_ (some 12) rfl rfl Try.func12 (by kernel_rfl) rfl #[.int .i64 a0, .agg #[.int .i64 a1_0, .bool a1_1, .int .i64 a1_2, .int .u64 a1_3, .int .u64 a1_4, .bool a1_5]] rfl (by (try simp only [List.map_toArray, List.map_cons, List.map_nil]); first | done | rfl | (simp only [List.length_drop, List.length_take]; rfl)) ?_; (with_reducible refine (vernierref07_Cut.calls k a0 a1_0 a1_1 a1_2 a1_3 a1_4 a1_5 t249 t250 t251 _ A3.out).mono ?_); rintro e w24 ⟨rfl, hb⟩; refine ⟨_, rfl, ?_⟩; have n0_ := Aside0.mk (blk_below (g := gb248) (o := .cells #[.int .i64 a1_0, .bool a1_1, .int .i64 a1_2, .int .u64 a1_3, .int .u64 a1_4, .bool a1_5] 24 (0, 0)) (by (with_reducible repeat (first | refine blk_drewN ?_ _ | refine blk_drew ?_ | refine blk_alloc ?_ _)); exact BK248.out) hb); have n1_ := Aside0.mk (below_step (by repeat (first | (with_reducible first | exact HB.out | apply below_alloc | apply pw_below_drewN | apply below_drew1 | refine below_set ?_ GE248.out) | exact HB.out)) hb); clear BK248; clear HB; have BK248 := n0_; have HB := n1_; clear n0_ n1_; (try clear hb); (try clear hb2); (try clear hk); (try clear hi)))
    go_ret2
    exact ⟨by first | rfl | (simp [errW_none, errW_some] <;> rfl) | (simp [*, errW_none, errW_some] <;> rfl), by repeat (first | (with_reducible first | exact HB.out | apply below_alloc | apply pw_below_drewN | apply below_drew1 | refine below_set ?_ GE248.out) | exact HB.out)⟩
end Go.Proofs.Ytfegofnplcmacaa.PAll
namespace Go.Proofs.Ytfegofnplcmacaa.V
open Go Go.RowKit Go.Proofs.YtfegofnplcmacaaW.PrintWords Go.Proofs.YtfegofnplcmacaaW.PrintLast Go.Proofs.YtfegofnplcmacaaW.PrintMore Go.Proofs.Ytfegofnplcmacaa.PAll
set_option linter.unusedVariables false
set_option linter.unusedSimpArgs false
theorem r4_digit {l : List Int} {m : Nat} (h : DL l m) (i : Nat) : vernierref04_digit.f l (i : Int) = some ((dg m i : Nat) : Int) := by
  unfold vernierref04_digit.f
  by_cases hi : i < l.length
  · rw [if_pos (by omega), if_pos (by omega), h.rd]
  · rw [if_neg (by omega), h.dg_out (by omega)]; rfl
theorem r4_two_l (n : Nat) (hn : n ≤ 24) : ∀ (d i : Nat), i + d = n → Ev (fun k => vernierref04_two.l0 k (n : Int) ((2 ^ i : Nat) : Int) (i : Int)) ((2 ^ n : Nat) : Int)
  | 0, i, h => by
    refine evs ?_
    simp only [vernierref04_two.l0, if_neg (show ¬ (i : Int) < (n : Int) by omega)]
    have : i = n := by omega
    subst this
    exact Ev.now _
  | d + 1, i, h => by
    refine evs ?_
    simp only [vernierref04_two.l0]
    have hp : 2 ^ i < 2 ^ 24 := pow_lt (by omega)
    have h24 : (2 : Nat) ^ 24 = 16777216 := by decide
    have e1 : wrap64 (2 * ((2 ^ i : Nat) : Int)) = ((2 ^ (i + 1) : Nat) : Int) := by
      rw [Nat.pow_succ]
      generalize 2 ^ i = z at *
      rw [w64 (by omega) (by omega)]; omega
    have e2 : wrap64 ((i : Int) + 1) = ((i + 1 : Nat) : Int) := by rw [w64 (by omega) (by omega)]; omega
    simp only [if_pos (show (i : Int) < (n : Int) by omega), e1, e2]
    exact r4_two_l n hn d (i + 1) (by omega)
theorem r4_two (n : Nat) (hn : n ≤ 24) : Ev (fun k => vernierref04_two.f k (n : Int)) ((2 ^ n : Nat) : Int) := by
  unfold vernierref04_two.f
  exact r4_two_l n hn n 0 (by omega)
theorem r4_Of_l (v : Nat) (hv : v < 18446744073709551616) : ∀ (d : Nat) (l : List Int), l.length + d = 3 → okD l → dv l + W l.length * (v / W l.length) = v → (l ≠ [] → W (l.length - 1) ≤ v) →
    ∃ r, Ev (fun k => vernierref04_Of.l0 k ((v / W l.length : Nat) : Int) l) r ∧ DL r v := by
  intro d
  induction d with
  | zero =>
    intro l hl hok hval hcan
    have h3 : v / W l.length = 0 := by
      rw [show l.length = 3 by omega, Nat.div_eq_of_lt (Nat.lt_of_lt_of_le hv (by decide))]
    refine ⟨l, ?_, hok, by rw [h3] at hval; simpa using hval, hcan⟩
    refine evs ?_
    simp only [vernierref04_Of.l0, h3, if_neg (show ¬ ((0 : Nat) : Int) > 0 by decide)]
    exact Ev.now _
  | succ d ih =>
    intro l hl hok hval hcan
    by_cases h0 : v / W l.length = 0
    · refine ⟨l, ?_, hok, by rw [h0] at hval; simpa using hval, hcan⟩
      refine evs ?_
      simp only [vernierref04_Of.l0, h0, if_neg (show ¬ ((0 : Nat) : Int) > 0 by decide)]
      exact Ev.now _
    · have hlt : v / W l.length < 18446744073709551616 := Nat.lt_of_le_of_lt (Nat.div_le_self _ _) hv
      have e1 : wrap64 (Int.tmod ((v / W l.length : Nat) : Int) 16777216) = ((dg v l.length : Nat) : Int) := by
        unfold dg
        generalize v / W l.length = q at *
        rw [tmodL, w64 (by omega) (by omega)]
      have e2 : IntKind.u64.wrap (Int.tdiv ((v / W l.length : Nat) : Int) 16777216) = ((v / W (l.length + 1) : Nat) : Int) := by
        rw [W_succ, Nat.mul_comm, ← Nat.div_div_eq_div_mul]
        generalize v / W l.length = q at *
        rw [tdivL, u64_of (by omega) (by omega)]
      have ev : dv (l ++ [((dg v l.length : Nat) : Int)]) = v % W (l.length + 1) := by
        rw [dv_snoc, mod_W_succ]
        have := Nat.div_add_mod v (W l.length)
        have := Nat.mul_comm (W l.length) (v / W l.length)
        omega
      have hW : W l.length ≤ v := by
        rcases Nat.lt_or_ge v (W l.length) with h | h
        · exact absurd (Nat.div_eq_of_lt h) h0
        · exact h
      obtain ⟨r, h1, h2⟩ := ih (l ++ [((dg v l.length : Nat) : Int)]) (by simp; omega) (okD_snoc hok (dg_lt _ _)) (by
        rw [ev, List.length_append, List.length_singleton]
        have := Nat.div_add_mod v (W (l.length + 1)); omega) (fun _ => by simpa using hW)
      refine ⟨r, ?_, h2⟩
      refine evs ?_
      simp only [vernierref04_Of.l0]
      rw [List.length_append, List.length_singleton] at h1
      have hq0 : ((v / W l.length : Nat) : Int) > 0 := by generalize v / W l.length = q at *; omega
      simp only [if_pos hq0, if_pos (show l.length < 17592186044416 by omega), e1, e2]
      exact h1
theorem r4_Of (v : Nat) (hv : v < 18446744073709551616) : ∃ r, Ev (fun k => vernierref04_Of.f k (v : Int)) r ∧ DL r v := by
  have := r4_Of_l v hv 3 [] rfl okD_nil (by simp [dv, W_zero]) (fun h => absurd rfl h)
  simpa [vernierref04_Of.f, W_zero] using this
theorem r4_Add_l {x y : List Int} {a b : Nat} (hx : DL x a) (hy : DL y b) (hn : x.length ≤ 1000) (hm : y.length ≤ 1000) : ∀ (d : Nat) (o : List Int) (c : Nat), o.length + d = max x.length y.length + 1 →
    okD o → c ≤ 1 → dv o + W o.length * c = a % W o.length + b % W o.length → (o.length = max x.length y.length + 1 → c = 0) → (o ≠ [] → W (o.length - 1) ≤ a + b) →
    ∃ r, Ev (fun k => vernierref04_Add.l0 k x y o (c : Int) (o.length : Int)) r ∧ DL r (a + b) := by
  intro d
  induction d with
  | zero =>
    intro o c hl hok hc hv hlast hcan
    have c0 := hlast (by omega)
    subst c0
    have ha := hx.mod_all (i := o.length) (by omega)
    have hb := hy.mod_all (i := o.length) (by omega)
    refine ⟨o, ?_, hok, by rw [ha, hb] at hv; simpa using hv, hcan⟩
    refine evs ?_
    simp only [vernierref04_Add.l0, if_neg (show ¬ (o.length : Int) < (x.length : Int) by omega), if_neg (show ¬ (o.length : Int) < (y.length : Int) by omega), decide_eq_false (show ¬ ((0 : Nat) : Int) > 0 by decide)]
    refine evs ?_
    simp only [vernierref04_Add.j1, Bool.false_eq_true, if_false]
    exact Ev.now _
  | succ d ih =>
    intro o c hl hok hc hv hlast hcan
    have stop : ¬ o.length < x.length → ¬ o.length < y.length → c = 0 → ∃ r, Ev (fun k => vernierref04_Add.l0 k x y o (c : Int) (o.length : Int)) r ∧ DL r (a + b) := by
      intro h1 h2 c0
      subst c0
      have ha := hx.mod_all (i := o.length) (by omega)
      have hb := hy.mod_all (i := o.length) (by omega)
      refine ⟨o, ?_, hok, by rw [ha, hb] at hv; simpa using hv, hcan⟩
      refine evs ?_
      simp only [vernierref04_Add.l0, if_neg (show ¬ (o.length : Int) < (x.length : Int) by omega), if_neg (show ¬ (o.length : Int) < (y.length : Int) by omega), decide_eq_false (show ¬ ((0 : Nat) : Int) > 0 by decide)]
      refine evs ?_
      simp only [vernierref04_Add.j1, Bool.false_eq_true, if_false]
      exact Ev.now _
    have go : (o.length < x.length ∨ o.length < y.length ∨ 0 < c) → ∃ r, Ev (fun k => vernierref04_Add.j1 k x y o (c : Int) (o.length : Int) true) r ∧ DL r (a + b) := by
      intro hg
      have da := dg_lt a o.length
      have db := dg_lt b o.length
      generalize ht : dg a o.length + dg b o.length + c = t
      have htb : t < 33554433 := by omega
      have ev : dv (o ++ [((t % 16777216 : Nat) : Int)]) + W (o.length + 1) * (t / 16777216) = a % W (o.length + 1) + b % W (o.length + 1) := by
        rw [dv_snoc, mod_W_succ, mod_W_succ, W_succ]
        exact add_step hv ht
      have hWl : W o.length ≤ a + b := by
        rcases hg with hg | hg | hg
        · have := (hx.len_iff _).mp hg; omega
        · have := (hy.len_iff _).mp hg; omega
        · have : W o.length * 1 ≤ W o.length * c := Nat.mul_le_mul_left _ hg
          have h1 := Nat.mod_le a (W o.length)
          have h2 := Nat.mod_le b (W o.length)
          omega
      obtain ⟨r, h1, h2⟩ := ih (o ++ [((t % 16777216 : Nat) : Int)]) (t / 16777216) (by simp; omega) (okD_snoc hok (Nat.mod_lt _ (by decide))) (by omega) (by rw [List.length_append, List.length_singleton]; exact ev)
        (fun hlen => by
          rw [List.length_append, List.length_singleton] at hlen
          have := hx.dg_out (i := o.length) (by omega)
          have := hy.dg_out (i := o.length) (by omega)
          omega) (fun _ => by simpa using hWl)
      refine ⟨r, ?_, h2⟩
      refine evs ?_
      simp only [vernierref04_Add.j1, if_true]
      rw [List.length_append, List.length_singleton] at h1
      have hol : o.length < 4611686018427387904 := by omega
      have hol2 : o.length < 17592186044416 := by omega
      simp only [r4_digit hx, r4_digit hy, Option.bind_some, if_pos hol2, w_add3 ht (by omega), tmodL, w_div24 (show t < 4611686018427387904 by omega), w_succ hol]
      exact h1
    by_cases h1 : o.length < x.length
    · obtain ⟨r, a1, a2⟩ := go (.inl h1)
      refine ⟨r, evs ?_, a2⟩
      simp only [vernierref04_Add.l0, if_pos (show (o.length : Int) < (x.length : Int) by omega)]
      exact a1
    · by_cases h2 : o.length < y.length
      · obtain ⟨r, a1, a2⟩ := go (.inr (.inl h2))
        refine ⟨r, evs ?_, a2⟩
        simp only [vernierref04_Add.l0, if_neg (show ¬ (o.length : Int) < (x.length : Int) by omega), if_pos (show (o.length : Int) < (y.length : Int) by omega)]
        exact a1
      · by_cases h3 : c = 0
        · exact stop h1 h2 h3
        · obtain ⟨r, a1, a2⟩ := go (.inr (.inr (by omega)))
          refine ⟨r, evs ?_, a2⟩
          simp only [vernierref04_Add.l0, if_neg (show ¬ (o.length : Int) < (x.length : Int) by omega), if_neg (show ¬ (o.length : Int) < (y.length : Int) by omega), decide_eq_true (show (c : Int) > 0 by omega)]
          exact a1
theorem r4_Add {x y : List Int} {a b : Nat} (hx : DL x a) (hy : DL y b) (hn : x.length ≤ 1000) (hm : y.length ≤ 1000) : ∃ r, Ev (fun k => vernierref04_Add.f k x y) r ∧ DL r (a + b) := by
  have := r4_Add_l hx hy hn hm (max x.length y.length + 1) [] 0 (by simp) okD_nil (by omega) (by simp [dv, W_zero, Nat.mod_one]) (fun h => rfl) (fun h => absurd rfl h)
  simpa [vernierref04_Add.f] using this
theorem r4_times_l {x : List Int} {a q : Nat} (hx : DL x a) (hq : q ≤ 16777216) (hq0 : 0 < q) (hn : x.length ≤ 1000) : ∀ (d : Nat) (o : List Int) (c : Nat), o.length + d = x.length + 1 →
    okD o → c < q → dv o + W o.length * c = a % W o.length * q → (o.length = x.length + 1 → c = 0) → (o ≠ [] → W (o.length - 1) ≤ a * q) →
    ∃ r, Ev (fun k => vernierref04_times.l0 k x (q : Int) o (c : Int) (o.length : Int)) r ∧ DL r (a * q) := by
  intro d
  induction d with
  | zero =>
    intro o c hl hok hc hv hlast hcan
    have c0 := hlast (by omega)
    subst c0
    have ha := hx.mod_all (i := o.length) (by omega)
    refine ⟨o, ?_, hok, by rw [ha] at hv; simpa using hv, hcan⟩
    refine evs ?_
    simp only [vernierref04_times.l0, if_neg (show ¬ (o.length : Int) < (x.length : Int) by omega), if_neg (show ¬ ((0 : Nat) : Int) > 0 by decide)]
    exact Ev.now _
  | succ d ih =>
    intro o c hl hok hc hv hlast hcan
    have da := dg_lt a o.length
    have hmul : dg a o.length * q ≤ 16777215 * q := Nat.mul_le_mul_right _ (by omega)
    generalize ht : dg a o.length * q + c = t
    have htb : t < 16777216 * q := by omega
    have hb : t < 281474976710657 := by omega
    have hol : o.length < 4611686018427387904 := by omega
    have hol2 : o.length < 17592186044416 := by omega
    have hb2 : t < 4611686018427387904 := by omega
    have ev : dv (o ++ [((t % 16777216 : Nat) : Int)]) + W (o.length + 1) * (t / 16777216) = a % W (o.length + 1) * q := by
      rw [dv_snoc, mod_W_succ, W_succ]
      exact times_step hv ht
    have go : (o.length < x.length ∨ 0 < c) → ∃ r, Ev (fun k => vernierref04_times.l0 k x (q : Int) (o ++ [((t % 16777216 : Nat) : Int)]) ((t / 16777216 : Nat) : Int) ((o.length + 1 : Nat) : Int)) r ∧ DL r (a * q) := by
      intro hg
      have hWl : W o.length ≤ a * q := by
        rcases hg with hg | hg
        · have := (hx.len_iff _).mp hg
          exact Nat.le_trans this (Nat.le_mul_of_pos_right _ hq0)
        · have h1 : W o.length * 1 ≤ W o.length * c := Nat.mul_le_mul_left _ hg
          have h2 := Nat.mul_le_mul_right q (Nat.mod_le a (W o.length))
          omega
      obtain ⟨r, h1, h2⟩ := ih (o ++ [((t % 16777216 : Nat) : Int)]) (t / 16777216) (by simp; omega) (okD_snoc hok (Nat.mod_lt _ (by decide))) (by omega) (by rw [List.length_append, List.length_singleton]; exact ev)
        (fun hlen => by
          rw [List.length_append, List.length_singleton] at hlen
          have h0 := hx.dg_out (i := o.length) (by omega)
          rw [h0] at ht
          omega) (fun _ => by simpa using hWl)
      rw [List.length_append, List.length_singleton] at h1
      exact ⟨r, h1, h2⟩
    by_cases h1 : o.length < x.length
    · obtain ⟨r, a1, a2⟩ := go (.inl h1)
      refine ⟨r, evs ?_, a2⟩
      simp only [vernierref04_times.l0, if_pos (show (o.length : Int) < (x.length : Int) by omega), if_pos (show (q : Int) > 0 by omega), r4_digit hx, Option.bind_some, if_pos hol2, w_muladd ht hb2, tmodL, w_div24 hb2, w_succ hol]
      exact a1
    · by_cases h3 : c = 0
      · subst h3
        have ha := hx.mod_all (i := o.length) (by omega)
        refine ⟨o, evs ?_, hok, by rw [ha] at hv; simpa using hv, hcan⟩
        simp only [vernierref04_times.l0, if_neg (show ¬ (o.length : Int) < (x.length : Int) by omega), if_neg (show ¬ ((0 : Nat) : Int) > 0 by omega)]
        exact Ev.now _
      · obtain ⟨r, a1, a2⟩ := go (.inr (by omega))
        refine ⟨r, evs ?_, a2⟩
        simp only [vernierref04_times.l0, if_neg (show ¬ (o.length : Int) < (x.length : Int) by omega), if_pos (show (c : Int) > 0 by omega), r4_digit hx, Option.bind_some, if_pos hol2, w_muladd ht hb2, tmodL, w_div24 hb2, w_succ hol]
        exact a1
theorem r4_times {x : List Int} {a q : Nat} (hx : DL x a) (hq : q ≤ 16777216) (hn : x.length ≤ 1000) : ∃ r, Ev (fun k => vernierref04_times.f k x (q : Int)) r ∧ DL r (a * q) := by
  by_cases hq0 : q = 0
  · subst hq0
    refine ⟨[], ?_, by rw [Nat.mul_zero]; exact DL.nil⟩
    unfold vernierref04_times.f
    refine evs ?_
    simp only [vernierref04_times.l0, if_neg (show ¬ ((0 : Nat) : Int) > 0 by decide), if_neg (show ¬ (0 : Int) > 0 by decide), ite_self]
    exact Ev.now _
  · have := r4_times_l hx hq (by omega) hn (x.length + 1) [] 0 (by simp) okD_nil (by omega) (by simp [dv, W_zero, Nat.mod_one]) (fun h => rfl) (fun h => absurd rfl h)
    simpa [vernierref04_times.f] using this
theorem r4_Shl {x : List Int} {a k : Nat} (hx : DL x a) (hk : k ≤ 20000) (hn : x.length ≤ 1000) : ∃ r, Ev (fun n => vernierref04_Shl.f n x (k : Int)) r ∧ DL r (a * 2 ^ k) := by
  by_cases h0 : a = 0
  · subst h0
    have := hx.zero
    subst this
    refine ⟨[], ?_, by rw [Nat.zero_mul]; exact DL.nil⟩
    unfold vernierref04_Shl.f
    exact evn rfl
  · have hpos := hx.pos (by omega)
    have t := r4_two (k % 24) (by omega)
    have hp : (2 : Nat) ^ (k % 24) ≤ 2 ^ 24 := pow_le (by omega)
    obtain ⟨s, s1, s2⟩ := r4_times hx (q := 2 ^ (k % 24)) hp hn
    have hs : 0 < a * 2 ^ (k % 24) := Nat.mul_pos (by omega) (two_pos _)
    have hsl := s2.pos hs
    have hsl2 : s.length ≤ x.length + 1 := by
      refine s2.len_le ?_
      rw [W_succ, Nat.mul_comm 16777216]
      have hp' : 2 ^ (k % 24) < 16777216 := by
        have : (2 : Nat) ^ (k % 24) < 2 ^ 24 := pow_lt (by omega)
        exact this
      have h1 := hx.lt
      exact Nat.mul_lt_mul'' h1 hp'
    have ev : dv (List.replicate (k / 24) 0 ++ s) = a * 2 ^ k := by
      rw [dv_append, dv_zeros, s2.val, List.length_replicate]
      unfold W
      have e1 : (2 : Nat) ^ k = 2 ^ (24 * (k / 24)) * 2 ^ (k % 24) := by rw [← Nat.pow_add]; congr 1; omega
      rw [e1]; grind
    refine ⟨List.replicate (k / 24) 0 ++ s, ?_, ?_, ev, ?_⟩
    · unfold vernierref04_Shl.f
      simp only [if_neg (show ¬ (x.length : Int) = 0 by omega), w_q24 hk, w_r24, if_pos (show (0 : Int) ≤ ((k / 24 : Nat) : Int) by omega), Int.toNat_natCast, if_pos (show k / 24 ≤ 35184372088832 by omega), Option.bind_some]
      refine Ev.bind t (Ev.bind s1 ?_)
      simp only [List.length_replicate, if_pos (show k / 24 + s.length < 17592186044416 by omega)]
      exact Ev.now _
    · intro d hd
      rcases List.mem_append.mp hd with h | h
      · exact okD_zeros _ d h
      · exact s2.ok d h
    · intro _
      rw [List.length_append, List.length_replicate, show k / 24 + s.length - 1 = k / 24 + (s.length - 1) by omega, W_add]
      have c := s2.can (by intro e; rw [e] at hsl; simp at hsl)
      have e1 : (2 : Nat) ^ k = W (k / 24) * 2 ^ (k % 24) := by unfold W; rw [← Nat.pow_add]; congr 1; omega
      rw [e1]
      have := Nat.mul_le_mul_left (W (k / 24)) c
      rw [show a * (W (k / 24) * 2 ^ (k % 24)) = W (k / 24) * (a * 2 ^ (k % 24)) by grind]
      exact this
theorem r4_Cut {x : List Int} (hok : okD x) (hn : x.length ≤ 1000) : ∃ r, Ev (fun k => vernierref04_Cut.f k x) r ∧ DL r (dv x) := by
  have key : ∀ (n : Nat), n ≤ x.length → dv x < W n → ∃ r, Ev (fun k => vernierref04_Cut.l0 k x (n : Int)) r ∧ DL r (dv x) := by
    intro n
    induction n with
    | zero =>
      intro _ h0
      rw [W_zero] at h0
      refine ⟨[], evs ?_, by rw [show dv x = 0 by omega]; exact DL.nil⟩
      simp only [vernierref04_Cut.l0]
      simp only [if_neg (show ¬ ((0 : Nat) : Int) > 0 by decide), if_pos (show (0 : Int) ≤ ((0 : Nat) : Int) by decide), if_pos (show ((0 : Nat) : Int) ≤ (x.length : Int) by omega)]
      exact evn rfl
    | succ n ih =>
      intro hl hW
      have hn4 : n + 1 < 4611686018427387904 := by omega
      have er := rd_dg hok n
      by_cases hz : dg (dv x) n = 0
      · have hlt : dv x < W n := by
          have h1 := mod_W_succ (dv x) n
          rw [Nat.mod_eq_of_lt hW, hz, Nat.mul_zero, Nat.add_zero] at h1
          rw [h1]; exact Nat.mod_lt _ (W_pos n)
        obtain ⟨r, a1, a2⟩ := ih (by omega) hlt
        refine ⟨r, evs ?_, a2⟩
        simp only [vernierref04_Cut.l0, w_pred hn4 (Nat.succ_pos n), Nat.add_sub_cancel, if_pos (show ((n + 1 : Nat) : Int) > 0 by omega), if_pos (show (0 : Int) ≤ (n : Int) by omega), if_pos (show (n : Int) < (x.length : Int) by omega), er, hz]
        exact a1
      · have ht := dv_take hok (n + 1) hl
        rw [Nat.mod_eq_of_lt hW] at ht
        refine ⟨x.take (n + 1), evs ?_, okD_take _ hok, ht, ?_⟩
        · simp only [vernierref04_Cut.l0, w_pred hn4 (Nat.succ_pos n), Nat.add_sub_cancel, if_pos (show ((n + 1 : Nat) : Int) > 0 by omega), if_pos (show (0 : Int) ≤ (n : Int) by omega), if_pos (show (n : Int) < (x.length : Int) by omega), er, if_neg (show ¬ ((dg (dv x) n : Nat) : Int) = 0 by omega), if_pos (show (0 : Int) ≤ ((n + 1 : Nat) : Int) by omega), if_pos (show ((n + 1 : Nat) : Int) ≤ (x.length : Int) by omega), Int.toNat_natCast]
          exact Ev.now _
        · intro _
          rw [List.length_take, Nat.min_eq_left hl, Nat.add_sub_cancel]
          rcases Nat.lt_or_ge (dv x) (W n) with h | h
          · exact absurd (by unfold dg; rw [Nat.div_eq_of_lt h]) hz
          · exact h
  unfold vernierref04_Cut.f
  exact key x.length (Nat.le_refl _) (dv_lt hok)
theorem r4_Bits_l : ∀ (d t n : Nat), t < 2 ^ d → n + d < 4611686018427387904 → d ≤ 60 → Ev (fun k => vernierref04_Bits.l0 k (n : Int) (t : Int)) ((n + bl t : Nat) : Int)
  | 0, t, n, h, hn, _ => by
    have : t = 0 := by simpa using h
    subst this
    refine evs ?_
    simp only [vernierref04_Bits.l0, if_neg (show ¬ ((0 : Nat) : Int) > 0 by decide)]
    exact Ev.now _
  | d + 1, t, n, h, hn, hd => by
    refine evs ?_
    simp only [vernierref04_Bits.l0]
    by_cases h0 : t = 0
    · subst h0
      simp only [if_neg (show ¬ ((0 : Nat) : Int) > 0 by decide)]
      exact Ev.now _
    · have h60 : (2 : Nat) ^ (d + 1) ≤ 2 ^ 60 := pow_le hd
      have h60' : (2 : Nat) ^ 60 = 1152921504606846976 := by decide
      have n4 : n < 4611686018427387904 := by omega
      have t4 : t < 4611686018427387904 := by omega
      simp only [if_pos (show (t : Int) > 0 by omega), w_succ n4, w_half t4]
      have hb : bl t = bl (t / 2) + 1 := by
        have a := bl_lt (t / 2)
        by_cases h2 : t / 2 = 0
        · have : t = 1 := by omega
          subst this; rfl
        · have b := bl_le (x := t / 2) (by omega)
          have c := bl_pos (x := t / 2) (by omega)
          refine bl_unique (by omega) ?_ (by rw [Nat.pow_succ]; omega)
          rw [show bl (t / 2) + 1 - 1 = (bl (t / 2) - 1) + 1 by omega, Nat.pow_succ]; omega
      rw [hb, show n + (bl (t / 2) + 1) = n + 1 + bl (t / 2) by omega]
      exact r4_Bits_l d (t / 2) (n + 1) (by rw [Nat.pow_succ] at h; omega) (by omega) (by omega)
theorem r4_Bits {x : List Int} {a : Nat} (hx : DL x a) (hn : x.length ≤ 1000) : Ev (fun k => vernierref04_Bits.f k x) ((bl a : Nat) : Int) := by
  unfold vernierref04_Bits.f
  by_cases h0 : a = 0
  · subst h0
    have := hx.zero
    subst this
    refine evn ?_
    rfl
  · have hpos := hx.pos (by omega)
    have n4 : x.length < 4611686018427387904 := by omega
    have n5 : x.length - 1 < 20000 := by omega
    simp only [if_neg (show ¬ (x.length : Int) = 0 by omega), w_pred n4 hpos, w_24 n5, if_pos (show (0 : Int) ≤ ((x.length - 1 : Nat) : Int) by omega), if_pos (show ((x.length - 1 : Nat) : Int) < (x.length : Int) by omega), hx.rd]
    have hd := dg_lt a (x.length - 1)
    have b := r4_Bits_l 24 (dg a (x.length - 1)) (24 * (x.length - 1)) (by exact hd) (by omega) (by decide)
    have hb : bl a = 24 * (x.length - 1) + bl (dg a (x.length - 1)) := by
      have hc := hx.can (by intro e; rw [e] at hpos; simp at hpos)
      have hlt := hx.lt
      have edg : dg a (x.length - 1) = a / W (x.length - 1) := by
        unfold dg
        rw [Nat.mod_eq_of_lt]
        rw [Nat.div_lt_iff_lt_mul (W_pos _), ← W_succ, show x.length - 1 + 1 = x.length by omega]
        exact hlt
      have hq : 0 < dg a (x.length - 1) := by rw [edg]; exact Nat.div_pos hc (W_pos _)
      have u := bl_lt (dg a (x.length - 1))
      have v := bl_le hq
      have c := bl_pos hq
      have dm := Nat.div_add_mod a (W (x.length - 1))
      rw [← edg] at dm
      have ml := Nat.mod_lt a (W_pos (x.length - 1))
      refine bl_unique (by omega) ?_ ?_
      · rw [show 24 * (x.length - 1) + bl (dg a (x.length - 1)) - 1 = 24 * (x.length - 1) + (bl (dg a (x.length - 1)) - 1) by omega, Nat.pow_add]
        have := Nat.mul_le_mul_left (W (x.length - 1)) v
        unfold W at *
        omega
      · rw [Nat.pow_add]
        have := Nat.mul_le_mul_left (W (x.length - 1)) (show dg a (x.length - 1) + 1 ≤ 2 ^ bl (dg a (x.length - 1)) by omega)
        rw [Nat.mul_add] at this
        unfold W at *
        omega
    rw [hb]
    exact b
theorem r4_Shr_l {y : List Int} {A r : Nat} (hy : DL y A) (hr : r < 24) (hn : y.length ≤ 1000) : ∀ (d i : Nat) (l : List Int), i + d = y.length → okD l → l.length = y.length → dv l = A / 2 ^ r % W i →
    ∃ s, Ev (fun k => vernierref04_Shr.l0 k y ((2 ^ r : Nat) : Int) l (i : Int)) s ∧ DL s (A / 2 ^ r)
  | 0, i, l, h, hok, hl, hv => by
    have hA : A / 2 ^ r < W i := Nat.lt_of_le_of_lt (Nat.div_le_self _ _) (by have := hy.lt; rw [show i = y.length by omega]; exact this)
    rw [Nat.mod_eq_of_lt hA] at hv
    obtain ⟨s, s1, s2⟩ := r4_Cut hok (by omega)
    rw [hv] at s2
    refine ⟨s, evs ?_, s2⟩
    simp only [vernierref04_Shr.l0, if_neg (show ¬ (i : Int) < (y.length : Int) by omega)]
    exact Ev.bind s1 (Ev.now _)
  | d + 1, i, l, h, hok, hl, hv => by
    have hp := two_pos r
    have hd := dg_lt (A / 2 ^ r) i
    have hs := dv_set hok (n := i) (d := dg (A / 2 ^ r) i) (by omega) hd
    have hz : dg (dv l) i = 0 := by
      unfold dg; rw [Nat.div_eq_of_lt (by rw [hv]; exact Nat.mod_lt _ (W_pos i))]
    rw [hz, Nat.mul_zero, Nat.add_zero, hv, ← mod_W_succ] at hs
    obtain ⟨s, s1, s2⟩ := r4_Shr_l hy hr hn d (i + 1) (l.set i ((dg (A / 2 ^ r) i : Nat) : Int)) (by omega) (okD_set hok hd) (by rw [List.length_set]; exact hl) hs
    refine ⟨s, evs ?_, s2⟩
    have h4 : i < 4611686018427387904 := by omega
    have hne : ¬ ((2 ^ r : Nat) : Int) = 0 := by generalize 2 ^ r = z at *; omega
    simp only [vernierref04_Shr.l0, if_pos (show (i : Int) < (y.length : Int) by omega), if_pos (show (0 : Int) ≤ (i : Int) by omega), if_neg hne, w_succ h4, r4_digit hy, Option.bind_some, if_pos (show (i : Int) < (l.length : Int) by omega), hy.rd, w_shr (dg_lt A i) (dg_lt A (i + 1)) hr, ← dg_shr A i r (by omega), Int.toNat_natCast]
    exact s1
theorem r4_Shr {x : List Int} {a k : Nat} (hx : DL x a) (hk : k ≤ 20000) (hn : x.length ≤ 1000) : ∃ r, Ev (fun n => vernierref04_Shr.f n x (k : Int)) r ∧ DL r (a / 2 ^ k) := by
  unfold vernierref04_Shr.f
  simp only [w_q24 hk, w_r24]
  by_cases hq : x.length ≤ k / 24
  · refine ⟨[], ?_, ?_⟩
    · simp only [if_pos (show ((k / 24 : Nat) : Int) ≥ (x.length : Int) by omega)]
      exact Ev.now _
    · have : a < 2 ^ k := Nat.lt_of_lt_of_le hx.lt (by unfold W; exact pow_le (by omega))
      rw [Nat.div_eq_of_lt this]; exact DL.nil
  · have hy : DL (x.drop (k / 24)) (a / W (k / 24)) := by
      refine ⟨okD_drop _ hx.ok, ?_, ?_⟩
      · rw [dv_drop hx.ok _ (by omega), hx.val]
      · intro _
        rw [List.length_drop, Nat.le_div_iff_mul_le (W_pos _), ← W_add, show x.length - k / 24 - 1 + k / 24 = x.length - 1 by omega]
        exact hx.can (by intro e; rw [e] at hq; simp at hq)
    have hl : (x.drop (k / 24)).length = x.length - k / 24 := List.length_drop
    have t := r4_two (k % 24) (by omega)
    obtain ⟨s, s1, s2⟩ := r4_Shr_l hy (r := k % 24) (by omega) (by omega) (x.drop (k / 24)).length 0 (List.replicate (x.drop (k / 24)).length 0) (by omega) (okD_zeros _) (by simp) (by rw [dv_zeros, W_zero, Nat.mod_one])
    refine ⟨s, ?_, ?_⟩
    · simp only [if_neg (show ¬ ((k / 24 : Nat) : Int) ≥ (x.length : Int) by omega), if_pos (show (0 : Int) ≤ ((k / 24 : Nat) : Int) by omega), if_pos (show ((k / 24 : Nat) : Int) ≤ (x.length : Int) by omega), Int.toNat_natCast, Option.bind_some]
      refine Ev.bind t ?_
      simp only [if_pos (show (0 : Int) ≤ ((x.drop (k / 24)).length : Int) by omega), if_pos (show (x.drop (k / 24)).length ≤ 35184372088832 by omega)]
      exact s1
    · have e : a / W (k / 24) / 2 ^ (k % 24) = a / 2 ^ k := by
        unfold W
        rw [div_div_pow]
        congr 2; omega
      rw [e] at s2
      exact s2
theorem r4_Low_l {x : List Int} {a k : Nat} (hx : DL x a) (hk : k ≤ 20000) (hn : x.length ≤ 1000) : ∀ (d i : Nat), i + d = x.length → (a % W i = 0 ∨ (k ≤ 24 * i ∧ a % 2 ^ k = 0)) →
    Ev (fun n => vernierref04_Low.l0 n x (k : Int) (i : Int)) (decide (a % 2 ^ k ≠ 0))
  | 0, i, h, hv => by
    have h0 : a % 2 ^ k = 0 := by
      rcases hv with hv | hv
      · rw [hx.mod_all (by omega)] at hv
        rw [hv, Nat.zero_mod]
      · exact hv.2
    refine evs ?_
    simp only [vernierref04_Low.l0, if_neg (show ¬ (i : Int) < (x.length : Int) by omega)]
    refine evs ?_
    simp only [vernierref04_Low.j1, Bool.false_eq_true, if_false]
    exact evn (by simp [h0])
  | d + 1, i, h, hv => by
    have h4 : i < 4611686018427387904 := by omega
    have h5 : i < 20000 := by omega
    refine evs ?_
    simp only [vernierref04_Low.l0, if_pos (show (i : Int) < (x.length : Int) by omega), w_24 h5]
    refine evs ?_
    by_cases hki : k ≤ 24 * i
    · have h0 : a % 2 ^ k = 0 := by
        rcases hv with hv | hv
        · have := mod_pow_le (a := a) hki
          unfold W at hv
          rw [hv, Nat.zero_mod] at this
          exact this.symm
        · exact hv.2
      simp only [vernierref04_Low.j1, decide_eq_false (show ¬ ((24 * i : Nat) : Int) < (k : Int) by omega), Bool.false_eq_true, if_false]
      exact evn (by simp [h0])
    · have hv : a % W i = 0 := hv.resolve_right (fun h => hki h.1)
      have e1 : ((k : Int) - ((24 * i : Nat) : Int)) = ((k - 24 * i : Nat) : Int) := by omega
      have e2 : wrap64 ((k - 24 * i : Nat) : Int) = ((k - 24 * i : Nat) : Int) := w64 (by omega) (by omega)
      simp only [vernierref04_Low.j1, decide_eq_true (show ((24 * i : Nat) : Int) < (k : Int) by omega), if_true, w_24 h5, e1, e2]
      by_cases hlt : k - 24 * i < 24
      · simp only [if_pos (show ((k - 24 * i : Nat) : Int) < 24 by omega)]
        refine Ev.bind (r4_two (k - 24 * i) (by omega)) ?_
        have hp := two_pos (k - 24 * i)
        have hne : ¬ ((2 ^ (k - 24 * i) : Nat) : Int) = 0 := by generalize 2 ^ (k - 24 * i) = z at *; omega
        have hm : a % 2 ^ k = W i * (dg a i % 2 ^ (k - 24 * i)) := by
          have e : (2 : Nat) ^ k = W i * 2 ^ (k - 24 * i) := by unfold W; rw [← Nat.pow_add]; congr 1; omega
          rw [e, Nat.mod_mul, hv, Nat.zero_add]
          unfold dg
          rw [show (16777216 : Nat) = 2 ^ 24 by decide, mod_pow_le (by omega)]
        simp only [if_pos (show (0 : Int) ≤ (i : Int) by omega), if_pos (show (i : Int) < (x.length : Int) by omega), if_neg hne, hx.rd, tmodN]
        by_cases hz : dg a i % 2 ^ (k - 24 * i) = 0
        · have h0 : a % 2 ^ k = 0 := by rw [hm, hz, Nat.mul_zero]
          simp only [if_pos (show ((dg a i % 2 ^ (k - 24 * i) : Nat) : Int) = 0 by omega), w_succ h4]
          exact r4_Low_l hx hk hn d (i + 1) (by omega) (.inr ⟨by omega, h0⟩)
        · have h0 : a % 2 ^ k ≠ 0 := by
            rw [hm]; exact Nat.mul_ne_zero (Nat.ne_of_gt (W_pos i)) hz
          simp only [if_neg (show ¬ ((dg a i % 2 ^ (k - 24 * i) : Nat) : Int) = 0 by omega)]
          exact evn (by simp [h0])
      · have hd := dg_lt a i
        have hm : a % W (i + 1) = W i * dg a i := by rw [mod_W_succ, hv, Nat.zero_add]
        simp only [if_neg (show ¬ ((k - 24 * i : Nat) : Int) < 24 by omega), if_pos (show (0 : Int) ≤ (i : Int) by omega), if_pos (show (i : Int) < (x.length : Int) by omega), hx.rd, tmodL, Nat.mod_eq_of_lt hd]
        by_cases hz : dg a i = 0
        · simp only [if_pos (show ((dg a i : Nat) : Int) = 0 by omega), w_succ h4]
          exact r4_Low_l hx hk hn d (i + 1) (by omega) (.inl (by rw [hm, hz, Nat.mul_zero]))
        · have h0 : a % 2 ^ k ≠ 0 := by
            intro h0
            have := mod_pow_le (a := a) (b := 24 * (i + 1)) (c := k) (by omega)
            rw [h0, Nat.zero_mod] at this
            have h1 : a % W (i + 1) = 0 := this.symm
            rw [hm] at h1
            exact Nat.mul_ne_zero (Nat.ne_of_gt (W_pos i)) hz h1
          simp only [if_neg (show ¬ ((dg a i : Nat) : Int) = 0 by omega)]
          exact evn (by simp [h0])
theorem r4_Low {x : List Int} {a k : Nat} (hx : DL x a) (hk : k ≤ 20000) (hn : x.length ≤ 1000) : Ev (fun n => vernierref04_Low.f n x (k : Int)) (decide (a % 2 ^ k ≠ 0)) := by
  unfold vernierref04_Low.f
  exact r4_Low_l hx hk hn x.length 0 (by omega) (.inl (by rw [W_zero, Nat.mod_one]))
theorem r4_Word {x : List Int} {a : Nat} (hx : DL x a) : Ev (fun k => vernierref04_Word.f k x) ((a % 18446744073709551616 : Nat) : Int) := by
  unfold vernierref04_Word.f
  have d0 := r4_digit hx 0
  have d1 := r4_digit hx 1
  have d2 := r4_digit hx 2
  have b0 := dg_lt a 0
  have b1 := dg_lt a 1
  have b2 := dg_lt a 2
  have w1 : wrap64 ((2 : Int) - 1) = 1 := w64 (by decide) (by decide)
  have w2 : wrap64 ((1 : Int) - 1) = 0 := w64 (by decide) (by decide)
  have w3 : wrap64 ((0 : Int) - 1) = -1 := w64 (by decide) (by decide)
  have d0' : vernierref04_digit.f x 0 = _ := d0
  have d1' : vernierref04_digit.f x 1 = _ := d1
  have d2' : vernierref04_digit.f x 2 = _ := d2
  refine evs ?_
  simp only [vernierref04_Word.l0, if_pos (show (2 : Int) ≥ 0 by decide), d2', Option.bind_some, w1]
  refine evs ?_
  simp only [vernierref04_Word.l0, if_pos (show (1 : Int) ≥ 0 by decide), d1', Option.bind_some, w2]
  refine evs ?_
  simp only [vernierref04_Word.l0, if_pos (show (0 : Int) ≥ 0 by decide), d0', Option.bind_some, w3]
  refine evs ?_
  simp only [vernierref04_Word.l0, if_neg (show ¬ (-1 : Int) ≥ 0 by decide)]
  refine evn ?_
  congr 1
  simp only [u64_wrap]
  have e0 : dg a 0 = a % 16777216 := by unfold dg; rw [W_zero, Nat.div_one]
  have e1 : dg a 1 = a / 16777216 % 16777216 := by unfold dg; rfl
  have e2 : dg a 2 = a / 281474976710656 % 16777216 := by unfold dg; rfl
  rw [e0, e1, e2]
  omega
end Go.Proofs.Ytfegofnplcmacaa.V
namespace Go.Proofs.Ytfegofnplcmacaa.V
open Go Go.RowKit Go.Proofs.YtfegofnplcmacaaW.PrintWords Go.Proofs.YtfegofnplcmacaaW.PrintLast Go.Proofs.YtfegofnplcmacaaW.PrintMore Go.Proofs.Ytfegofnplcmacaa.PAll
set_option linter.unusedVariables false
set_option linter.unusedSimpArgs false
theorem up7 : Ev (fun k => vernierlaw07_up.f k) true := by
  unfold vernierlaw07_up.f
  have a := round_Round_eq (n := 8) (hi := 9223372036854775808) (lo := 0) (kd := 1) (sc := 22) (ng := false) (rs := false) (by decide) (by decide) (by decide) (by decide)
  have b := round_Round_eq (n := 8) (hi := 9223372036854775808) (lo := 0) (kd := 1) (sc := 23) (ng := false) (rs := false) (by decide) (by decide) (by decide) (by decide)
  rw [show rnd 8 1 false 22 (9223372036854775808 * 18446744073709551616 + 0) false = 126 by decide +kernel] at a
  rw [show rnd 8 1 false 23 (9223372036854775808 * 18446744073709551616 + 0) false = 127 by decide +kernel] at b
  refine Ev.bind a (Ev.bind b ?_)
  exact Ev.now _
theorem code_none : vernierlaw00_Code.f none = some 0 := rfl
theorem code_1 : vernierlaw00_Code.f (some 1) = some 1 := rfl
end Go.Proofs.Ytfegofnplcmacaa.V
