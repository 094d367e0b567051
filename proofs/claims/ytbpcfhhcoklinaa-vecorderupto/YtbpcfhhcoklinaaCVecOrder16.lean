-- Written by a program of this session out of its own texts (wip/tools/link.py).
import Derived.Below
import Derived.ChangeKeysEq
import Derived.Deep.MidRow
import Derived.Deep.RegionHeld3
import Derived.Great.BuildSlice
import Derived.Ground.SlsfProg
import Derived.IntWalk
import Derived.KernelRfl
import Derived.LaidEql
import Derived.Laws.Bits64
import Derived.Laws.BitsLemmas
import Derived.Laws.BytesArg
import Derived.Laws.IdiomCopy
import Derived.Laws.OwnMore
import Derived.Laws.Rows
import Derived.Laws.Slices
import Derived.Laws.StructEq
import Derived.Laws.Tables
import Derived.Lib.BitFns
import Derived.Lib.Slices
import Derived.Lib.Small
import Derived.Lib.Strings
import Derived.Lib.Walk
import Derived.Maps.AppendAt
import Derived.OrdersHeld
import Derived.RowKit
import Derived.Scope
import Derived.Shelf.SlGeneric
import Derived.Shelf.SlSortCmp.NoneTotal
import Derived.Shelf.Spec.BitsCarry
import Derived.Test.YtbpcfhhcoklinaaProg
import Derived.Test.YtbpcfhhcoklinaaCVecOrder9
import Derived.Test.YtbpcfhhcoklinaaCVecOrder12
import Derived.Test.YtbpcfhhcoklinaaCVecOrder15
set_option maxRecDepth 100000
set_option linter.unusedVariables false
noncomputable section
namespace Go.Proofs.Ytbpcfhhcoklinaa.Fn
open Go Go.RowKit Go.Proofs.Ytbpcfhhcoklinaa.Ab
noncomputable def S29 : SSig := ⟨.u64, 35, 30, [.int .i64]⟩
def slices_SortFunc.cf (n x y : Int) : Int := (vec_Sort_1.f x y n).getD 0
def slices_SortFunc.Good (n : Int) (l : List Int) : Prop := l.length < 4611686018427387904 ∧ (∀ x ∈ l, ∀ y ∈ l, (vec_Sort_1.f x y n).isSome = true) ∧ Srt.Ord (slices_SortFunc.cf n) l
def slices_SortFunc.f (n : Int) (l : List Int) : Option (List Int) := @ite _ (slices_SortFunc.Good n l) (Classical.propDecidable _) (some (Srt.srt (slices_SortFunc.cf n) l)) none
--@ok
noncomputable def slices_SortFunc.c : SCon := S29.con slices_SortFunc.f
theorem slices_SortFunc.ok : FnOkS Go.Proofs.Try.prog 59 29 slices_SortFunc.c := by
  intro x l r w ok base v us hF hin hown hnok hcp
  have hF' : slices_SortFunc.f x l = some r := hF
  unfold slices_SortFunc.f at hF'
  split at hF'
  · rename_i hG
    injection hF' with hF'
    subst hF'
    refine .inl ⟨enters_of Go.Proofs.Try.func29 (by kernel_rfl) rfl _ _, ?_⟩
    refine (Srt.sort_calls (slices_SortFunc.cf x) us l w base v hown hG.2.2 hG.1 ?_).mono ?_
    · intro W hW a ha b hb
      obtain ⟨us⟩ := us
      match us, hcp with
      | [p], hcp =>
        obtain ⟨⟨q, u, rfl, h1, h2, h3, h4⟩, -⟩ := hcp
        have hs := hG.2.1 a ha b hb
        obtain ⟨c, hc⟩ := Option.isSome_iff_exists.1 hs
        have hne : q.block ∉ v.ownBlock.toList := by
          intro hm
          cases ho : v.ownBlock with
          | none => rw [ho] at hm; cases hm
          | some g =>
            rw [ho] at hm
            have hm : q.block = g := by simpa using hm
            exact hnok g ho (hm ▸ h1)
        have e1 : (#[Value.int .u64 a, Value.int .u64 b] ++ ({ toList := [Value.pointer (some q)] } : Array Value)) = #[.int .u64 a, .int .u64 b, .pointer (some q)] := rfl
        rw [e1]
        have h := vec_Sort_1.ok (a, b, x) c W (fun g => ok g ∧ g < w.heap.size) #[.int .u64 a, .int .u64 b, .pointer (some q)] hc
          ⟨⟨rfl, hin.2 a ha, by simp, by simp⟩, ⟨rfl, hin.2 b hb, by simp, by simp⟩, ⟨q, u, rfl, ⟨h1, h2⟩, Nat.lt_of_lt_of_le h2 hW.size, (cell_of (w := w) (hW.block _ h2 hne)).trans h3, h4⟩, trivial⟩
        refine (Srt.of_ok (enters_of Go.Proofs.Try.func30 (by kernel_rfl) rfl) h).mono ?_
        rintro e w' ⟨v', rfl, ⟨y, hy, hvv⟩, hbw⟩
        injection hy with hy
        subst hy
        obtain ⟨rfl, -⟩ := hvv
        refine ⟨?_, hbw⟩
        unfold slices_SortFunc.cf
        rw [hc]
        rfl
      | [], hcp => exact hcp.elim
      | _ :: _ :: _, hcp => exact hcp.2.elim
    · rintro e w' ⟨rfl, h1, h2⟩
      exact ⟨_, rfl, rfl, Srt.srt_in hin, h1, h2⟩
  · cases hF'
noncomputable def E8 : En := ⟨Go.Proofs.Try.prog, 59, Go.Proofs.Try.f8.ntmps, none, false, [29]⟩
noncomputable def S8 : Sig := ⟨[.s, .s], [(.int .i64), (.rd .u64)], true, [.s, .s], [(.rd .u64), .err], true⟩
noncomputable def B8 : Go.Code := Go.Proofs.Try.f8.body.get!
def vec_Sort.l0 : Nat → List Int → List Int → Int → Int → Int → Option (List Int × Option Int)
 | 0, _, _, _, _, _ => none
 | k + 1, x8, x22, x23, x24, x2000 => if x24 < x23 then (if 0 ≤ x24 then (if x24 < (nI x22.length) then (if 0 ≤ (wrap64 (64 - x2000)) then (if x24 < (nI x8.length) then (vec_Sort.l0 k (x8.set ((x24 : Int).toNat) (shr .u64 (shl .u64 (rd x22 x24) (wrap64 (64 - x2000))) (wrap64 (64 - x2000)))) x22 x23 (wrap64 (x24 + 1)) x2000) else (none)) else (none)) else (none)) else (none)) else ((slices_SortFunc.f x2000 x8).bind fun t101 => (some (t101, none)))
def vec_Sort.f (k : Nat) (a0 : Int) (l1 : List Int) : Option (List Int × Option Int) := (order_Neg.f a0 0).bind fun t100 => (if t100.2.isNone = true then (if (((nI l1.length) : Int).toNat) ≤ 35184372088832 then (vec_Sort.l0 k (List.replicate (((nI l1.length) : Int).toNat) 0 : List Int) l1 (nI l1.length) 0 a0) else (none)) else (some (([] : List Int), some (t100.2.getD 0))))
--@ok
def vec_Sort.l0R (k : Nat) (x8 : List Int) (x22 : List Int) (x23 : Int) (x24 : Int) (x2000 : Int) : Option (List Int × Option Int) := if x24 < x23 then (if 0 ≤ x24 then (if x24 < (nI x22.length) then (if 0 ≤ (wrap64 (64 - x2000)) then (if 0 ≤ (wrap64 (64 - x2000)) then (if 0 ≤ x24 then (if x24 < (nI x8.length) then (vec_Sort.l0 k (x8.set ((x24 : Int).toNat) (shr .u64 (shl .u64 (rd x22 x24) (wrap64 (64 - x2000))) (wrap64 (64 - x2000)))) x22 x23 (wrap64 (x24 + 1)) x2000) else (none)) else (none)) else (none)) else (none)) else (none)) else (none)) else ((slices_SortFunc.f x2000 x8).bind fun t101 => (some (t101, none)))
theorem vec_Sort.l0E (k : Nat) (x8 : List Int) (x22 : List Int) (x23 : Int) (x24 : Int) (x2000 : Int) : vec_Sort.l0R k x8 x22 x23 x24 x2000 = vec_Sort.l0 (k + 1) x8 x22 x23 x24 x2000 := by
  unfold vec_Sort.l0R
  rw [vec_Sort.l0]
  exact iteC (fun h0 => iteC (fun h1 => iteC (fun h2 => iteC (fun h3 => (if_pos h3).trans ((if_pos h1).trans (iteC (fun h4 => rfl) (fun h4 => rfl)))) (fun h3 => rfl)) (fun h2 => rfl)) (fun h1 => rfl)) (fun h0 => bindC fun _ => rfl)
noncomputable def vec_Sort.c (k : Nat) : Con := S8.con fun x => vec_Sort.f k x.1 x.2
noncomputable def vec_Sort.G (k : Nat) : List (Go.FuncId × Cn) := [(28, .f order_Neg.c), (29, .s slices_SortFunc.c)]
noncomputable def vec_Sort.cuts : List (Cut (TT S8.sb)) := [⟨[6, 4, 1, 0, 1, 1, 1], [.lst 8 .u64 35, .sc 22 (.rd .u64), .sc 23 (.int .i64), .sc 24 (.int .i64), .box 2 3 [.int .i64]], fun k x => vec_Sort.l0 k x.1 x.2.1 x.2.2.1 x.2.2.2.1 x.2.2.2.2⟩]
theorem vec_Sort.w0 (k : Nat) (x : ET [.lst 8 .u64 35, .sc 22 (.rd .u64), .sc 23 (.int .i64), .sc 24 (.int .i64), .box 2 3 [.int .i64]]) : walk E8 (vec_Sort.G k) (cutsAt E8 k vec_Sort.cuts) (retE E8 Go.Proofs.Try.f8.results.toList S8) 4000 true (stackAt B8 [6, 4, 1, 0, 1, 1, 1]) (mkE [.lst 8 .u64 35, .sc 22 (.rd .u64), .sc 23 (.int .i64), .sc 24 (.int .i64), .box 2 3 [.int .i64]] x St.nil) = vec_Sort.l0 (k + 1) x.1 x.2.1 x.2.2.1 x.2.2.2.1 x.2.2.2.2 := Eq.trans (b := vec_Sort.l0R k x.1 x.2.1 x.2.2.1 x.2.2.2.1 x.2.2.2.2) (by kernel_rfl) (vec_Sort.l0E k x.1 x.2.1 x.2.2.1 x.2.2.2.1 x.2.2.2.2)
theorem vec_Sort.w (k : Nat) (x : TT S8.sa) : walk E8 (vec_Sort.G k) (cutsAt E8 k vec_Sort.cuts) (retE E8 Go.Proofs.Try.f8.results.toList S8) 4000 true [([], .code B8)] (St0 S8 x) = vec_Sort.f k x.1 x.2 := by kernel_rfl
theorem vec_Sort.ok (k : Nat) : FnOk Go.Proofs.Try.prog E8.eT 8 (vec_Sort.c k) := FnOk.walk (E := E8) (body := B8) Go.Proofs.Try.func8 rfl (by rfl) Go.Proofs.Try.ntmps8 rfl S8 rfl (fun k x => vec_Sort.f k x.1 x.2) vec_Sort.G (fun k => ⟨order_Neg.ok, slices_SortFunc.ok, trivial⟩) 4000 vec_Sort.cuts ⟨⟨fun _ => rfl, fun k x q h => (vec_Sort.w0 k x).trans h⟩, trivial⟩ (fun k x r h => (vec_Sort.w k x).trans h) k
noncomputable def E10 : En := ⟨Go.Proofs.Try.prog, 59, Go.Proofs.Try.f10.ntmps, none, false, []⟩
noncomputable def S10 : Sig := ⟨[.s, .s], [(.rd .u64), (.rd .u64)], false, [.s], [.bool], false⟩
noncomputable def B10 : Go.Code := Go.Proofs.Try.f10.body.get!
def vernierref04_Same.l0 : Nat → List Int → List Int → Int → Option (Bool)
 | 0, _, _, _ => none
 | k + 1, x0, x1, x5 => if x5 < (nI x0.length) then (if 0 ≤ x5 then (if x5 < (nI x1.length) then (if (rd x0 x5) = (rd x1 x5) then (vernierref04_Same.l0 k x0 x1 (wrap64 (x5 + 1))) else (some false)) else (none)) else (none)) else (some true)
def vernierref04_Same.f (k : Nat) (l0 : List Int) (l1 : List Int) : Option (Bool) := if (nI l0.length) = (nI l1.length) then (vernierref04_Same.l0 k l0 l1 0) else (some false)
--@ok
def vernierref04_Same.l0R (k : Nat) (x0 : List Int) (x1 : List Int) (x5 : Int) : Option (Bool) := if x5 < (nI x0.length) then (if 0 ≤ x5 then (if x5 < (nI x0.length) then (if 0 ≤ x5 then (if x5 < (nI x1.length) then (if (rd x0 x5) = (rd x1 x5) then (vernierref04_Same.l0 k x0 x1 (wrap64 (x5 + 1))) else (some false)) else (none)) else (none)) else (none)) else (none)) else (some true)
theorem vernierref04_Same.l0E (k : Nat) (x0 : List Int) (x1 : List Int) (x5 : Int) : vernierref04_Same.l0R k x0 x1 x5 = vernierref04_Same.l0 (k + 1) x0 x1 x5 := by
  unfold vernierref04_Same.l0R
  rw [vernierref04_Same.l0]
  exact iteC (fun h0 => iteC (fun h1 => (if_pos h0).trans ((if_pos h1).trans (iteC (fun h2 => iteC (fun h3 => rfl) (fun h3 => rfl)) (fun h2 => rfl)))) (fun h1 => rfl)) (fun h0 => rfl)
noncomputable def vernierref04_Same.c (k : Nat) : Con := S10.con fun x => vernierref04_Same.f k x.1 x.2
noncomputable def vernierref04_Same.G (k : Nat) : List (Go.FuncId × Cn) := []
noncomputable def vernierref04_Same.cuts : List (Cut (TT S10.sb)) := [⟨[6, 4, 1, 0, 1, 1], [.sc 0 (.rd .u64), .sc 1 (.rd .u64), .sc 5 (.int .i64)], fun k x => vernierref04_Same.l0 k x.1 x.2.1 x.2.2⟩]
theorem vernierref04_Same.w0 (k : Nat) (x : ET [.sc 0 (.rd .u64), .sc 1 (.rd .u64), .sc 5 (.int .i64)]) : walk E10 (vernierref04_Same.G k) (cutsAt E10 k vernierref04_Same.cuts) (retE E10 Go.Proofs.Try.f10.results.toList S10) 4000 true (stackAt B10 [6, 4, 1, 0, 1, 1]) (mkE [.sc 0 (.rd .u64), .sc 1 (.rd .u64), .sc 5 (.int .i64)] x St.nil) = vernierref04_Same.l0 (k + 1) x.1 x.2.1 x.2.2 := Eq.trans (b := vernierref04_Same.l0R k x.1 x.2.1 x.2.2) (by kernel_rfl) (vernierref04_Same.l0E k x.1 x.2.1 x.2.2)
theorem vernierref04_Same.w (k : Nat) (x : TT S10.sa) : walk E10 (vernierref04_Same.G k) (cutsAt E10 k vernierref04_Same.cuts) (retE E10 Go.Proofs.Try.f10.results.toList S10) 4000 true [([], .code B10)] (St0 S10 x) = vernierref04_Same.f k x.1 x.2 := by kernel_rfl
theorem vernierref04_Same.ok (k : Nat) : FnOk Go.Proofs.Try.prog E10.eT 10 (vernierref04_Same.c k) := FnOk.walk (E := E10) (body := B10) Go.Proofs.Try.func10 rfl (by rfl) Go.Proofs.Try.ntmps10 rfl S10 rfl (fun k x => vernierref04_Same.f k x.1 x.2) vernierref04_Same.G (fun k => trivial) 4000 vernierref04_Same.cuts ⟨⟨fun _ => rfl, fun k x q h => (vernierref04_Same.w0 k x).trans h⟩, trivial⟩ (fun k x r h => (vernierref04_Same.w k x).trans h) k
noncomputable def E60 : En := ⟨Go.Proofs.Try.prog, 59, Go.Proofs.Try.f60.ntmps, none, false, []⟩
noncomputable def S60 : Sig := ⟨[.s, .s], [(.int .i64), (.int .u64)], true, [.s, .s], [(.int .i64), .err], false⟩
noncomputable def B60 : Go.Code := Go.Proofs.Try.f60.body.get!
def shape_Kind.f (a0 : Int) (a1 : Int) : Option (Int × Option Int) := (shape_Fold.f a0 a1).bind fun t100 => (if t100.2.isNone = true then (if t100.1 = 0 then (some (0, none)) else (if 0 ≤ (wrap64 (a0 - 1)) then (if t100.1 = (shl .u64 1 (wrap64 (a0 - 1))) then (some (2, none)) else (some (1, none))) else (none))) else (some (0, some (t100.2.getD 0))))
--@ok
noncomputable def shape_Kind.c : Con := S60.con fun x => shape_Kind.f x.1 x.2
noncomputable def shape_Kind.G (k : Nat) : List (Go.FuncId × Cn) := [(52, .f shape_Fold.c)]
noncomputable def shape_Kind.cuts : List (Cut (TT S60.sb)) := []
theorem shape_Kind.w (k : Nat) (x : TT S60.sa) : walk E60 (shape_Kind.G k) (cutsAt E60 k shape_Kind.cuts) (retE E60 Go.Proofs.Try.f60.results.toList S60) 4000 true [([], .code B60)] (St0 S60 x) = shape_Kind.f x.1 x.2 := by kernel_rfl
theorem shape_Kind.ok : FnOk Go.Proofs.Try.prog E60.eT 60 (shape_Kind.c) := FnOk.walk (E := E60) (body := B60) Go.Proofs.Try.func60 rfl (by rfl) Go.Proofs.Try.ntmps60 rfl S60 rfl (fun k x => shape_Kind.f x.1 x.2) shape_Kind.G (fun k => ⟨shape_Fold.ok, trivial⟩) 4000 shape_Kind.cuts trivial (fun k x r h => (shape_Kind.w k x).trans h) 0
noncomputable def S64 : Sig := ⟨[.s], [(.int .u64)], false, [.s], [(.int .i64)], false⟩
def bits_Len64.f (a0 : Int) : Option (Int) := if 0 ≤ a0 ∧ a0 ≤ 18446744073709551615 then some (Lib.bitLen a0.toNat : Int) else none
--@ok
noncomputable def bits_Len64.c : Con := S64.con fun x => bits_Len64.f x
theorem bits_Len64.ok : FnOk Go.Proofs.Try.prog 59 64 bits_Len64.c := by
  intro (x : Int) (r : Int) w ok vs hF hv
  refine .inl ⟨enters Go.Proofs.Try.func64 rfl rfl vs w, ?_⟩
  have hF' : bits_Len64.f x = some r := hF
  unfold bits_Len64.f at hF'
  split at hF'
  · rename_i hx
    injection hF' with hF'
    subst hF'
    obtain ⟨l⟩ := vs
    match l, hv with
    | [], h => exact h.elim
    | [v], h =>
      obtain ⟨⟨rfl, -⟩, -⟩ := h
      refine (GLen.len64 x w hx.1 hx.2).mono ?_
      rintro e w' ⟨rfl, rfl⟩
      refine ⟨_, rfl, ⟨_, rfl, rfl, ?_, by simp, by simp⟩, .refl _ _⟩
      have h64 : (2 : Nat) ^ 64 = 18446744073709551616 := by decide
      have := Lib.bitLen_le x.toNat 64 (Nat.le_refl _) (by rw [h64]; have := hx.2; have := hx.1; generalize (show Int from x) = y at *; omega)
      constructor <;> simp only [kLo, kHi] <;> omega
    | _ :: _ :: _, h => exact h.2.elim
  · cases hF'
noncomputable def E45 : En := ⟨Go.Proofs.Try.prog, 59, Go.Proofs.Try.f45.ntmps, none, false, []⟩
noncomputable def S45 : Sig := ⟨[.s], [(.int .u64)], false, [.s], [(.int .i64)], false⟩
noncomputable def B45 : Go.Code := Go.Proofs.Try.f45.body.get!
def bits_LeadingZeros64.f (a0 : Int) : Option (Int) := (bits_Len64.f a0).bind fun t100 => (some (wrap64 (64 - t100)))
--@ok
noncomputable def bits_LeadingZeros64.c : Con := S45.con fun x => bits_LeadingZeros64.f x
noncomputable def bits_LeadingZeros64.G (k : Nat) : List (Go.FuncId × Cn) := [(64, .f bits_Len64.c)]
noncomputable def bits_LeadingZeros64.cuts : List (Cut (TT S45.sb)) := []
theorem bits_LeadingZeros64.w (k : Nat) (x : TT S45.sa) : walk E45 (bits_LeadingZeros64.G k) (cutsAt E45 k bits_LeadingZeros64.cuts) (retE E45 Go.Proofs.Try.f45.results.toList S45) 4000 true [([], .code B45)] (St0 S45 x) = bits_LeadingZeros64.f x := by kernel_rfl
theorem bits_LeadingZeros64.ok : FnOk Go.Proofs.Try.prog E45.eT 45 (bits_LeadingZeros64.c) := FnOk.walk (E := E45) (body := B45) Go.Proofs.Try.func45 rfl (by rfl) Go.Proofs.Try.ntmps45 rfl S45 rfl (fun k x => bits_LeadingZeros64.f x) bits_LeadingZeros64.G (fun k => ⟨bits_Len64.ok, trivial⟩) 4000 bits_LeadingZeros64.cuts trivial (fun k x r h => (bits_LeadingZeros64.w k x).trans h) 0
noncomputable def E86 : En := ⟨Go.Proofs.Try.prog, 59, Go.Proofs.Try.f86.ntmps, none, false, []⟩
noncomputable def S86 : Sig := ⟨[.s, .s], [(.int .u64), (.int .i64)], true, [.s, .s, .s], [.bool, (.int .i64), .err], false⟩
noncomputable def B86 : Go.Code := Go.Proofs.Try.f86.body.get!
def lead_Run.j0 : Nat → Int → Int → Bool → Option (Bool × Int × Option Int)
 | 0, _, _, _ => none
 | k + 1, x0, x1, x13 => if x13 = true then (some (false, 0, some 1)) else (if 0 ≤ (wrap64 (64 - x1)) then (if ((shl .u64 x0 (wrap64 (64 - x1))) / 9223372036854775808) = 1 then ((bits_LeadingZeros64.f (Go.bits .xor .u64 18446744073709551615 (shl .u64 x0 (wrap64 (64 - x1))))).bind fun t100 => (some (((shl .u64 x0 (wrap64 (64 - x1))) / 9223372036854775808) == 1, mn t100 x1, none))) else ((bits_LeadingZeros64.f (shl .u64 x0 (wrap64 (64 - x1)))).bind fun t101 => (some (((shl .u64 x0 (wrap64 (64 - x1))) / 9223372036854775808) == 1, mn t101 x1, none)))) else (none))
def lead_Run.f (k : Nat) (a0 : Int) (a1 : Int) : Option (Bool × Int × Option Int) := if a1 < 1 then (lead_Run.j0 k a0 a1 true) else (lead_Run.j0 k a0 a1 (decide (a1 > 64)))
--@ok
noncomputable def lead_Run.c (k : Nat) : Con := S86.con fun x => lead_Run.f k x.1 x.2
noncomputable def lead_Run.G (k : Nat) : List (Go.FuncId × Cn) := [(45, .f bits_LeadingZeros64.c)]
noncomputable def lead_Run.cuts : List (Cut (TT S86.sb)) := [⟨[1, 0, 1], [.sc 0 (.int .u64), .sc 1 (.int .i64), .sc 13 (.bool)], fun k x => lead_Run.j0 k x.1 x.2.1 x.2.2⟩]
theorem lead_Run.w0 (k : Nat) (x : ET [.sc 0 (.int .u64), .sc 1 (.int .i64), .sc 13 (.bool)]) : walk E86 (lead_Run.G k) (cutsAt E86 k lead_Run.cuts) (retE E86 Go.Proofs.Try.f86.results.toList S86) 4000 true (stackAt B86 [1, 0, 1]) (mkE [.sc 0 (.int .u64), .sc 1 (.int .i64), .sc 13 (.bool)] x St.nil) = lead_Run.j0 (k + 1) x.1 x.2.1 x.2.2 := by kernel_rfl
theorem lead_Run.w (k : Nat) (x : TT S86.sa) : walk E86 (lead_Run.G k) (cutsAt E86 k lead_Run.cuts) (retE E86 Go.Proofs.Try.f86.results.toList S86) 4000 true [([], .code B86)] (St0 S86 x) = lead_Run.f k x.1 x.2 := by kernel_rfl
theorem lead_Run.ok (k : Nat) : FnOk Go.Proofs.Try.prog E86.eT 86 (lead_Run.c k) := FnOk.walk (E := E86) (body := B86) Go.Proofs.Try.func86 rfl (by rfl) Go.Proofs.Try.ntmps86 rfl S86 rfl (fun k x => lead_Run.f k x.1 x.2) lead_Run.G (fun k => ⟨bits_LeadingZeros64.ok, trivial⟩) 4000 lead_Run.cuts ⟨⟨fun _ => rfl, fun k x q h => (lead_Run.w0 k x).trans h⟩, trivial⟩ (fun k x r h => (lead_Run.w k x).trans h) k
noncomputable def E109 : En := ⟨Go.Proofs.Try.prog, 59, Go.Proofs.Try.f109.ntmps, none, false, []⟩
noncomputable def S109 : Sig := ⟨[.s, .s], [(.int .i64), (.int .i64)], false, [.s], [.bool], false⟩
noncomputable def B109 : Go.Code := Go.Proofs.Try.f109.body.get!
def lead_field.f (a0 : Int) (a1 : Int) : Option (Bool) := if a0 ≥ 0 then (if a0 ≤ 64 then (if a1 ≥ 0 then (some (decide (a1 ≤ (wrap64 (64 - a0))))) else (some false)) else (some false)) else (some false)
--@ok
noncomputable def lead_field.c : Con := S109.con fun x => lead_field.f x.1 x.2
noncomputable def lead_field.G (k : Nat) : List (Go.FuncId × Cn) := []
noncomputable def lead_field.cuts : List (Cut (TT S109.sb)) := []
theorem lead_field.w (k : Nat) (x : TT S109.sa) : walk E109 (lead_field.G k) (cutsAt E109 k lead_field.cuts) (retE E109 Go.Proofs.Try.f109.results.toList S109) 4000 true [([], .code B109)] (St0 S109 x) = lead_field.f x.1 x.2 := by kernel_rfl
theorem lead_field.ok : FnOk Go.Proofs.Try.prog E109.eT 109 (lead_field.c) := FnOk.walk (E := E109) (body := B109) Go.Proofs.Try.func109 rfl (by rfl) Go.Proofs.Try.ntmps109 rfl S109 rfl (fun k x => lead_field.f x.1 x.2) lead_field.G (fun k => trivial) 4000 lead_field.cuts trivial (fun k x r h => (lead_field.w k x).trans h) 0
noncomputable def E87 : En := ⟨Go.Proofs.Try.prog, 59, Go.Proofs.Try.f87.ntmps, none, false, []⟩
noncomputable def S87 : Sig := ⟨[.s, .s, .s], [(.int .u64), (.int .i64), (.int .i64)], true, [.s, .s], [(.int .u64), .err], false⟩
noncomputable def B87 : Go.Code := Go.Proofs.Try.f87.body.get!
def lead_Field.f (a0 : Int) (a1 : Int) (a2 : Int) : Option (Int × Option Int) := (lead_field.f a1 a2).bind fun t100 => (if t100 = true then (if 0 ≤ a1 then ((lead_ones.f a2).bind fun t101 => (some (Go.bits .and .u64 (shr .u64 a0 a1) t101, none))) else (none)) else (some (0, some 1)))
--@ok
noncomputable def lead_Field.c : Con := S87.con fun x => lead_Field.f x.1 x.2.1 x.2.2
noncomputable def lead_Field.G (k : Nat) : List (Go.FuncId × Cn) := [(101, .f lead_ones.c), (109, .f lead_field.c)]
noncomputable def lead_Field.cuts : List (Cut (TT S87.sb)) := []
theorem lead_Field.w (k : Nat) (x : TT S87.sa) : walk E87 (lead_Field.G k) (cutsAt E87 k lead_Field.cuts) (retE E87 Go.Proofs.Try.f87.results.toList S87) 4000 true [([], .code B87)] (St0 S87 x) = lead_Field.f x.1 x.2.1 x.2.2 := by kernel_rfl
theorem lead_Field.ok : FnOk Go.Proofs.Try.prog E87.eT 87 (lead_Field.c) := FnOk.walk (E := E87) (body := B87) Go.Proofs.Try.func87 rfl (by rfl) Go.Proofs.Try.ntmps87 rfl S87 rfl (fun k x => lead_Field.f x.1 x.2.1 x.2.2) lead_Field.G (fun k => ⟨lead_ones.ok, lead_field.ok, trivial⟩) 4000 lead_Field.cuts trivial (fun k x r h => (lead_Field.w k x).trans h) 0
noncomputable def E61 : En := ⟨Go.Proofs.Try.prog, 59, Go.Proofs.Try.f61.ntmps, none, false, []⟩
noncomputable def S61 : Sig := ⟨[.s, .s], [(.int .i64), (.int .u64)], true, [.g 8, .s], [.bool, .bool, (.int .i64), (.int .i64), (.int .i64), (.int .i64), (.int .i64), (.int .u64), .err], false⟩
noncomputable def B61 : Go.Code := Go.Proofs.Try.f61.body.get!
mutual
def codec_Split.j0 : Nat → Int → Int → Option Int → Bool → Option (Bool × Bool × Int × Int × Int × Int × Int × Int × Option Int)
 | 0, _, _, _, _ => none
 | k + 1, x0, x1, x7, x25 => if x25 = true then (some (false, false, 0, 0, 0, 0, 0, 0, x7)) else ((shape_Rank.f x0 x1).bind fun t101 => (if t101.1 < 0 then (codec_Split.j1 k x0 (IntKind.u64.wrap (-x1)) true) else (codec_Split.j1 k x0 x1 false)))
def codec_Split.j1 : Nat → Int → Int → Bool → Option (Bool × Bool × Int × Int × Int × Int × Int × Int × Option Int)
 | 0, _, _, _ => none
 | k + 1, x0, x1, x8000 => (lead_Run.f k x1 (wrap64 (x0 - 1))).bind fun t102 => (if t102.1 = true then ((lead_Field.f x1 (wrap64 ((mx (wrap64 ((wrap64 ((wrap64 (x0 - 1)) - t102.2.1)) - 1)) 0) - (mn (mx (wrap64 ((wrap64 ((wrap64 (x0 - 1)) - t102.2.1)) - 1)) 0) 2))) (mn (mx (wrap64 ((wrap64 ((wrap64 (x0 - 1)) - t102.2.1)) - 1)) 0) 2)).bind fun t103 => ((lead_Field.f x1 0 (wrap64 ((mx (wrap64 ((wrap64 ((wrap64 (x0 - 1)) - t102.2.1)) - 1)) 0) - (mn (mx (wrap64 ((wrap64 ((wrap64 (x0 - 1)) - t102.2.1)) - 1)) 0) 2)))).bind fun t104 => (some (x8000, t102.1, t102.2.1, wrap64 (t102.2.1 - 1), mn (mx (wrap64 ((wrap64 ((wrap64 (x0 - 1)) - t102.2.1)) - 1)) 0) 2, wrap64 ((wrap64 t103.1) * (2 ^ (((2 - (mn (mx (wrap64 ((wrap64 ((wrap64 (x0 - 1)) - t102.2.1)) - 1)) 0) 2)) : Int).toNat))), wrap64 ((mx (wrap64 ((wrap64 ((wrap64 (x0 - 1)) - t102.2.1)) - 1)) 0) - (mn (mx (wrap64 ((wrap64 ((wrap64 (x0 - 1)) - t102.2.1)) - 1)) 0) 2)), t104.1, none)))) else ((lead_Field.f x1 (wrap64 ((mx (wrap64 ((wrap64 ((wrap64 (x0 - 1)) - t102.2.1)) - 1)) 0) - (mn (mx (wrap64 ((wrap64 ((wrap64 (x0 - 1)) - t102.2.1)) - 1)) 0) 2))) (mn (mx (wrap64 ((wrap64 ((wrap64 (x0 - 1)) - t102.2.1)) - 1)) 0) 2)).bind fun t105 => ((lead_Field.f x1 0 (wrap64 ((mx (wrap64 ((wrap64 ((wrap64 (x0 - 1)) - t102.2.1)) - 1)) 0) - (mn (mx (wrap64 ((wrap64 ((wrap64 (x0 - 1)) - t102.2.1)) - 1)) 0) 2)))).bind fun t106 => (some (x8000, t102.1, t102.2.1, wrap64 (-t102.2.1), mn (mx (wrap64 ((wrap64 ((wrap64 (x0 - 1)) - t102.2.1)) - 1)) 0) 2, wrap64 ((wrap64 t105.1) * (2 ^ (((2 - (mn (mx (wrap64 ((wrap64 ((wrap64 (x0 - 1)) - t102.2.1)) - 1)) 0) 2)) : Int).toNat))), wrap64 ((mx (wrap64 ((wrap64 ((wrap64 (x0 - 1)) - t102.2.1)) - 1)) 0) - (mn (mx (wrap64 ((wrap64 ((wrap64 (x0 - 1)) - t102.2.1)) - 1)) 0) 2)), t106.1, none)))))
end
def codec_Split.f (k : Nat) (a0 : Int) (a1 : Int) : Option (Bool × Bool × Int × Int × Int × Int × Int × Int × Option Int) := (shape_Kind.f a0 a1).bind fun t100 => (if t100.2.isNone = true then (codec_Split.j0 k a0 a1 none (t100.1 != 1)) else (codec_Split.j0 k a0 a1 (some (t100.2.getD 0)) true))
--@ok
noncomputable def codec_Split.c (k : Nat) : Con := S61.con fun x => codec_Split.f k x.1 x.2
noncomputable def codec_Split.G (k : Nat) : List (Go.FuncId × Cn) := [(36, .f shape_Rank.c), (60, .f shape_Kind.c), (86, .f (lead_Run.c k)), (87, .f lead_Field.c)]
noncomputable def codec_Split.cuts : List (Cut (TT S61.sb)) := [⟨[1, 0, 1, 1], [.sc 0 (.int .i64), .sc 1 (.int .u64), .sc 7 (.err), .sc 25 (.bool), .box 4 108 [.bool, .bool, .int .i64, .int .i64, .int .i64, .int .i64, .int .i64, .int .u64]], fun k x => codec_Split.j0 k x.1 x.2.1 x.2.2.1 x.2.2.2.1⟩, ⟨[1, 1, 1, 1, 1], [.sc 0 (.int .i64), .sc 1 (.int .u64), .box 4 108 [.bool, .bool, .int .i64, .int .i64, .int .i64, .int .i64, .int .i64, .int .u64], .box 8 108 [.bool, .bool, .int .i64, .int .i64, .int .i64, .int .i64, .int .i64, .int .u64]], fun k x => codec_Split.j1 k x.1 x.2.1 x.2.2.2.1⟩]
theorem codec_Split.w0 (k : Nat) (x : ET [.sc 0 (.int .i64), .sc 1 (.int .u64), .sc 7 (.err), .sc 25 (.bool), .box 4 108 [.bool, .bool, .int .i64, .int .i64, .int .i64, .int .i64, .int .i64, .int .u64]]) : walk E61 (codec_Split.G k) (cutsAt E61 k codec_Split.cuts) (retE E61 Go.Proofs.Try.f61.results.toList S61) 4000 true (stackAt B61 [1, 0, 1, 1]) (mkE [.sc 0 (.int .i64), .sc 1 (.int .u64), .sc 7 (.err), .sc 25 (.bool), .box 4 108 [.bool, .bool, .int .i64, .int .i64, .int .i64, .int .i64, .int .i64, .int .u64]] x St.nil) = codec_Split.j0 (k + 1) x.1 x.2.1 x.2.2.1 x.2.2.2.1 := by kernel_rfl
theorem codec_Split.w1 (k : Nat) (x : ET [.sc 0 (.int .i64), .sc 1 (.int .u64), .box 4 108 [.bool, .bool, .int .i64, .int .i64, .int .i64, .int .i64, .int .i64, .int .u64], .box 8 108 [.bool, .bool, .int .i64, .int .i64, .int .i64, .int .i64, .int .i64, .int .u64]]) : walk E61 (codec_Split.G k) (cutsAt E61 k codec_Split.cuts) (retE E61 Go.Proofs.Try.f61.results.toList S61) 4000 true (stackAt B61 [1, 1, 1, 1, 1]) (mkE [.sc 0 (.int .i64), .sc 1 (.int .u64), .box 4 108 [.bool, .bool, .int .i64, .int .i64, .int .i64, .int .i64, .int .i64, .int .u64], .box 8 108 [.bool, .bool, .int .i64, .int .i64, .int .i64, .int .i64, .int .i64, .int .u64]] x St.nil) = codec_Split.j1 (k + 1) x.1 x.2.1 x.2.2.2.1 := by kernel_rfl
theorem codec_Split.w (k : Nat) (x : TT S61.sa) : walk E61 (codec_Split.G k) (cutsAt E61 k codec_Split.cuts) (retE E61 Go.Proofs.Try.f61.results.toList S61) 4000 true [([], .code B61)] (St0 S61 x) = codec_Split.f k x.1 x.2 := by kernel_rfl
theorem codec_Split.ok (k : Nat) : FnOk Go.Proofs.Try.prog E61.eT 61 (codec_Split.c k) := FnOk.walk (E := E61) (body := B61) Go.Proofs.Try.func61 rfl (by rfl) Go.Proofs.Try.ntmps61 rfl S61 rfl (fun k x => codec_Split.f k x.1 x.2) codec_Split.G (fun k => ⟨shape_Rank.ok, shape_Kind.ok, lead_Run.ok k, lead_Field.ok, trivial⟩) 4000 codec_Split.cuts ⟨⟨fun _ => rfl, fun k x q h => (codec_Split.w0 k x).trans h⟩, ⟨fun _ => rfl, fun k x q h => (codec_Split.w1 k x).trans h⟩, trivial⟩ (fun k x r h => (codec_Split.w k x).trans h) k
noncomputable def E38 : En := ⟨Go.Proofs.Try.prog, 59, Go.Proofs.Try.f38.ntmps, none, false, []⟩
noncomputable def S38 : Sig := ⟨[.s, .s], [(.int .i64), (.int .u64)], true, [.g 4, .s], [(.int .i64), .bool, (.int .i64), (.int .u64), .err], false⟩
noncomputable def B38 : Go.Code := Go.Proofs.Try.f38.body.get!
def codec_Decode.f (k : Nat) (a0 : Int) (a1 : Int) : Option (Int × Bool × Int × Int × Option Int) := (shape_Kind.f a0 a1).bind fun t100 => (if t100.2.isNone = true then (if t100.1 = 1 then ((codec_Split.f k a0 a1).bind fun t101 => (if 0 ≤ (wrap64 (63 - t101.2.2.2.2.2.2.1)) then (some (t100.1, t101.1, wrap64 ((wrap64 (4 * t101.2.2.2.1)) + t101.2.2.2.2.2.1), Go.bits .or .u64 9223372036854775808 (shl .u64 t101.2.2.2.2.2.2.2.1 (wrap64 (63 - t101.2.2.2.2.2.2.1))), none)) else (none))) else (some (t100.1, false, 0, 0, none))) else (some (t100.1, false, 0, 0, some (t100.2.getD 0))))
--@ok
noncomputable def codec_Decode.c (k : Nat) : Con := S38.con fun x => codec_Decode.f k x.1 x.2
noncomputable def codec_Decode.G (k : Nat) : List (Go.FuncId × Cn) := [(60, .f shape_Kind.c), (61, .f (codec_Split.c k))]
noncomputable def codec_Decode.cuts : List (Cut (TT S38.sb)) := []
theorem codec_Decode.w (k : Nat) (x : TT S38.sa) : walk E38 (codec_Decode.G k) (cutsAt E38 k codec_Decode.cuts) (retE E38 Go.Proofs.Try.f38.results.toList S38) 4000 true [([], .code B38)] (St0 S38 x) = codec_Decode.f k x.1 x.2 := by kernel_rfl
theorem codec_Decode.ok (k : Nat) : FnOk Go.Proofs.Try.prog E38.eT 38 (codec_Decode.c k) := FnOk.walk (E := E38) (body := B38) Go.Proofs.Try.func38 rfl (by rfl) Go.Proofs.Try.ntmps38 rfl S38 rfl (fun k x => codec_Decode.f k x.1 x.2) codec_Decode.G (fun k => ⟨shape_Kind.ok, codec_Split.ok k, trivial⟩) 4000 codec_Decode.cuts trivial (fun k x r h => (codec_Decode.w k x).trans h) k
noncomputable def S19 : RSig := ⟨none, 0, false, false, [.s], [(.int .i64)], some (.ptr ⟨[.int .i64, .bool, .int .i64], some (.u64, 16)⟩), 80, true, [.s], [.err], true⟩
noncomputable def E19 (gg : Nat) : En := enR Go.Proofs.Try.prog 59 Go.Proofs.Try.f19.ntmps [] S19 gg
noncomputable def B19 : Go.Code := Go.Proofs.Try.f19.body.get!
def accum_New.f (k : Nat) (a0 : Int) : Option (Unit × (Bool × (Int × Bool × Int × List Int)) × (Option Int)) := (codec_Decode.f k a0 0).bind fun t100 => (if t100.2.2.2.2.isNone = true then (some ((), (true, (a0, false, 0, ([0, 0, 0, 0, 0, 0, 0, 0, 0, 0, 0, 0, 0, 0, 0, 0] : List Int))), none)) else (some ((), (false, (0, false, 0, ([] : List Int))), some (t100.2.2.2.2.getD 0))))
--@ok
noncomputable def accum_New.c (k : Nat) : RCon := S19.con fun x y => accum_New.f k y
noncomputable def accum_New.G (k : Nat) : List (Go.FuncId × Cn) := [(38, .f (codec_Decode.c k))]
noncomputable def accum_New.cuts : List (Cut (RSig.R S19)) := []
theorem accum_New.w (gg : Nat) (k : Nat) (x : RcT S19.rL S19.win) (y : TT S19.sa) : walk (E19 gg) (accum_New.G k) (cutsAt (E19 gg) k accum_New.cuts) (retR (E19 gg) Go.Proofs.Try.f19.results.toList S19) 4000 true [([], .code B19)] (St0R S19 x y) = accum_New.f k y := by kernel_rfl
theorem accum_New.ok (k : Nat) : FnOkR Go.Proofs.Try.prog (E19 0).eT 19 (accum_New.c k) := FnOkR.walk (P := (E19 0).P) (eT := (E19 0).eT) (N := (E19 0).N) (wf := (E19 0).wf) (body := B19) Go.Proofs.Try.func19 rfl (by rfl) Go.Proofs.Try.ntmps19 S19 (by rfl) (fun k x y => accum_New.f k y) accum_New.G (fun k => ⟨codec_Decode.ok k, trivial⟩) 4000 accum_New.cuts (fun gg => trivial) (fun gg k x y r h => (accum_New.w gg k x y).trans h) k
end Go.Proofs.Ytbpcfhhcoklinaa.Fn
set_option maxRecDepth 100000
set_option linter.unusedVariables false
noncomputable section
namespace Go.Proofs.Ytbpcfhhcoklinaa.Fn
open Go Go.RowKit Go.Proofs.Ytbpcfhhcoklinaa.Ab
noncomputable def S41 : RSig := ⟨some ⟨[.int .i64, .bool, .int .i64], some (.u64, 16)⟩, 80, false, true, [], [], none, 0, false, [.s], [(.int .i64)], false⟩
noncomputable def E41 (gg : Nat) : En := enR Go.Proofs.Try.prog 59 Go.Proofs.Try.f41.ntmps [] S41 gg
noncomputable def B41 : Go.Code := Go.Proofs.Try.f41.body.get!
def accum_Acc_size.f (c0 : Int) (c1 : Bool) (c2 : Int) (c3 : List Int) : Option (Unit × Unit × (Int)) := some ((), (), wrap64 (Int.tdiv c0 4))
--@ok
noncomputable def accum_Acc_size.c : RCon := S41.con fun x y => accum_Acc_size.f x.1 x.2.1 x.2.2.1 x.2.2.2
noncomputable def accum_Acc_size.G (k : Nat) : List (Go.FuncId × Cn) := []
noncomputable def accum_Acc_size.cuts : List (Cut (RSig.R S41)) := []
theorem accum_Acc_size.w (gg : Nat) (k : Nat) (x : RcT S41.rL S41.win) (y : TT S41.sa) : walk (E41 gg) (accum_Acc_size.G k) (cutsAt (E41 gg) k accum_Acc_size.cuts) (retR (E41 gg) Go.Proofs.Try.f41.results.toList S41) 4000 true [([], .code B41)] (St0R S41 x y) = accum_Acc_size.f x.1 x.2.1 x.2.2.1 x.2.2.2 := by kernel_rfl
theorem accum_Acc_size.ok : FnOkR Go.Proofs.Try.prog (E41 0).eT 41 (accum_Acc_size.c) := FnOkR.walk (P := (E41 0).P) (eT := (E41 0).eT) (N := (E41 0).N) (wf := (E41 0).wf) (body := B41) Go.Proofs.Try.func41 rfl (by rfl) Go.Proofs.Try.ntmps41 S41 (by rfl) (fun k x y => accum_Acc_size.f x.1 x.2.1 x.2.2.1 x.2.2.2) accum_Acc_size.G (fun k => trivial) 4000 accum_Acc_size.cuts (fun gg => trivial) (fun gg k x y r h => (accum_Acc_size.w gg k x y).trans h) 0
noncomputable def S21 : RSig := ⟨some ⟨[.int .i64, .bool, .int .i64], some (.u64, 16)⟩, 80, false, true, [], [], none, 0, false, [.g 4], [(.int .i64), .bool, (.int .i64), (.rd .u64)], true⟩
noncomputable def E21 (gg : Nat) : En := enR Go.Proofs.Try.prog 59 Go.Proofs.Try.f21.ntmps [] S21 gg
noncomputable def B21 : Go.Code := Go.Proofs.Try.f21.body.get!
def accum_Acc_State.f (c0 : Int) (c1 : Bool) (c2 : Int) (c3 : List Int) : Option (Unit × Unit × (Int × Bool × Int × List Int)) := (accum_Acc_size.f c0 c1 c2 c3).bind fun t100 => (if 0 ≤ t100.2.2 then (if t100.2.2 ≤ 16 then (if (0 + ((c3.take ((t100.2.2 : Int).toNat)).length)) ≤ (140737488355328 / 8) then (some ((), (), (c0, c1, c2, c3.take ((t100.2.2 : Int).toNat)))) else (none)) else (none)) else (none))
--@ok
noncomputable def accum_Acc_State.c : RCon := S21.con fun x y => accum_Acc_State.f x.1 x.2.1 x.2.2.1 x.2.2.2
noncomputable def accum_Acc_State.G (k : Nat) : List (Go.FuncId × Cn) := [(41, .r accum_Acc_size.c)]
noncomputable def accum_Acc_State.cuts : List (Cut (RSig.R S21)) := []
theorem accum_Acc_State.w (gg : Nat) (k : Nat) (x : RcT S21.rL S21.win) (y : TT S21.sa) : walk (E21 gg) (accum_Acc_State.G k) (cutsAt (E21 gg) k accum_Acc_State.cuts) (retR (E21 gg) Go.Proofs.Try.f21.results.toList S21) 4000 true [([], .code B21)] (St0R S21 x y) = accum_Acc_State.f x.1 x.2.1 x.2.2.1 x.2.2.2 := by kernel_rfl
theorem accum_Acc_State.ok : FnOkR Go.Proofs.Try.prog (E21 0).eT 21 (accum_Acc_State.c) := FnOkR.walk (P := (E21 0).P) (eT := (E21 0).eT) (N := (E21 0).N) (wf := (E21 0).wf) (body := B21) Go.Proofs.Try.func21 rfl (by rfl) Go.Proofs.Try.ntmps21 S21 (by rfl) (fun k x y => accum_Acc_State.f x.1 x.2.1 x.2.2.1 x.2.2.2) accum_Acc_State.G (fun k => ⟨accum_Acc_size.ok, trivial⟩) 4000 accum_Acc_State.cuts (fun gg => trivial) (fun gg k x y r h => (accum_Acc_State.w gg k x y).trans h) 0
noncomputable def E84 : En := ⟨Go.Proofs.Try.prog, 59, Go.Proofs.Try.f84.ntmps, none, false, []⟩
noncomputable def S84 : Sig := ⟨[.s, .s], [(.int .u64), (.int .u64)], true, [.s, .s], [(.int .u64), (.int .u64)], false⟩
noncomputable def B84 : Go.Code := Go.Proofs.Try.f84.body.get!
def bits_Mul64.f (a0 : Int) (a1 : Int) : Option (Int × Int) := some (IntKind.u64.wrap ((IntKind.u64.wrap ((IntKind.u64.wrap ((a0 / 4294967296) * (a1 / 4294967296))) + ((IntKind.u64.wrap ((IntKind.u64.wrap ((a0 / 4294967296) * (Go.bits .and .u64 a1 4294967295))) + ((IntKind.u64.wrap ((Go.bits .and .u64 a0 4294967295) * (Go.bits .and .u64 a1 4294967295))) / 4294967296))) / 4294967296))) + ((IntKind.u64.wrap ((Go.bits .and .u64 (IntKind.u64.wrap ((IntKind.u64.wrap ((a0 / 4294967296) * (Go.bits .and .u64 a1 4294967295))) + ((IntKind.u64.wrap ((Go.bits .and .u64 a0 4294967295) * (Go.bits .and .u64 a1 4294967295))) / 4294967296))) 4294967295) + (IntKind.u64.wrap ((Go.bits .and .u64 a0 4294967295) * (a1 / 4294967296))))) / 4294967296)), IntKind.u64.wrap (a0 * a1))
--@ok
noncomputable def bits_Mul64.c : Con := S84.con fun x => bits_Mul64.f x.1 x.2
noncomputable def bits_Mul64.G (k : Nat) : List (Go.FuncId × Cn) := []
noncomputable def bits_Mul64.cuts : List (Cut (TT S84.sb)) := []
theorem bits_Mul64.w (k : Nat) (x : TT S84.sa) : walk E84 (bits_Mul64.G k) (cutsAt E84 k bits_Mul64.cuts) (retE E84 Go.Proofs.Try.f84.results.toList S84) 4000 true [([], .code B84)] (St0 S84 x) = bits_Mul64.f x.1 x.2 := by kernel_rfl
theorem bits_Mul64.ok : FnOk Go.Proofs.Try.prog E84.eT 84 (bits_Mul64.c) := FnOk.walk (E := E84) (body := B84) Go.Proofs.Try.func84 rfl (by rfl) Go.Proofs.Try.ntmps84 rfl S84 rfl (fun k x => bits_Mul64.f x.1 x.2) bits_Mul64.G (fun k => trivial) 4000 bits_Mul64.cuts trivial (fun k x r h => (bits_Mul64.w k x).trans h) 0
noncomputable def S88 : Sig := ⟨[.s, .s, .s], [(.int .u64), (.int .u64), (.int .u64)], true, [.s, .s], [(.int .u64), (.int .u64)], false⟩
def bits_Add64.f (a0 : Int) (a1 : Int) (a2 : Int) : Option (Int × Int) := @ite _ (0 ≤ a0 ∧ a0 < 18446744073709551616 ∧ 0 ≤ a1 ∧ a1 < 18446744073709551616 ∧ 0 ≤ a2 ∧ a2 ≤ 1) (Classical.propDecidable _) (some ((a0 + a1 + a2) % 18446744073709551616, (a0 + a1 + a2) / 18446744073709551616)) none
--@ok
noncomputable def bits_Add64.c : Con := S88.con fun x => bits_Add64.f x.1 x.2.1 x.2.2
theorem bits_Add64.ok : FnOk Go.Proofs.Try.prog 59 88 bits_Add64.c := by
  intro x r w ok vs hF hv
  obtain ⟨a, b, c⟩ := x
  have hF' : bits_Add64.f a b c = some r := hF
  unfold bits_Add64.f at hF'
  split at hF'
  · rename_i hx
    injection hF' with hF'
    subst hF'
    obtain ⟨l⟩ := vs
    match l, hv with
    | [v1, v2, v3], h =>
      obtain ⟨⟨rfl, -⟩, ⟨rfl, -⟩, ⟨rfl, -⟩, -⟩ := h
      refine .inr ⟨_, w, CarryX.add64 a b c hx.1 hx.2.1 hx.2.2.1 hx.2.2.2.1 hx.2.2.2.2.1 hx.2.2.2.2.2 w, ⟨_, rfl, _, rfl, ⟨rfl, ?_, by simp, by simp⟩, ⟨rfl, ?_, by simp, by simp⟩, trivial⟩, .refl _ _⟩
      · constructor <;> simp only [kLo, kHi] <;> omega
      · constructor <;> simp only [kLo, kHi] <;> omega
    | [], h => exact h.elim
    | [_], h => exact h.2.elim
    | [_, _], h => exact h.2.2.elim
    | _ :: _ :: _ :: _ :: _, h => exact h.2.2.2.elim
  · cases hF'
noncomputable def S108 : Sig := ⟨[.s, .s, .s], [(.int .u64), (.int .u64), (.int .u64)], true, [.s, .s], [(.int .u64), (.int .u64)], false⟩
def bits_Sub64.f (a0 : Int) (a1 : Int) (a2 : Int) : Option (Int × Int) := @ite _ (0 ≤ a0 ∧ 0 ≤ a1 ∧ a1 < 18446744073709551616 ∧ 0 ≤ a2 ∧ a2 ≤ 1) (Classical.propDecidable _) (some ((a0 - a1 - a2) % 18446744073709551616, if a0 < a1 + a2 then 1 else 0)) none
--@ok
noncomputable def bits_Sub64.c : Con := S108.con fun x => bits_Sub64.f x.1 x.2.1 x.2.2
theorem bits_Sub64.ok : FnOk Go.Proofs.Try.prog 59 108 bits_Sub64.c := by
  intro x r w ok vs hF hv
  have hF' : bits_Sub64.f x.1 x.2.1 x.2.2 = some r := hF
  obtain ⟨a, b, c⟩ := x
  unfold bits_Sub64.f at hF'
  split at hF'
  · rename_i hx
    injection hF' with hF'
    subst hF'
    obtain ⟨l⟩ := vs
    match l, hv with
    | [v1, v2, v3], h =>
      obtain ⟨⟨rfl, -⟩, ⟨rfl, -⟩, ⟨rfl, -⟩, -⟩ := h
      refine .inr ⟨_, w, CarryX.sub64 a b c hx.1 hx.2.1 hx.2.2.1 hx.2.2.2.1 hx.2.2.2.2 w, ⟨_, rfl, _, rfl, ⟨rfl, ?_, by simp, by simp⟩, ⟨rfl, ?_, by simp, by simp⟩, trivial⟩, .refl _ _⟩
      · constructor <;> simp only [kLo, kHi] <;> omega
      · constructor <;> simp only [kLo, kHi] <;> split <;> omega
    | [], h => exact h.elim
    | [_], h => exact h.2.elim
    | [_, _], h => exact h.2.2.elim
    | _ :: _ :: _ :: _ :: _, h => exact h.2.2.2.elim
  · cases hF'
noncomputable def S85 : RSig := ⟨some ⟨[.int .i64, .bool, .int .i64], some (.u64, 16)⟩, 80, false, false, [.s, .s, .s, .s], [(.int .u64), (.int .u64), (.int .i64), .bool], none, 0, true, [], [], true⟩
noncomputable def E85 (gg : Nat) : En := enR Go.Proofs.Try.prog 59 Go.Proofs.Try.f85.ntmps [] S85 gg
noncomputable def B85 : Go.Code := Go.Proofs.Try.f85.body.get!
mutual
def accum_Acc_enter.l0 : Nat → Int → Bool → Int → Int → List Int → Bool → Int → Int → Int → Int → Int → Int → Option (((Int × Bool × Int × List Int)) × Unit × (Unit))
 | 0, _, _, _, _, _, _, _, _, _, _, _, _ => none
 | k + 1, y0, y1, y2, x13, yl, x4, x10, x14, x15, x12000, x12001, x12002 => if x15 < x13 then (if (wrap64 (x15 - x10)) < 3 then (if 0 ≤ (wrap64 (x15 - x10)) then (accum_Acc_enter.j1 k y0 ((y1, y2).1) ((y1, y2).2) x13 yl x4 x10 x14 x15 (rd ([x12000, x12001, x12002] : List Int) (wrap64 (x15 - x10))) x12000 x12001 x12002) else (none)) else (if x14 = 0 then (some ((y0, (y1, y2).1, (y1, y2).2, yl), (), ())) else (accum_Acc_enter.j1 k y0 ((y1, y2).1) ((y1, y2).2) x13 yl x4 x10 x14 x15 0 x12000 x12001 x12002))) else (some ((y0, (y1, y2).1, (y1, y2).2, yl), (), ()))
def accum_Acc_enter.j1 : Nat → Int → Bool → Int → Int → List Int → Bool → Int → Int → Int → Int → Int → Int → Int → Option (((Int × Bool × Int × List Int)) × Unit × (Unit))
 | 0, _, _, _, _, _, _, _, _, _, _, _, _, _ => none
 | k + 1, y0, y1, y2, x13, yl, x4, x10, x14, x15, x16, x12000, x12001, x12002 => if x4 = true then (if 0 ≤ x15 then (if x15 < x13 then ((bits_Sub64.f (rd yl x15) x16 x14).bind fun t101 => (accum_Acc_enter.l0 k y0 ((y1, y2).1) ((y1, y2).2) x13 (yl.set ((x15 : Int).toNat) t101.1) x4 x10 t101.2 (wrap64 (x15 + 1)) x12000 x12001 x12002)) else (none)) else (none)) else (if 0 ≤ x15 then (if x15 < x13 then ((bits_Add64.f (rd yl x15) x16 x14).bind fun t102 => (accum_Acc_enter.l0 k y0 ((y1, y2).1) ((y1, y2).2) x13 (yl.set ((x15 : Int).toNat) t102.1) x4 x10 t102.2 (wrap64 (x15 + 1)) x12000 x12001 x12002)) else (none)) else (none))
end
def accum_Acc_enter.f (k : Nat) (c0 : Int) (c1 : Bool) (c2 : Int) (c3 : List Int) (a1 : Int) (a2 : Int) (a3 : Int) (a4 : Bool) : Option (((Int × Bool × Int × List Int)) × Unit × (Unit)) := if 0 ≤ (IntKind.u64.wrap (Int.tmod a3 64)) then (if 0 ≤ (IntKind.u64.wrap (63 - (IntKind.u64.wrap (Int.tmod a3 64)))) then ((accum_Acc_size.f c0 c1 c2 c3).bind fun t100 => (if 0 ≤ t100.2.2 then (if t100.2.2 ≤ 16 then (accum_Acc_enter.l0 k c0 c1 c2 t100.2.2 c3 a4 (wrap64 (Int.tdiv a3 64)) 0 (wrap64 (Int.tdiv a3 64)) (shl .u64 a2 (IntKind.u64.wrap (Int.tmod a3 64))) (Go.bits .or .u64 (shl .u64 a1 (IntKind.u64.wrap (Int.tmod a3 64))) (shr .u64 (a2 / 2) (IntKind.u64.wrap (63 - (IntKind.u64.wrap (Int.tmod a3 64)))))) (shr .u64 (a1 / 2) (IntKind.u64.wrap (63 - (IntKind.u64.wrap (Int.tmod a3 64)))))) else (none)) else (none))) else (none)) else (none)
--@ok
def accum_Acc_enter.l0R (k : Nat) (y0 : Int) (y1 : Bool) (y2 : Int) (x13 : Int) (yl : List Int) (x4 : Bool) (x10 : Int) (x14 : Int) (x15 : Int) (x12000 : Int) (x12001 : Int) (x12002 : Int) : Option (((Int × Bool × Int × List Int)) × Unit × (Unit)) := if x15 < x13 then (if (wrap64 (x15 - x10)) < 3 then (if 0 ≤ (wrap64 (x15 - x10)) then (if (wrap64 (x15 - x10)) < 3 then (accum_Acc_enter.j1 k y0 ((y1, y2).1) ((y1, y2).2) x13 yl x4 x10 x14 x15 (rd ([x12000, x12001, x12002] : List Int) (wrap64 (x15 - x10))) x12000 x12001 x12002) else (none)) else (none)) else (if x14 = 0 then (some ((y0, (y1, y2).1, (y1, y2).2, yl), (), ())) else (accum_Acc_enter.j1 k y0 ((y1, y2).1) ((y1, y2).2) x13 yl x4 x10 x14 x15 0 x12000 x12001 x12002))) else (some ((y0, (y1, y2).1, (y1, y2).2, yl), (), ()))
theorem accum_Acc_enter.l0E (k : Nat) (y0 : Int) (y1 : Bool) (y2 : Int) (x13 : Int) (yl : List Int) (x4 : Bool) (x10 : Int) (x14 : Int) (x15 : Int) (x12000 : Int) (x12001 : Int) (x12002 : Int) : accum_Acc_enter.l0R k y0 y1 y2 x13 yl x4 x10 x14 x15 x12000 x12001 x12002 = accum_Acc_enter.l0 (k + 1) y0 y1 y2 x13 yl x4 x10 x14 x15 x12000 x12001 x12002 := by
  unfold accum_Acc_enter.l0R
  rw [accum_Acc_enter.l0]
  exact iteC (fun h0 => iteC (fun h1 => iteC (fun h2 => (if_pos h1).trans (rfl)) (fun h2 => rfl)) (fun h1 => iteC (fun h2 => rfl) (fun h2 => rfl))) (fun h0 => rfl)
def accum_Acc_enter.j1R (k : Nat) (y0 : Int) (y1 : Bool) (y2 : Int) (x13 : Int) (yl : List Int) (x4 : Bool) (x10 : Int) (x14 : Int) (x15 : Int) (x16 : Int) (x12000 : Int) (x12001 : Int) (x12002 : Int) : Option (((Int × Bool × Int × List Int)) × Unit × (Unit)) := if x4 = true then (if 0 ≤ x15 then (if x15 < x13 then ((bits_Sub64.f (rd yl x15) x16 x14).bind fun t101 => (if 0 ≤ x15 then (if x15 < x13 then (accum_Acc_enter.l0 k y0 ((y1, y2).1) ((y1, y2).2) x13 (yl.set ((x15 : Int).toNat) t101.1) x4 x10 t101.2 (wrap64 (x15 + 1)) x12000 x12001 x12002) else (none)) else (none))) else (none)) else (none)) else (if 0 ≤ x15 then (if x15 < x13 then ((bits_Add64.f (rd yl x15) x16 x14).bind fun t102 => (if 0 ≤ x15 then (if x15 < x13 then (accum_Acc_enter.l0 k y0 ((y1, y2).1) ((y1, y2).2) x13 (yl.set ((x15 : Int).toNat) t102.1) x4 x10 t102.2 (wrap64 (x15 + 1)) x12000 x12001 x12002) else (none)) else (none))) else (none)) else (none))
theorem accum_Acc_enter.j1E (k : Nat) (y0 : Int) (y1 : Bool) (y2 : Int) (x13 : Int) (yl : List Int) (x4 : Bool) (x10 : Int) (x14 : Int) (x15 : Int) (x16 : Int) (x12000 : Int) (x12001 : Int) (x12002 : Int) : accum_Acc_enter.j1R k y0 y1 y2 x13 yl x4 x10 x14 x15 x16 x12000 x12001 x12002 = accum_Acc_enter.j1 (k + 1) y0 y1 y2 x13 yl x4 x10 x14 x15 x16 x12000 x12001 x12002 := by
  unfold accum_Acc_enter.j1R
  rw [accum_Acc_enter.j1]
  exact iteC (fun h0 => iteC (fun h1 => iteC (fun h2 => bindC fun _ => (if_pos h1).trans ((if_pos h2).trans (rfl))) (fun h2 => rfl)) (fun h1 => rfl)) (fun h0 => iteC (fun h1 => iteC (fun h2 => bindC fun _ => (if_pos h1).trans ((if_pos h2).trans (rfl))) (fun h2 => rfl)) (fun h1 => rfl))
def accum_Acc_enter.fR (k : Nat) (c0 : Int) (c1 : Bool) (c2 : Int) (c3 : List Int) (a1 : Int) (a2 : Int) (a3 : Int) (a4 : Bool) : Option (((Int × Bool × Int × List Int)) × Unit × (Unit)) := if 0 ≤ (IntKind.u64.wrap (Int.tmod a3 64)) then (if 0 ≤ (IntKind.u64.wrap (Int.tmod a3 64)) then (if 0 ≤ (IntKind.u64.wrap (63 - (IntKind.u64.wrap (Int.tmod a3 64)))) then (if 0 ≤ (IntKind.u64.wrap (63 - (IntKind.u64.wrap (Int.tmod a3 64)))) then ((accum_Acc_size.f c0 c1 c2 c3).bind fun t100 => (if 0 ≤ t100.2.2 then (if t100.2.2 ≤ 16 then (accum_Acc_enter.l0 k c0 c1 c2 t100.2.2 c3 a4 (wrap64 (Int.tdiv a3 64)) 0 (wrap64 (Int.tdiv a3 64)) (shl .u64 a2 (IntKind.u64.wrap (Int.tmod a3 64))) (Go.bits .or .u64 (shl .u64 a1 (IntKind.u64.wrap (Int.tmod a3 64))) (shr .u64 (a2 / 2) (IntKind.u64.wrap (63 - (IntKind.u64.wrap (Int.tmod a3 64)))))) (shr .u64 (a1 / 2) (IntKind.u64.wrap (63 - (IntKind.u64.wrap (Int.tmod a3 64)))))) else (none)) else (none))) else (none)) else (none)) else (none)) else (none)
theorem accum_Acc_enter.fE (k : Nat) (c0 : Int) (c1 : Bool) (c2 : Int) (c3 : List Int) (a1 : Int) (a2 : Int) (a3 : Int) (a4 : Bool) : accum_Acc_enter.fR k c0 c1 c2 c3 a1 a2 a3 a4 = accum_Acc_enter.f k c0 c1 c2 c3 a1 a2 a3 a4 := by
  unfold accum_Acc_enter.fR accum_Acc_enter.f
  exact iteC (fun h0 => (if_pos h0).trans (iteC (fun h1 => (if_pos h1).trans (bindC fun _ => iteC (fun h2 => iteC (fun h3 => rfl) (fun h3 => rfl)) (fun h2 => rfl))) (fun h1 => rfl))) (fun h0 => rfl)
noncomputable def accum_Acc_enter.c (k : Nat) : RCon := S85.con fun x y => accum_Acc_enter.f k x.1 x.2.1 x.2.2.1 x.2.2.2 y.1 y.2.1 y.2.2.1 y.2.2.2
noncomputable def accum_Acc_enter.G (k : Nat) : List (Go.FuncId × Cn) := [(41, .r accum_Acc_size.c), (88, .f bits_Add64.c), (108, .f bits_Sub64.c)]
noncomputable def accum_Acc_enter.cuts : List (Cut (RSig.R S85)) := [⟨[6, 4, 1, 1, 1, 1, 1, 1, 8], [.mbw (some 0) 80 [.int .i64, .bool, .int .i64] .u64 16 [13], .sc 4 (.bool), .sc 10 (.int .i64), .sc 14 (.int .u64), .sc 15 (.int .i64), .box 12 88 [.int .u64, .int .u64, .int .u64]], fun k x => accum_Acc_enter.l0 k x.1.1 x.1.2.1 x.1.2.2.1 x.1.2.2.2.1 x.1.2.2.2.2 x.2.1 x.2.2.1 x.2.2.2.1 x.2.2.2.2.1 x.2.2.2.2.2.1 x.2.2.2.2.2.2.1 x.2.2.2.2.2.2.2⟩, ⟨[1, 1, 4, 0, 1, 6, 4, 1, 1, 1, 1, 1, 1, 8], [.mbw (some 0) 80 [.int .i64, .bool, .int .i64] .u64 16 [13], .sc 4 (.bool), .sc 10 (.int .i64), .sc 14 (.int .u64), .sc 15 (.int .i64), .sc 16 (.int .u64), .box 12 88 [.int .u64, .int .u64, .int .u64]], fun k x => accum_Acc_enter.j1 k x.1.1 x.1.2.1 x.1.2.2.1 x.1.2.2.2.1 x.1.2.2.2.2 x.2.1 x.2.2.1 x.2.2.2.1 x.2.2.2.2.1 x.2.2.2.2.2.1 x.2.2.2.2.2.2.1 x.2.2.2.2.2.2.2.1 x.2.2.2.2.2.2.2.2⟩]
theorem accum_Acc_enter.w0 (gg : Nat) (k : Nat) (x : ET [.mbw (some 0) 80 [.int .i64, .bool, .int .i64] .u64 16 [13], .sc 4 (.bool), .sc 10 (.int .i64), .sc 14 (.int .u64), .sc 15 (.int .i64), .box 12 88 [.int .u64, .int .u64, .int .u64]]) : walk (E85 gg) (accum_Acc_enter.G k) (cutsAt (E85 gg) k accum_Acc_enter.cuts) (retR (E85 gg) Go.Proofs.Try.f85.results.toList S85) 4000 true (stackAt B85 [6, 4, 1, 1, 1, 1, 1, 1, 8]) (mkE [.mbw (some 0) 80 [.int .i64, .bool, .int .i64] .u64 16 [13], .sc 4 (.bool), .sc 10 (.int .i64), .sc 14 (.int .u64), .sc 15 (.int .i64), .box 12 88 [.int .u64, .int .u64, .int .u64]] x St.nil) = accum_Acc_enter.l0 (k + 1) x.1.1 x.1.2.1 x.1.2.2.1 x.1.2.2.2.1 x.1.2.2.2.2 x.2.1 x.2.2.1 x.2.2.2.1 x.2.2.2.2.1 x.2.2.2.2.2.1 x.2.2.2.2.2.2.1 x.2.2.2.2.2.2.2 := Eq.trans (b := accum_Acc_enter.l0R k x.1.1 x.1.2.1 x.1.2.2.1 x.1.2.2.2.1 x.1.2.2.2.2 x.2.1 x.2.2.1 x.2.2.2.1 x.2.2.2.2.1 x.2.2.2.2.2.1 x.2.2.2.2.2.2.1 x.2.2.2.2.2.2.2) (by kernel_rfl) (accum_Acc_enter.l0E k x.1.1 x.1.2.1 x.1.2.2.1 x.1.2.2.2.1 x.1.2.2.2.2 x.2.1 x.2.2.1 x.2.2.2.1 x.2.2.2.2.1 x.2.2.2.2.2.1 x.2.2.2.2.2.2.1 x.2.2.2.2.2.2.2)
theorem accum_Acc_enter.w1 (gg : Nat) (k : Nat) (x : ET [.mbw (some 0) 80 [.int .i64, .bool, .int .i64] .u64 16 [13], .sc 4 (.bool), .sc 10 (.int .i64), .sc 14 (.int .u64), .sc 15 (.int .i64), .sc 16 (.int .u64), .box 12 88 [.int .u64, .int .u64, .int .u64]]) : walk (E85 gg) (accum_Acc_enter.G k) (cutsAt (E85 gg) k accum_Acc_enter.cuts) (retR (E85 gg) Go.Proofs.Try.f85.results.toList S85) 4000 true (stackAt B85 [1, 1, 4, 0, 1, 6, 4, 1, 1, 1, 1, 1, 1, 8]) (mkE [.mbw (some 0) 80 [.int .i64, .bool, .int .i64] .u64 16 [13], .sc 4 (.bool), .sc 10 (.int .i64), .sc 14 (.int .u64), .sc 15 (.int .i64), .sc 16 (.int .u64), .box 12 88 [.int .u64, .int .u64, .int .u64]] x St.nil) = accum_Acc_enter.j1 (k + 1) x.1.1 x.1.2.1 x.1.2.2.1 x.1.2.2.2.1 x.1.2.2.2.2 x.2.1 x.2.2.1 x.2.2.2.1 x.2.2.2.2.1 x.2.2.2.2.2.1 x.2.2.2.2.2.2.1 x.2.2.2.2.2.2.2.1 x.2.2.2.2.2.2.2.2 := Eq.trans (b := accum_Acc_enter.j1R k x.1.1 x.1.2.1 x.1.2.2.1 x.1.2.2.2.1 x.1.2.2.2.2 x.2.1 x.2.2.1 x.2.2.2.1 x.2.2.2.2.1 x.2.2.2.2.2.1 x.2.2.2.2.2.2.1 x.2.2.2.2.2.2.2.1 x.2.2.2.2.2.2.2.2) (by kernel_rfl) (accum_Acc_enter.j1E k x.1.1 x.1.2.1 x.1.2.2.1 x.1.2.2.2.1 x.1.2.2.2.2 x.2.1 x.2.2.1 x.2.2.2.1 x.2.2.2.2.1 x.2.2.2.2.2.1 x.2.2.2.2.2.2.1 x.2.2.2.2.2.2.2.1 x.2.2.2.2.2.2.2.2)
theorem accum_Acc_enter.w (gg : Nat) (k : Nat) (x : RcT S85.rL S85.win) (y : TT S85.sa) : walk (E85 gg) (accum_Acc_enter.G k) (cutsAt (E85 gg) k accum_Acc_enter.cuts) (retR (E85 gg) Go.Proofs.Try.f85.results.toList S85) 4000 true [([], .code B85)] (St0R S85 x y) = accum_Acc_enter.f k x.1 x.2.1 x.2.2.1 x.2.2.2 y.1 y.2.1 y.2.2.1 y.2.2.2 := Eq.trans (b := accum_Acc_enter.fR k x.1 x.2.1 x.2.2.1 x.2.2.2 y.1 y.2.1 y.2.2.1 y.2.2.2) (by kernel_rfl) (accum_Acc_enter.fE k x.1 x.2.1 x.2.2.1 x.2.2.2 y.1 y.2.1 y.2.2.1 y.2.2.2)
theorem accum_Acc_enter.ok (k : Nat) : FnOkR Go.Proofs.Try.prog (E85 0).eT 85 (accum_Acc_enter.c k) := FnOkR.walk (P := (E85 0).P) (eT := (E85 0).eT) (N := (E85 0).N) (wf := (E85 0).wf) (body := B85) Go.Proofs.Try.func85 rfl (by rfl) Go.Proofs.Try.ntmps85 S85 (by rfl) (fun k x y => accum_Acc_enter.f k x.1 x.2.1 x.2.2.1 x.2.2.2 y.1 y.2.1 y.2.2.1 y.2.2.2) accum_Acc_enter.G (fun k => ⟨accum_Acc_size.ok, bits_Add64.ok, bits_Sub64.ok, trivial⟩) 4000 accum_Acc_enter.cuts (fun gg => ⟨⟨fun _ => rfl, fun k x q h => (accum_Acc_enter.w0 gg k x).trans h⟩, ⟨fun _ => rfl, fun k x q h => (accum_Acc_enter.w1 gg k x).trans h⟩, trivial⟩) (fun gg k x y r h => (accum_Acc_enter.w gg k x y).trans h) k
noncomputable def S57 : RSig := ⟨some ⟨[.int .i64, .bool, .int .i64], some (.u64, 16)⟩, 80, false, false, [.s, .s, .s], [(.int .u64), (.int .u64), .bool], none, 0, false, [.s], [.err], true⟩
noncomputable def E57 (gg : Nat) : En := enR Go.Proofs.Try.prog 59 Go.Proofs.Try.f57.ntmps [85] S57 gg
noncomputable def B57 : Go.Code := Go.Proofs.Try.f57.body.get!
mutual
def accum_Acc_deposit.j0 : Nat → Int → Bool → Int → List Int → Bool → Bool → Int → Bool → Int → Int → Int → Bool → Int → Int → Option (((Int × Bool × Int × List Int)) × Unit × (Option Int))
 | 0, _, _, _, _, _, _, _, _, _, _, _, _, _, _ => none
 | k + 1, y0, y1, y2, yl, x3, x52, x9000, x9001, x9002, x9003, x11000, x11001, x11002, x11003 => if x52 = true then (some ((y0, true, (y1, y2).2, ([0, 0, 0, 0, 0, 0, 0, 0, 0, 0, 0, 0, 0, 0, 0, 0] : List Int)), (), none)) else (if x9000 = 1 then (accum_Acc_deposit.j1 k y0 ((y1, y2).1) ((y1, y2).2) yl x3 (x11000 == 1) x9001 x9002 x9003 x11001 x11002 x11003) else (accum_Acc_deposit.j1 k y0 ((y1, y2).1) ((y1, y2).2) yl x3 false x9001 x9002 x9003 x11001 x11002 x11003))
def accum_Acc_deposit.j1 : Nat → Int → Bool → Int → List Int → Bool → Bool → Bool → Int → Int → Bool → Int → Int → Option (((Int × Bool × Int × List Int)) × Unit × (Option Int))
 | 0, _, _, _, _, _, _, _, _, _, _, _, _ => none
 | k + 1, y0, y1, y2, yl, x3, x74, x9001, x9002, x9003, x11001, x11002, x11003 => if x74 = true then ((bits_Mul64.f x9003 x11003).bind fun t102 => (accum_Acc_deposit.l0 k y0 ((y1, y2).1) ((y1, y2).2) yl x3 t102.1 t102.2 (wrap64 ((wrap64 ((wrap64 ((wrap64 (x9002 + x11002)) - 126)) + (wrap64 (8 * y0)))) - 16)) x9001 x11001)) else (some ((y0, (y1, y2).1, (y1, y2).2, yl), (), none))
def accum_Acc_deposit.l0 : Nat → Int → Bool → Int → List Int → Bool → Int → Int → Int → Bool → Bool → Option (((Int × Bool × Int × List Int)) × Unit × (Option Int))
 | 0, _, _, _, _, _, _, _, _, _, _ => none
 | k + 1, y0, y1, y2, yl, x3, x12, x13, x14, x9001, x11001 => if x14 < 0 then (accum_Acc_deposit.l0 k y0 ((y1, y2).1) ((y1, y2).2) yl x3 (x12 / 2) (Go.bits .or .u64 (x13 / 2) (IntKind.u64.wrap (x12 * 9223372036854775808))) (wrap64 (x14 + 1)) x9001 x11001) else ((accum_Acc_enter.f k y0 ((y1, y2).1) ((y1, y2).2) yl x12 x13 x14 (!((!(x9001 == x11001)) == x3))).bind fun t103 => (some ((t103.1.1, t103.1.2.1, t103.1.2.2.1, t103.1.2.2.2), (), none)))
end
def accum_Acc_deposit.f (k : Nat) (c0 : Int) (c1 : Bool) (c2 : Int) (c3 : List Int) (a1 : Int) (a2 : Int) (a3 : Bool) : Option (((Int × Bool × Int × List Int)) × Unit × (Option Int)) := if c2 = 2147483647 then (some ((c0, c1, c2, c3), (), some 11)) else ((codec_Decode.f k c0 a1).bind fun t100 => (if t100.2.2.2.2.isNone = true then ((codec_Decode.f k c0 a2).bind fun t101 => (if t101.2.2.2.2.isNone = true then (if c1 = true then (accum_Acc_deposit.j0 k c0 c1 (wrap64 (c2 + 1)) c3 a3 true t100.1 t100.2.1 t100.2.2.1 t100.2.2.2.1 t101.1 t101.2.1 t101.2.2.1 t101.2.2.2.1) else (if t100.1 = 2 then (accum_Acc_deposit.j0 k c0 c1 (wrap64 (c2 + 1)) c3 a3 true t100.1 t100.2.1 t100.2.2.1 t100.2.2.2.1 t101.1 t101.2.1 t101.2.2.1 t101.2.2.2.1) else (accum_Acc_deposit.j0 k c0 c1 (wrap64 (c2 + 1)) c3 a3 (t101.1 == 2) t100.1 t100.2.1 t100.2.2.1 t100.2.2.2.1 t101.1 t101.2.1 t101.2.2.1 t101.2.2.2.1))) else (some ((c0, c1, c2, c3), (), some (t101.2.2.2.2.getD 0))))) else (some ((c0, c1, c2, c3), (), some (t100.2.2.2.2.getD 0)))))
--@ok
noncomputable def accum_Acc_deposit.c (k : Nat) : RCon := S57.con fun x y => accum_Acc_deposit.f k x.1 x.2.1 x.2.2.1 x.2.2.2 y.1 y.2.1 y.2.2
noncomputable def accum_Acc_deposit.G (k : Nat) : List (Go.FuncId × Cn) := [(38, .f (codec_Decode.c k)), (84, .f bits_Mul64.c), (85, .r (accum_Acc_enter.c k))]
noncomputable def accum_Acc_deposit.cuts : List (Cut (RSig.R S57)) := [⟨[1, 4, 0, 1, 1, 1, 1, 1, 1, 1], [.mbw (some 0) 80 [.int .i64, .bool, .int .i64] .u64 16 [], .sc 3 (.bool), .sc 52 (.bool), .box 9 75 [.int .i64, .bool, .int .i64, .int .u64], .box 11 75 [.int .i64, .bool, .int .i64, .int .u64]], fun k x => accum_Acc_deposit.j0 k x.1.1 x.1.2.1 x.1.2.2.1 x.1.2.2.2 x.2.1 x.2.2.1 x.2.2.2.1.1 x.2.2.2.1.2.1 x.2.2.2.1.2.2.1 x.2.2.2.1.2.2.2 x.2.2.2.2.1 x.2.2.2.2.2.1 x.2.2.2.2.2.2.1 x.2.2.2.2.2.2.2⟩, ⟨[1, 3, 1, 4, 0, 1, 1, 1, 1, 1, 1, 1], [.mbw (some 0) 80 [.int .i64, .bool, .int .i64] .u64 16 [], .sc 3 (.bool), .sc 74 (.bool), .box 9 75 [.int .i64, .bool, .int .i64, .int .u64], .box 11 75 [.int .i64, .bool, .int .i64, .int .u64]], fun k x => accum_Acc_deposit.j1 k x.1.1 x.1.2.1 x.1.2.2.1 x.1.2.2.2 x.2.1 x.2.2.1 x.2.2.2.1.2.1 x.2.2.2.1.2.2.1 x.2.2.2.1.2.2.2 x.2.2.2.2.2.1 x.2.2.2.2.2.2.1 x.2.2.2.2.2.2.2⟩, ⟨[6, 4, 0, 1, 1, 2, 1, 3, 1, 4, 0, 1, 1, 1, 1, 1, 1, 1], [.mbw (some 0) 80 [.int .i64, .bool, .int .i64] .u64 16 [], .sc 3 (.bool), .sc 12 (.int .u64), .sc 13 (.int .u64), .sc 14 (.int .i64), .box 9 75 [.int .i64, .bool, .int .i64, .int .u64], .box 11 75 [.int .i64, .bool, .int .i64, .int .u64]], fun k x => accum_Acc_deposit.l0 k x.1.1 x.1.2.1 x.1.2.2.1 x.1.2.2.2 x.2.1 x.2.2.1 x.2.2.2.1 x.2.2.2.2.1 x.2.2.2.2.2.1.2.1 x.2.2.2.2.2.2.2.1⟩]
theorem accum_Acc_deposit.w0 (gg : Nat) (k : Nat) (x : ET [.mbw (some 0) 80 [.int .i64, .bool, .int .i64] .u64 16 [], .sc 3 (.bool), .sc 52 (.bool), .box 9 75 [.int .i64, .bool, .int .i64, .int .u64], .box 11 75 [.int .i64, .bool, .int .i64, .int .u64]]) : walk (E57 gg) (accum_Acc_deposit.G k) (cutsAt (E57 gg) k accum_Acc_deposit.cuts) (retR (E57 gg) Go.Proofs.Try.f57.results.toList S57) 4000 true (stackAt B57 [1, 4, 0, 1, 1, 1, 1, 1, 1, 1]) (mkE [.mbw (some 0) 80 [.int .i64, .bool, .int .i64] .u64 16 [], .sc 3 (.bool), .sc 52 (.bool), .box 9 75 [.int .i64, .bool, .int .i64, .int .u64], .box 11 75 [.int .i64, .bool, .int .i64, .int .u64]] x St.nil) = accum_Acc_deposit.j0 (k + 1) x.1.1 x.1.2.1 x.1.2.2.1 x.1.2.2.2 x.2.1 x.2.2.1 x.2.2.2.1.1 x.2.2.2.1.2.1 x.2.2.2.1.2.2.1 x.2.2.2.1.2.2.2 x.2.2.2.2.1 x.2.2.2.2.2.1 x.2.2.2.2.2.2.1 x.2.2.2.2.2.2.2 := by kernel_rfl
theorem accum_Acc_deposit.w1 (gg : Nat) (k : Nat) (x : ET [.mbw (some 0) 80 [.int .i64, .bool, .int .i64] .u64 16 [], .sc 3 (.bool), .sc 74 (.bool), .box 9 75 [.int .i64, .bool, .int .i64, .int .u64], .box 11 75 [.int .i64, .bool, .int .i64, .int .u64]]) : walk (E57 gg) (accum_Acc_deposit.G k) (cutsAt (E57 gg) k accum_Acc_deposit.cuts) (retR (E57 gg) Go.Proofs.Try.f57.results.toList S57) 4000 true (stackAt B57 [1, 3, 1, 4, 0, 1, 1, 1, 1, 1, 1, 1]) (mkE [.mbw (some 0) 80 [.int .i64, .bool, .int .i64] .u64 16 [], .sc 3 (.bool), .sc 74 (.bool), .box 9 75 [.int .i64, .bool, .int .i64, .int .u64], .box 11 75 [.int .i64, .bool, .int .i64, .int .u64]] x St.nil) = accum_Acc_deposit.j1 (k + 1) x.1.1 x.1.2.1 x.1.2.2.1 x.1.2.2.2 x.2.1 x.2.2.1 x.2.2.2.1.2.1 x.2.2.2.1.2.2.1 x.2.2.2.1.2.2.2 x.2.2.2.2.2.1 x.2.2.2.2.2.2.1 x.2.2.2.2.2.2.2 := by kernel_rfl
theorem accum_Acc_deposit.w2 (gg : Nat) (k : Nat) (x : ET [.mbw (some 0) 80 [.int .i64, .bool, .int .i64] .u64 16 [], .sc 3 (.bool), .sc 12 (.int .u64), .sc 13 (.int .u64), .sc 14 (.int .i64), .box 9 75 [.int .i64, .bool, .int .i64, .int .u64], .box 11 75 [.int .i64, .bool, .int .i64, .int .u64]]) : walk (E57 gg) (accum_Acc_deposit.G k) (cutsAt (E57 gg) k accum_Acc_deposit.cuts) (retR (E57 gg) Go.Proofs.Try.f57.results.toList S57) 4000 true (stackAt B57 [6, 4, 0, 1, 1, 2, 1, 3, 1, 4, 0, 1, 1, 1, 1, 1, 1, 1]) (mkE [.mbw (some 0) 80 [.int .i64, .bool, .int .i64] .u64 16 [], .sc 3 (.bool), .sc 12 (.int .u64), .sc 13 (.int .u64), .sc 14 (.int .i64), .box 9 75 [.int .i64, .bool, .int .i64, .int .u64], .box 11 75 [.int .i64, .bool, .int .i64, .int .u64]] x St.nil) = accum_Acc_deposit.l0 (k + 1) x.1.1 x.1.2.1 x.1.2.2.1 x.1.2.2.2 x.2.1 x.2.2.1 x.2.2.2.1 x.2.2.2.2.1 x.2.2.2.2.2.1.2.1 x.2.2.2.2.2.2.2.1 := by kernel_rfl
theorem accum_Acc_deposit.w (gg : Nat) (k : Nat) (x : RcT S57.rL S57.win) (y : TT S57.sa) : walk (E57 gg) (accum_Acc_deposit.G k) (cutsAt (E57 gg) k accum_Acc_deposit.cuts) (retR (E57 gg) Go.Proofs.Try.f57.results.toList S57) 4000 true [([], .code B57)] (St0R S57 x y) = accum_Acc_deposit.f k x.1 x.2.1 x.2.2.1 x.2.2.2 y.1 y.2.1 y.2.2 := by kernel_rfl
theorem accum_Acc_deposit.ok (k : Nat) : FnOkR Go.Proofs.Try.prog (E57 0).eT 57 (accum_Acc_deposit.c k) := FnOkR.walk (P := (E57 0).P) (eT := (E57 0).eT) (N := (E57 0).N) (wf := (E57 0).wf) (body := B57) Go.Proofs.Try.func57 rfl (by rfl) Go.Proofs.Try.ntmps57 S57 (by rfl) (fun k x y => accum_Acc_deposit.f k x.1 x.2.1 x.2.2.1 x.2.2.2 y.1 y.2.1 y.2.2) accum_Acc_deposit.G (fun k => ⟨codec_Decode.ok k, bits_Mul64.ok, accum_Acc_enter.ok k, trivial⟩) 4000 accum_Acc_deposit.cuts (fun gg => ⟨⟨fun _ => rfl, fun k x q h => (accum_Acc_deposit.w0 gg k x).trans h⟩, ⟨fun _ => rfl, fun k x q h => (accum_Acc_deposit.w1 gg k x).trans h⟩, ⟨fun _ => rfl, fun k x q h => (accum_Acc_deposit.w2 gg k x).trans h⟩, trivial⟩) (fun gg k x y r h => (accum_Acc_deposit.w gg k x y).trans h) k
noncomputable def S40 : RSig := ⟨some ⟨[.int .i64, .bool, .int .i64], some (.u64, 16)⟩, 80, false, false, [.s, .s], [(.int .u64), (.int .u64)], none, 0, false, [.s], [.err], true⟩
noncomputable def E40 (gg : Nat) : En := enR Go.Proofs.Try.prog 59 Go.Proofs.Try.f40.ntmps [57] S40 gg
noncomputable def B40 : Go.Code := Go.Proofs.Try.f40.body.get!
def accum_Acc_Put.f (k : Nat) (c0 : Int) (c1 : Bool) (c2 : Int) (c3 : List Int) (a1 : Int) (a2 : Int) : Option (((Int × Bool × Int × List Int)) × Unit × (Option Int)) := (accum_Acc_deposit.f k c0 c1 c2 c3 a1 a2 false).bind fun t100 => (some ((t100.1.1, t100.1.2.1, t100.1.2.2.1, t100.1.2.2.2), (), t100.2.2))
--@ok
noncomputable def accum_Acc_Put.c (k : Nat) : RCon := S40.con fun x y => accum_Acc_Put.f k x.1 x.2.1 x.2.2.1 x.2.2.2 y.1 y.2
noncomputable def accum_Acc_Put.G (k : Nat) : List (Go.FuncId × Cn) := [(57, .r (accum_Acc_deposit.c k))]
noncomputable def accum_Acc_Put.cuts : List (Cut (RSig.R S40)) := []
theorem accum_Acc_Put.w (gg : Nat) (k : Nat) (x : RcT S40.rL S40.win) (y : TT S40.sa) : walk (E40 gg) (accum_Acc_Put.G k) (cutsAt (E40 gg) k accum_Acc_Put.cuts) (retR (E40 gg) Go.Proofs.Try.f40.results.toList S40) 4000 true [([], .code B40)] (St0R S40 x y) = accum_Acc_Put.f k x.1 x.2.1 x.2.2.1 x.2.2.2 y.1 y.2 := by kernel_rfl
theorem accum_Acc_Put.ok (k : Nat) : FnOkR Go.Proofs.Try.prog (E40 0).eT 40 (accum_Acc_Put.c k) := FnOkR.walk (P := (E40 0).P) (eT := (E40 0).eT) (N := (E40 0).N) (wf := (E40 0).wf) (body := B40) Go.Proofs.Try.func40 rfl (by rfl) Go.Proofs.Try.ntmps40 S40 (by rfl) (fun k x y => accum_Acc_Put.f k x.1 x.2.1 x.2.2.1 x.2.2.2 y.1 y.2) accum_Acc_Put.G (fun k => ⟨accum_Acc_deposit.ok k, trivial⟩) 4000 accum_Acc_Put.cuts (fun gg => trivial) (fun gg k x y r h => (accum_Acc_Put.w gg k x y).trans h) k
end Go.Proofs.Ytbpcfhhcoklinaa.Fn
