-- Written by a program of this session out of its own texts (wip/tools/link.py).
import Derived.Below
import Derived.ChangeKeysEq
import Derived.Deep.MidRow
import Derived.Deep.RegionHeld3
import Derived.Great.BuildSlice
import Derived.IntWalk
import Derived.KernelRfl
import Derived.LaidEql
import Derived.Laws.Bits64
import Derived.Laws.BitsLemmas
import Derived.Laws.BytesArg
import Derived.Laws.IdiomCopy
import Derived.Laws.OwnMore
import Derived.Laws.Rows
import Derived.Laws.Slices
import Derived.Laws.StructEq
import Derived.Laws.Tables
import Derived.Lib.BitFns
import Derived.Lib.Slices
import Derived.Lib.Small
import Derived.Lib.Strings
import Derived.Lib.Walk
import Derived.Maps.AppendAt
import Derived.OrdersHeld
import Derived.RowKit
import Derived.Shelf.Spec.BitsCarry
import Derived.Test.YthofoolgbngobaaProg
import Derived.Test.YthofoolgbngobaaCTopNearest1
import Derived.Test.YthofoolgbngobaaCTopNearest3
import Derived.Test.YthofoolgbngobaaCTopNearest7
import Derived.Test.YthofoolgbngobaaCTopNearest8
set_option maxRecDepth 100000
set_option linter.unusedVariables false
noncomputable section
namespace Go.Proofs.Ythofoolgbngobaa.Fn
open Go Go.RowKit Go.Proofs.Ythofoolgbngobaa.Ab
noncomputable def E133 : En := ⟨Go.Proofs.Try.prog, 62, Go.Proofs.Try.f133.ntmps⟩
noncomputable def S133 : Sig := ⟨[.s], [(.int .i64)], false, [.s], [.bool], false⟩
noncomputable def B133 : Go.Code := Go.Proofs.Try.f133.body.get!
def shape_is.f (a0 : Int) : Option (Bool) := if a0 = 8 then (some true) else (if a0 = 16 then (some true) else (if a0 = 32 then (some true) else (if a0 = 64 then (some true) else (some false))))
--@ok
def shape_is.fR (a0 : Int) : Option (Bool) := if a0 = 8 then (if a0 = 8 then (some true) else (some false)) else (if a0 = 16 then (if a0 = 16 then (some true) else (some false)) else (if a0 = 32 then (if a0 = 32 then (some true) else (some false)) else (if a0 = 64 then (some true) else (some false))))
theorem shape_is.fE (a0 : Int) : shape_is.fR a0 = shape_is.f a0 := by
  unfold shape_is.fR shape_is.f
  exact iteC (fun h0 => (if_pos h0).trans (rfl)) (fun h0 => iteC (fun h1 => (if_pos h1).trans (rfl)) (fun h1 => iteC (fun h2 => (if_pos h2).trans (rfl)) (fun h2 => iteC (fun h3 => rfl) (fun h3 => rfl))))
noncomputable def shape_is.c : Con := S133.con fun x => shape_is.f x
noncomputable def shape_is.G (k : Nat) : List (Go.FuncId × Con) := []
noncomputable def shape_is.cuts : List (Cut (TT S133.sb)) := []
theorem shape_is.w (k : Nat) (x : TT S133.sa) : walk E133 (shape_is.G k) (cutsAt k shape_is.cuts) (retE E133 Go.Proofs.Try.f133.results.toList S133) 4000 true [([], .code B133)] (St0 S133 x) = shape_is.f x := Eq.trans (b := shape_is.fR x) (by kernel_rfl) (shape_is.fE x)
theorem shape_is.ok : FnOk Go.Proofs.Try.prog E133.eT 133 (shape_is.c) := FnOk.walk (E := E133) (body := B133) Go.Proofs.Try.func133 rfl (by rfl) Go.Proofs.Try.ntmps133 S133 rfl (fun k x => shape_is.f x) shape_is.G (fun k => trivial) 4000 shape_is.cuts trivial (fun k x r h => (shape_is.w k x).trans h) 0
noncomputable def E153 : En := ⟨Go.Proofs.Try.prog, 62, Go.Proofs.Try.f153.ntmps⟩
noncomputable def S153 : Sig := ⟨[.s], [(.int .i64)], false, [.s], [(.int .u64)], false⟩
noncomputable def B153 : Go.Code := Go.Proofs.Try.f153.body.get!
def lead_ones.f (a0 : Int) : Option (Int) := if a0 = 64 then (some 18446744073709551615) else (if 0 ≤ a0 then (some (IntKind.u64.wrap ((shl .u64 1 a0) - 1))) else (none))
--@ok
noncomputable def lead_ones.c : Con := S153.con fun x => lead_ones.f x
noncomputable def lead_ones.G (k : Nat) : List (Go.FuncId × Con) := []
noncomputable def lead_ones.cuts : List (Cut (TT S153.sb)) := []
theorem lead_ones.w (k : Nat) (x : TT S153.sa) : walk E153 (lead_ones.G k) (cutsAt k lead_ones.cuts) (retE E153 Go.Proofs.Try.f153.results.toList S153) 4000 true [([], .code B153)] (St0 S153 x) = lead_ones.f x := by kernel_rfl
theorem lead_ones.ok : FnOk Go.Proofs.Try.prog E153.eT 153 (lead_ones.c) := FnOk.walk (E := E153) (body := B153) Go.Proofs.Try.func153 rfl (by rfl) Go.Proofs.Try.ntmps153 S153 rfl (fun k x => lead_ones.f x) lead_ones.G (fun k => trivial) 4000 lead_ones.cuts trivial (fun k x r h => (lead_ones.w k x).trans h) 0
noncomputable def E134 : En := ⟨Go.Proofs.Try.prog, 62, Go.Proofs.Try.f134.ntmps⟩
noncomputable def S134 : Sig := ⟨[.s], [(.int .i64)], true, [.s, .s], [(.int .u64), .err], false⟩
noncomputable def B134 : Go.Code := Go.Proofs.Try.f134.body.get!
def lead_Mask.f (a0 : Int) : Option (Int × Option Int) := if a0 < 0 then (some (0, some 1)) else (if a0 > 64 then (some (0, some 1)) else ((lead_ones.f a0).bind fun t100 => (some (t100, none))))
--@ok
noncomputable def lead_Mask.c : Con := S134.con fun x => lead_Mask.f x
noncomputable def lead_Mask.G (k : Nat) : List (Go.FuncId × Con) := [(153, lead_ones.c)]
noncomputable def lead_Mask.cuts : List (Cut (TT S134.sb)) := []
theorem lead_Mask.w (k : Nat) (x : TT S134.sa) : walk E134 (lead_Mask.G k) (cutsAt k lead_Mask.cuts) (retE E134 Go.Proofs.Try.f134.results.toList S134) 4000 true [([], .code B134)] (St0 S134 x) = lead_Mask.f x := by kernel_rfl
theorem lead_Mask.ok : FnOk Go.Proofs.Try.prog E134.eT 134 (lead_Mask.c) := FnOk.walk (E := E134) (body := B134) Go.Proofs.Try.func134 rfl (by rfl) Go.Proofs.Try.ntmps134 S134 rfl (fun k x => lead_Mask.f x) lead_Mask.G (fun k => ⟨lead_ones.ok, trivial⟩) 4000 lead_Mask.cuts trivial (fun k x r h => (lead_Mask.w k x).trans h) 0
noncomputable def E102 : En := ⟨Go.Proofs.Try.prog, 62, Go.Proofs.Try.f102.ntmps⟩
noncomputable def S102 : Sig := ⟨[.s, .s], [(.int .i64), (.int .u64)], true, [.s, .s], [(.int .u64), .err], false⟩
noncomputable def B102 : Go.Code := Go.Proofs.Try.f102.body.get!
def shape_Fold.f (a0 : Int) (a1 : Int) : Option (Int × Option Int) := (shape_is.f a0).bind fun t100 => (if t100 = true then ((lead_Mask.f a0).bind fun t101 => (some (Go.bits .and .u64 a1 t101.1, t101.2))) else (some (0, some 2)))
--@ok
noncomputable def shape_Fold.c : Con := S102.con fun x => shape_Fold.f x.1 x.2
noncomputable def shape_Fold.G (k : Nat) : List (Go.FuncId × Con) := [(133, shape_is.c), (134, lead_Mask.c)]
noncomputable def shape_Fold.cuts : List (Cut (TT S102.sb)) := []
theorem shape_Fold.w (k : Nat) (x : TT S102.sa) : walk E102 (shape_Fold.G k) (cutsAt k shape_Fold.cuts) (retE E102 Go.Proofs.Try.f102.results.toList S102) 4000 true [([], .code B102)] (St0 S102 x) = shape_Fold.f x.1 x.2 := by kernel_rfl
theorem shape_Fold.ok : FnOk Go.Proofs.Try.prog E102.eT 102 (shape_Fold.c) := FnOk.walk (E := E102) (body := B102) Go.Proofs.Try.func102 rfl (by rfl) Go.Proofs.Try.ntmps102 S102 rfl (fun k x => shape_Fold.f x.1 x.2) shape_Fold.G (fun k => ⟨shape_is.ok, lead_Mask.ok, trivial⟩) 4000 shape_Fold.cuts trivial (fun k x r h => (shape_Fold.w k x).trans h) 0
noncomputable def E69 : En := ⟨Go.Proofs.Try.prog, 62, Go.Proofs.Try.f69.ntmps⟩
noncomputable def S69 : Sig := ⟨[.s, .s], [(.int .i64), (.int .u64)], true, [.s, .s], [(.int .i64), .err], false⟩
noncomputable def B69 : Go.Code := Go.Proofs.Try.f69.body.get!
def shape_Kind.f (a0 : Int) (a1 : Int) : Option (Int × Option Int) := (shape_Fold.f a0 a1).bind fun t100 => (if t100.2.isNone = true then (if t100.1 = 0 then (some (0, none)) else (if 0 ≤ (wrap64 (a0 - 1)) then (if t100.1 = (shl .u64 1 (wrap64 (a0 - 1))) then (some (2, none)) else (some (1, none))) else (none))) else (some (0, some (t100.2.getD 0))))
--@ok
noncomputable def shape_Kind.c : Con := S69.con fun x => shape_Kind.f x.1 x.2
noncomputable def shape_Kind.G (k : Nat) : List (Go.FuncId × Con) := [(102, shape_Fold.c)]
noncomputable def shape_Kind.cuts : List (Cut (TT S69.sb)) := []
theorem shape_Kind.w (k : Nat) (x : TT S69.sa) : walk E69 (shape_Kind.G k) (cutsAt k shape_Kind.cuts) (retE E69 Go.Proofs.Try.f69.results.toList S69) 4000 true [([], .code B69)] (St0 S69 x) = shape_Kind.f x.1 x.2 := by kernel_rfl
theorem shape_Kind.ok : FnOk Go.Proofs.Try.prog E69.eT 69 (shape_Kind.c) := FnOk.walk (E := E69) (body := B69) Go.Proofs.Try.func69 rfl (by rfl) Go.Proofs.Try.ntmps69 S69 rfl (fun k x => shape_Kind.f x.1 x.2) shape_Kind.G (fun k => ⟨shape_Fold.ok, trivial⟩) 4000 shape_Kind.cuts trivial (fun k x r h => (shape_Kind.w k x).trans h) 0
noncomputable def E135 : En := ⟨Go.Proofs.Try.prog, 62, Go.Proofs.Try.f135.ntmps⟩
noncomputable def S135 : Sig := ⟨[.s, .s], [(.int .u64), (.int .i64)], true, [.s, .s], [(.int .i64), .err], false⟩
noncomputable def B135 : Go.Code := Go.Proofs.Try.f135.body.get!
def lead_Extend.f (a0 : Int) (a1 : Int) : Option (Int × Option Int) := if a1 < 1 then (some (0, some 1)) else (if a1 > 64 then (some (0, some 1)) else (if 0 ≤ (wrap64 (64 - a1)) then (some (shr .i64 (wrap64 (shl .u64 a0 (wrap64 (64 - a1)))) (wrap64 (64 - a1)), none)) else (none)))
--@ok
def lead_Extend.fR (a0 : Int) (a1 : Int) : Option (Int × Option Int) := if a1 < 1 then (some (0, some 1)) else (if a1 > 64 then (some (0, some 1)) else (if 0 ≤ (wrap64 (64 - a1)) then (if 0 ≤ (wrap64 (64 - a1)) then (some (shr .i64 (wrap64 (shl .u64 a0 (wrap64 (64 - a1)))) (wrap64 (64 - a1)), none)) else (none)) else (none)))
theorem lead_Extend.fE (a0 : Int) (a1 : Int) : lead_Extend.fR a0 a1 = lead_Extend.f a0 a1 := by
  unfold lead_Extend.fR lead_Extend.f
  exact iteC (fun h0 => rfl) (fun h0 => iteC (fun h1 => rfl) (fun h1 => iteC (fun h2 => (if_pos h2).trans (rfl)) (fun h2 => rfl)))
noncomputable def lead_Extend.c : Con := S135.con fun x => lead_Extend.f x.1 x.2
noncomputable def lead_Extend.G (k : Nat) : List (Go.FuncId × Con) := []
noncomputable def lead_Extend.cuts : List (Cut (TT S135.sb)) := []
theorem lead_Extend.w (k : Nat) (x : TT S135.sa) : walk E135 (lead_Extend.G k) (cutsAt k lead_Extend.cuts) (retE E135 Go.Proofs.Try.f135.results.toList S135) 4000 true [([], .code B135)] (St0 S135 x) = lead_Extend.f x.1 x.2 := Eq.trans (b := lead_Extend.fR x.1 x.2) (by kernel_rfl) (lead_Extend.fE x.1 x.2)
theorem lead_Extend.ok : FnOk Go.Proofs.Try.prog E135.eT 135 (lead_Extend.c) := FnOk.walk (E := E135) (body := B135) Go.Proofs.Try.func135 rfl (by rfl) Go.Proofs.Try.ntmps135 S135 rfl (fun k x => lead_Extend.f x.1 x.2) lead_Extend.G (fun k => trivial) 4000 lead_Extend.cuts trivial (fun k x r h => (lead_Extend.w k x).trans h) 0
noncomputable def E103 : En := ⟨Go.Proofs.Try.prog, 62, Go.Proofs.Try.f103.ntmps⟩
noncomputable def S103 : Sig := ⟨[.s, .s], [(.int .i64), (.int .u64)], true, [.s, .s], [(.int .i64), .err], false⟩
noncomputable def B103 : Go.Code := Go.Proofs.Try.f103.body.get!
def shape_Rank.f (a0 : Int) (a1 : Int) : Option (Int × Option Int) := (shape_is.f a0).bind fun t100 => (if t100 = true then ((lead_Extend.f a1 a0).bind fun t101 => (some (t101.1, t101.2))) else (some (0, some 2)))
--@ok
noncomputable def shape_Rank.c : Con := S103.con fun x => shape_Rank.f x.1 x.2
noncomputable def shape_Rank.G (k : Nat) : List (Go.FuncId × Con) := [(133, shape_is.c), (135, lead_Extend.c)]
noncomputable def shape_Rank.cuts : List (Cut (TT S103.sb)) := []
theorem shape_Rank.w (k : Nat) (x : TT S103.sa) : walk E103 (shape_Rank.G k) (cutsAt k shape_Rank.cuts) (retE E103 Go.Proofs.Try.f103.results.toList S103) 4000 true [([], .code B103)] (St0 S103 x) = shape_Rank.f x.1 x.2 := by kernel_rfl
theorem shape_Rank.ok : FnOk Go.Proofs.Try.prog E103.eT 103 (shape_Rank.c) := FnOk.walk (E := E103) (body := B103) Go.Proofs.Try.func103 rfl (by rfl) Go.Proofs.Try.ntmps103 S103 rfl (fun k x => shape_Rank.f x.1 x.2) shape_Rank.G (fun k => ⟨shape_is.ok, lead_Extend.ok, trivial⟩) 4000 shape_Rank.cuts trivial (fun k x r h => (shape_Rank.w k x).trans h) 0
noncomputable def S130 : Sig := ⟨[.s], [(.int .u64)], false, [.s], [(.int .i64)], false⟩
def bits_Len64.f (a0 : Int) : Option (Int) := if 0 ≤ a0 ∧ a0 ≤ 18446744073709551615 then some (Lib.bitLen a0.toNat : Int) else none
--@ok
noncomputable def bits_Len64.c : Con := S130.con fun x => bits_Len64.f x
theorem bits_Len64.ok : FnOk Go.Proofs.Try.prog 62 130 bits_Len64.c := by
  intro (x : Int) (r : Int) w ok vs hF hv
  refine .inl ⟨enters Go.Proofs.Try.func130 rfl rfl vs w, ?_⟩
  have hF' : bits_Len64.f x = some r := hF
  unfold bits_Len64.f at hF'
  split at hF'
  · rename_i hx
    injection hF' with hF'
    subst hF'
    obtain ⟨l⟩ := vs
    match l, hv with
    | [], h => exact h.elim
    | [v], h =>
      obtain ⟨⟨rfl, -⟩, -⟩ := h
      refine (GLen.len64 x w hx.1 hx.2).mono ?_
      rintro e w' ⟨rfl, rfl⟩
      refine ⟨_, rfl, ⟨_, rfl, rfl, ?_, by simp, by simp⟩, .refl _ _⟩
      have h64 : (2 : Nat) ^ 64 = 18446744073709551616 := by decide
      have := Lib.bitLen_le x.toNat 64 (Nat.le_refl _) (by rw [h64]; have := hx.2; have := hx.1; generalize (show Int from x) = y at *; omega)
      constructor <;> simp only [kLo, kHi] <;> omega
    | _ :: _ :: _, h => exact h.2.elim
  · cases hF'
noncomputable def E98 : En := ⟨Go.Proofs.Try.prog, 62, Go.Proofs.Try.f98.ntmps⟩
noncomputable def S98 : Sig := ⟨[.s], [(.int .u64)], false, [.s], [(.int .i64)], false⟩
noncomputable def B98 : Go.Code := Go.Proofs.Try.f98.body.get!
def bits_LeadingZeros64.f (a0 : Int) : Option (Int) := (bits_Len64.f a0).bind fun t100 => (some (wrap64 (64 - t100)))
--@ok
noncomputable def bits_LeadingZeros64.c : Con := S98.con fun x => bits_LeadingZeros64.f x
noncomputable def bits_LeadingZeros64.G (k : Nat) : List (Go.FuncId × Con) := [(130, bits_Len64.c)]
noncomputable def bits_LeadingZeros64.cuts : List (Cut (TT S98.sb)) := []
theorem bits_LeadingZeros64.w (k : Nat) (x : TT S98.sa) : walk E98 (bits_LeadingZeros64.G k) (cutsAt k bits_LeadingZeros64.cuts) (retE E98 Go.Proofs.Try.f98.results.toList S98) 4000 true [([], .code B98)] (St0 S98 x) = bits_LeadingZeros64.f x := by kernel_rfl
theorem bits_LeadingZeros64.ok : FnOk Go.Proofs.Try.prog E98.eT 98 (bits_LeadingZeros64.c) := FnOk.walk (E := E98) (body := B98) Go.Proofs.Try.func98 rfl (by rfl) Go.Proofs.Try.ntmps98 S98 rfl (fun k x => bits_LeadingZeros64.f x) bits_LeadingZeros64.G (fun k => ⟨bits_Len64.ok, trivial⟩) 4000 bits_LeadingZeros64.cuts trivial (fun k x r h => (bits_LeadingZeros64.w k x).trans h) 0
noncomputable def E136 : En := ⟨Go.Proofs.Try.prog, 62, Go.Proofs.Try.f136.ntmps⟩
noncomputable def S136 : Sig := ⟨[.s, .s], [(.int .u64), (.int .i64)], true, [.s, .s, .s], [.bool, (.int .i64), .err], false⟩
noncomputable def B136 : Go.Code := Go.Proofs.Try.f136.body.get!
def lead_Run.j0 : Nat → Int → Int → Bool → Option (Bool × Int × Option Int)
 | 0, _, _, _ => none
 | k + 1, x0, x1, x13 => if x13 = true then (some (false, 0, some 1)) else (if 0 ≤ (wrap64 (64 - x1)) then (if ((shl .u64 x0 (wrap64 (64 - x1))) / 9223372036854775808) = 1 then ((bits_LeadingZeros64.f (Go.bits .xor .u64 18446744073709551615 (shl .u64 x0 (wrap64 (64 - x1))))).bind fun t100 => (some (((shl .u64 x0 (wrap64 (64 - x1))) / 9223372036854775808) == 1, mn t100 x1, none))) else ((bits_LeadingZeros64.f (shl .u64 x0 (wrap64 (64 - x1)))).bind fun t101 => (some (((shl .u64 x0 (wrap64 (64 - x1))) / 9223372036854775808) == 1, mn t101 x1, none)))) else (none))
def lead_Run.f (k : Nat) (a0 : Int) (a1 : Int) : Option (Bool × Int × Option Int) := if a1 < 1 then (lead_Run.j0 k a0 a1 true) else (lead_Run.j0 k a0 a1 (decide (a1 > 64)))
--@ok
noncomputable def lead_Run.c (k : Nat) : Con := S136.con fun x => lead_Run.f k x.1 x.2
noncomputable def lead_Run.G (k : Nat) : List (Go.FuncId × Con) := [(98, bits_LeadingZeros64.c)]
noncomputable def lead_Run.cuts : List (Cut (TT S136.sb)) := [⟨[1, 0, 1], [.sc 0 (.int .u64), .sc 1 (.int .i64), .sc 13 (.bool)], fun k x => lead_Run.j0 k x.1 x.2.1 x.2.2⟩]
theorem lead_Run.w0 (k : Nat) (x : ET [.sc 0 (.int .u64), .sc 1 (.int .i64), .sc 13 (.bool)]) : walk E136 (lead_Run.G k) (cutsAt k lead_Run.cuts) (retE E136 Go.Proofs.Try.f136.results.toList S136) 4000 true (stackAt B136 [1, 0, 1]) (mkE [.sc 0 (.int .u64), .sc 1 (.int .i64), .sc 13 (.bool)] x St.nil) = lead_Run.j0 (k + 1) x.1 x.2.1 x.2.2 := by kernel_rfl
theorem lead_Run.w (k : Nat) (x : TT S136.sa) : walk E136 (lead_Run.G k) (cutsAt k lead_Run.cuts) (retE E136 Go.Proofs.Try.f136.results.toList S136) 4000 true [([], .code B136)] (St0 S136 x) = lead_Run.f k x.1 x.2 := by kernel_rfl
theorem lead_Run.ok (k : Nat) : FnOk Go.Proofs.Try.prog E136.eT 136 (lead_Run.c k) := FnOk.walk (E := E136) (body := B136) Go.Proofs.Try.func136 rfl (by rfl) Go.Proofs.Try.ntmps136 S136 rfl (fun k x => lead_Run.f k x.1 x.2) lead_Run.G (fun k => ⟨bits_LeadingZeros64.ok, trivial⟩) 4000 lead_Run.cuts ⟨⟨fun _ => rfl, fun k x q h => (lead_Run.w0 k x).trans h⟩, trivial⟩ (fun k x r h => (lead_Run.w k x).trans h) k
noncomputable def E154 : En := ⟨Go.Proofs.Try.prog, 62, Go.Proofs.Try.f154.ntmps⟩
noncomputable def S154 : Sig := ⟨[.s, .s], [(.int .i64), (.int .i64)], false, [.s], [.bool], false⟩
noncomputable def B154 : Go.Code := Go.Proofs.Try.f154.body.get!
def lead_field.f (a0 : Int) (a1 : Int) : Option (Bool) := if a0 ≥ 0 then (if a0 ≤ 64 then (if a1 ≥ 0 then (some (decide (a1 ≤ (wrap64 (64 - a0))))) else (some false)) else (some false)) else (some false)
--@ok
noncomputable def lead_field.c : Con := S154.con fun x => lead_field.f x.1 x.2
noncomputable def lead_field.G (k : Nat) : List (Go.FuncId × Con) := []
noncomputable def lead_field.cuts : List (Cut (TT S154.sb)) := []
theorem lead_field.w (k : Nat) (x : TT S154.sa) : walk E154 (lead_field.G k) (cutsAt k lead_field.cuts) (retE E154 Go.Proofs.Try.f154.results.toList S154) 4000 true [([], .code B154)] (St0 S154 x) = lead_field.f x.1 x.2 := by kernel_rfl
theorem lead_field.ok : FnOk Go.Proofs.Try.prog E154.eT 154 (lead_field.c) := FnOk.walk (E := E154) (body := B154) Go.Proofs.Try.func154 rfl (by rfl) Go.Proofs.Try.ntmps154 S154 rfl (fun k x => lead_field.f x.1 x.2) lead_field.G (fun k => trivial) 4000 lead_field.cuts trivial (fun k x r h => (lead_field.w k x).trans h) 0
end Go.Proofs.Ythofoolgbngobaa.Fn
set_option maxRecDepth 100000
set_option linter.unusedVariables false
noncomputable section
namespace Go.Proofs.Ythofoolgbngobaa.Fn
open Go Go.RowKit Go.Proofs.Ythofoolgbngobaa.Ab
noncomputable def E137 : En := ⟨Go.Proofs.Try.prog, 62, Go.Proofs.Try.f137.ntmps⟩
noncomputable def S137 : Sig := ⟨[.s, .s, .s], [(.int .u64), (.int .i64), (.int .i64)], true, [.s, .s], [(.int .u64), .err], false⟩
noncomputable def B137 : Go.Code := Go.Proofs.Try.f137.body.get!
def lead_Field.f (a0 : Int) (a1 : Int) (a2 : Int) : Option (Int × Option Int) := (lead_field.f a1 a2).bind fun t100 => (if t100 = true then (if 0 ≤ a1 then ((lead_ones.f a2).bind fun t101 => (some (Go.bits .and .u64 (shr .u64 a0 a1) t101, none))) else (none)) else (some (0, some 1)))
--@ok
noncomputable def lead_Field.c : Con := S137.con fun x => lead_Field.f x.1 x.2.1 x.2.2
noncomputable def lead_Field.G (k : Nat) : List (Go.FuncId × Con) := [(153, lead_ones.c), (154, lead_field.c)]
noncomputable def lead_Field.cuts : List (Cut (TT S137.sb)) := []
theorem lead_Field.w (k : Nat) (x : TT S137.sa) : walk E137 (lead_Field.G k) (cutsAt k lead_Field.cuts) (retE E137 Go.Proofs.Try.f137.results.toList S137) 4000 true [([], .code B137)] (St0 S137 x) = lead_Field.f x.1 x.2.1 x.2.2 := by kernel_rfl
theorem lead_Field.ok : FnOk Go.Proofs.Try.prog E137.eT 137 (lead_Field.c) := FnOk.walk (E := E137) (body := B137) Go.Proofs.Try.func137 rfl (by rfl) Go.Proofs.Try.ntmps137 S137 rfl (fun k x => lead_Field.f x.1 x.2.1 x.2.2) lead_Field.G (fun k => ⟨lead_ones.ok, lead_field.ok, trivial⟩) 4000 lead_Field.cuts trivial (fun k x r h => (lead_Field.w k x).trans h) 0
noncomputable def E104 : En := ⟨Go.Proofs.Try.prog, 62, Go.Proofs.Try.f104.ntmps⟩
noncomputable def S104 : Sig := ⟨[.s, .s], [(.int .i64), (.int .u64)], true, [.g 8, .s], [.bool, .bool, (.int .i64), (.int .i64), (.int .i64), (.int .i64), (.int .i64), (.int .u64), .err], false⟩
noncomputable def B104 : Go.Code := Go.Proofs.Try.f104.body.get!
mutual
def codec_Split.j0 : Nat → Int → Int → Option Int → Bool → Option (Bool × Bool × Int × Int × Int × Int × Int × Int × Option Int)
 | 0, _, _, _, _ => none
 | k + 1, x0, x1, x7, x25 => if x25 = true then (some (false, false, 0, 0, 0, 0, 0, 0, x7)) else ((shape_Rank.f x0 x1).bind fun t101 => (if t101.1 < 0 then (codec_Split.j1 k x0 (IntKind.u64.wrap (-x1)) true) else (codec_Split.j1 k x0 x1 false)))
def codec_Split.j1 : Nat → Int → Int → Bool → Option (Bool × Bool × Int × Int × Int × Int × Int × Int × Option Int)
 | 0, _, _, _ => none
 | k + 1, x0, x1, x8000 => (lead_Run.f k x1 (wrap64 (x0 - 1))).bind fun t102 => (if t102.1 = true then ((lead_Field.f x1 (wrap64 ((mx (wrap64 ((wrap64 ((wrap64 (x0 - 1)) - t102.2.1)) - 1)) 0) - (mn (mx (wrap64 ((wrap64 ((wrap64 (x0 - 1)) - t102.2.1)) - 1)) 0) 2))) (mn (mx (wrap64 ((wrap64 ((wrap64 (x0 - 1)) - t102.2.1)) - 1)) 0) 2)).bind fun t103 => ((lead_Field.f x1 0 (wrap64 ((mx (wrap64 ((wrap64 ((wrap64 (x0 - 1)) - t102.2.1)) - 1)) 0) - (mn (mx (wrap64 ((wrap64 ((wrap64 (x0 - 1)) - t102.2.1)) - 1)) 0) 2)))).bind fun t104 => (some (x8000, t102.1, t102.2.1, wrap64 (t102.2.1 - 1), mn (mx (wrap64 ((wrap64 ((wrap64 (x0 - 1)) - t102.2.1)) - 1)) 0) 2, wrap64 ((wrap64 t103.1) * (2 ^ (((2 - (mn (mx (wrap64 ((wrap64 ((wrap64 (x0 - 1)) - t102.2.1)) - 1)) 0) 2)) : Int).toNat))), wrap64 ((mx (wrap64 ((wrap64 ((wrap64 (x0 - 1)) - t102.2.1)) - 1)) 0) - (mn (mx (wrap64 ((wrap64 ((wrap64 (x0 - 1)) - t102.2.1)) - 1)) 0) 2)), t104.1, none)))) else ((lead_Field.f x1 (wrap64 ((mx (wrap64 ((wrap64 ((wrap64 (x0 - 1)) - t102.2.1)) - 1)) 0) - (mn (mx (wrap64 ((wrap64 ((wrap64 (x0 - 1)) - t102.2.1)) - 1)) 0) 2))) (mn (mx (wrap64 ((wrap64 ((wrap64 (x0 - 1)) - t102.2.1)) - 1)) 0) 2)).bind fun t105 => ((lead_Field.f x1 0 (wrap64 ((mx (wrap64 ((wrap64 ((wrap64 (x0 - 1)) - t102.2.1)) - 1)) 0) - (mn (mx (wrap64 ((wrap64 ((wrap64 (x0 - 1)) - t102.2.1)) - 1)) 0) 2)))).bind fun t106 => (some (x8000, t102.1, t102.2.1, wrap64 (-t102.2.1), mn (mx (wrap64 ((wrap64 ((wrap64 (x0 - 1)) - t102.2.1)) - 1)) 0) 2, wrap64 ((wrap64 t105.1) * (2 ^ (((2 - (mn (mx (wrap64 ((wrap64 ((wrap64 (x0 - 1)) - t102.2.1)) - 1)) 0) 2)) : Int).toNat))), wrap64 ((mx (wrap64 ((wrap64 ((wrap64 (x0 - 1)) - t102.2.1)) - 1)) 0) - (mn (mx (wrap64 ((wrap64 ((wrap64 (x0 - 1)) - t102.2.1)) - 1)) 0) 2)), t106.1, none)))))
end
def codec_Split.f (k : Nat) (a0 : Int) (a1 : Int) : Option (Bool × Bool × Int × Int × Int × Int × Int × Int × Option Int) := (shape_Kind.f a0 a1).bind fun t100 => (if t100.2.isNone = true then (codec_Split.j0 k a0 a1 none (t100.1 != 1)) else (codec_Split.j0 k a0 a1 (some (t100.2.getD 0)) true))
--@ok
noncomputable def codec_Split.c (k : Nat) : Con := S104.con fun x => codec_Split.f k x.1 x.2
noncomputable def codec_Split.G (k : Nat) : List (Go.FuncId × Con) := [(69, shape_Kind.c), (103, shape_Rank.c), (136, lead_Run.c k), (137, lead_Field.c)]
noncomputable def codec_Split.cuts : List (Cut (TT S104.sb)) := [⟨[1, 0, 1, 1], [.sc 0 (.int .i64), .sc 1 (.int .u64), .sc 7 (.err), .sc 25 (.bool), .box 4 148 [.bool, .bool, .int .i64, .int .i64, .int .i64, .int .i64, .int .i64, .int .u64]], fun k x => codec_Split.j0 k x.1 x.2.1 x.2.2.1 x.2.2.2.1⟩, ⟨[1, 1, 1, 1, 1], [.sc 0 (.int .i64), .sc 1 (.int .u64), .box 4 148 [.bool, .bool, .int .i64, .int .i64, .int .i64, .int .i64, .int .i64, .int .u64], .box 8 148 [.bool, .bool, .int .i64, .int .i64, .int .i64, .int .i64, .int .i64, .int .u64]], fun k x => codec_Split.j1 k x.1 x.2.1 x.2.2.2.1⟩]
theorem codec_Split.w0 (k : Nat) (x : ET [.sc 0 (.int .i64), .sc 1 (.int .u64), .sc 7 (.err), .sc 25 (.bool), .box 4 148 [.bool, .bool, .int .i64, .int .i64, .int .i64, .int .i64, .int .i64, .int .u64]]) : walk E104 (codec_Split.G k) (cutsAt k codec_Split.cuts) (retE E104 Go.Proofs.Try.f104.results.toList S104) 4000 true (stackAt B104 [1, 0, 1, 1]) (mkE [.sc 0 (.int .i64), .sc 1 (.int .u64), .sc 7 (.err), .sc 25 (.bool), .box 4 148 [.bool, .bool, .int .i64, .int .i64, .int .i64, .int .i64, .int .i64, .int .u64]] x St.nil) = codec_Split.j0 (k + 1) x.1 x.2.1 x.2.2.1 x.2.2.2.1 := by kernel_rfl
theorem codec_Split.w1 (k : Nat) (x : ET [.sc 0 (.int .i64), .sc 1 (.int .u64), .box 4 148 [.bool, .bool, .int .i64, .int .i64, .int .i64, .int .i64, .int .i64, .int .u64], .box 8 148 [.bool, .bool, .int .i64, .int .i64, .int .i64, .int .i64, .int .i64, .int .u64]]) : walk E104 (codec_Split.G k) (cutsAt k codec_Split.cuts) (retE E104 Go.Proofs.Try.f104.results.toList S104) 4000 true (stackAt B104 [1, 1, 1, 1, 1]) (mkE [.sc 0 (.int .i64), .sc 1 (.int .u64), .box 4 148 [.bool, .bool, .int .i64, .int .i64, .int .i64, .int .i64, .int .i64, .int .u64], .box 8 148 [.bool, .bool, .int .i64, .int .i64, .int .i64, .int .i64, .int .i64, .int .u64]] x St.nil) = codec_Split.j1 (k + 1) x.1 x.2.1 x.2.2.2.1 := by kernel_rfl
theorem codec_Split.w (k : Nat) (x : TT S104.sa) : walk E104 (codec_Split.G k) (cutsAt k codec_Split.cuts) (retE E104 Go.Proofs.Try.f104.results.toList S104) 4000 true [([], .code B104)] (St0 S104 x) = codec_Split.f k x.1 x.2 := by kernel_rfl
theorem codec_Split.ok (k : Nat) : FnOk Go.Proofs.Try.prog E104.eT 104 (codec_Split.c k) := FnOk.walk (E := E104) (body := B104) Go.Proofs.Try.func104 rfl (by rfl) Go.Proofs.Try.ntmps104 S104 rfl (fun k x => codec_Split.f k x.1 x.2) codec_Split.G (fun k => ⟨shape_Kind.ok, shape_Rank.ok, lead_Run.ok k, lead_Field.ok, trivial⟩) 4000 codec_Split.cuts ⟨⟨fun _ => rfl, fun k x q h => (codec_Split.w0 k x).trans h⟩, ⟨fun _ => rfl, fun k x q h => (codec_Split.w1 k x).trans h⟩, trivial⟩ (fun k x r h => (codec_Split.w k x).trans h) k
noncomputable def E71 : En := ⟨Go.Proofs.Try.prog, 62, Go.Proofs.Try.f71.ntmps⟩
noncomputable def S71 : Sig := ⟨[.s, .s], [(.int .i64), (.int .u64)], true, [.g 4, .s], [(.int .i64), .bool, (.int .i64), (.int .u64), .err], false⟩
noncomputable def B71 : Go.Code := Go.Proofs.Try.f71.body.get!
def codec_Decode.f (k : Nat) (a0 : Int) (a1 : Int) : Option (Int × Bool × Int × Int × Option Int) := (shape_Kind.f a0 a1).bind fun t100 => (if t100.2.isNone = true then (if t100.1 = 1 then ((codec_Split.f k a0 a1).bind fun t101 => (if 0 ≤ (wrap64 (63 - t101.2.2.2.2.2.2.1)) then (some (t100.1, t101.1, wrap64 ((wrap64 (4 * t101.2.2.2.1)) + t101.2.2.2.2.2.1), Go.bits .or .u64 9223372036854775808 (shl .u64 t101.2.2.2.2.2.2.2.1 (wrap64 (63 - t101.2.2.2.2.2.2.1))), none)) else (none))) else (some (t100.1, false, 0, 0, none))) else (some (t100.1, false, 0, 0, some (t100.2.getD 0))))
--@ok
noncomputable def codec_Decode.c (k : Nat) : Con := S71.con fun x => codec_Decode.f k x.1 x.2
noncomputable def codec_Decode.G (k : Nat) : List (Go.FuncId × Con) := [(69, shape_Kind.c), (104, codec_Split.c k)]
noncomputable def codec_Decode.cuts : List (Cut (TT S71.sb)) := []
theorem codec_Decode.w (k : Nat) (x : TT S71.sa) : walk E71 (codec_Decode.G k) (cutsAt k codec_Decode.cuts) (retE E71 Go.Proofs.Try.f71.results.toList S71) 4000 true [([], .code B71)] (St0 S71 x) = codec_Decode.f k x.1 x.2 := by kernel_rfl
theorem codec_Decode.ok (k : Nat) : FnOk Go.Proofs.Try.prog E71.eT 71 (codec_Decode.c k) := FnOk.walk (E := E71) (body := B71) Go.Proofs.Try.func71 rfl (by rfl) Go.Proofs.Try.ntmps71 S71 rfl (fun k x => codec_Decode.f k x.1 x.2) codec_Decode.G (fun k => ⟨shape_Kind.ok, codec_Split.ok k, trivial⟩) 4000 codec_Decode.cuts trivial (fun k x r h => (codec_Decode.w k x).trans h) k
noncomputable def E101 : En := ⟨Go.Proofs.Try.prog, 62, Go.Proofs.Try.f101.ntmps⟩
noncomputable def S101 : Sig := ⟨[.s], [(.int .i64)], true, [.g 5, .s], [(.int .i64), (.int .u64), (.int .u64), (.int .u64), (.int .i64), .err], false⟩
noncomputable def B101 : Go.Code := Go.Proofs.Try.f101.body.get!
def shape_Of.f (a0 : Int) : Option (Int × Int × Int × Int × Int × Option Int) := (shape_is.f a0).bind fun t100 => (if t100 = true then (if 0 ≤ (wrap64 (a0 - 1)) then (some (a0, IntKind.u64.wrap ((shl .u64 1 (wrap64 (a0 - 1))) - 1), 1, shl .u64 1 (wrap64 (a0 - 1)), wrap64 ((wrap64 (4 * a0)) - 8), none)) else (none)) else (some (0, 0, 0, 0, 0, some 2)))
--@ok
noncomputable def shape_Of.c : Con := S101.con fun x => shape_Of.f x
noncomputable def shape_Of.G (k : Nat) : List (Go.FuncId × Con) := [(133, shape_is.c)]
noncomputable def shape_Of.cuts : List (Cut (TT S101.sb)) := []
theorem shape_Of.w (k : Nat) (x : TT S101.sa) : walk E101 (shape_Of.G k) (cutsAt k shape_Of.cuts) (retE E101 Go.Proofs.Try.f101.results.toList S101) 4000 true [([], .code B101)] (St0 S101 x) = shape_Of.f x := by kernel_rfl
theorem shape_Of.ok : FnOk Go.Proofs.Try.prog E101.eT 101 (shape_Of.c) := FnOk.walk (E := E101) (body := B101) Go.Proofs.Try.func101 rfl (by rfl) Go.Proofs.Try.ntmps101 S101 rfl (fun k x => shape_Of.f x) shape_Of.G (fun k => ⟨shape_is.ok, trivial⟩) 4000 shape_Of.cuts trivial (fun k x r h => (shape_Of.w k x).trans h) 0
noncomputable def E132 : En := ⟨Go.Proofs.Try.prog, 62, Go.Proofs.Try.f132.ntmps⟩
noncomputable def S132 : Sig := ⟨[.s], [(.int .i64)], false, [.s], [(.int .i64)], false⟩
noncomputable def B132 : Go.Code := Go.Proofs.Try.f132.body.get!
def round_held.f (a0 : Int) : Option (Int) := some (mx (-1099511627776) (mn a0 1099511627776))
--@ok
noncomputable def round_held.c : Con := S132.con fun x => round_held.f x
noncomputable def round_held.G (k : Nat) : List (Go.FuncId × Con) := []
noncomputable def round_held.cuts : List (Cut (TT S132.sb)) := []
theorem round_held.w (k : Nat) (x : TT S132.sa) : walk E132 (round_held.G k) (cutsAt k round_held.cuts) (retE E132 Go.Proofs.Try.f132.results.toList S132) 4000 true [([], .code B132)] (St0 S132 x) = round_held.f x := by kernel_rfl
theorem round_held.ok : FnOk Go.Proofs.Try.prog E132.eT 132 (round_held.c) := FnOk.walk (E := E132) (body := B132) Go.Proofs.Try.func132 rfl (by rfl) Go.Proofs.Try.ntmps132 S132 rfl (fun k x => round_held.f x) round_held.G (fun k => trivial) 4000 round_held.cuts trivial (fun k x r h => (round_held.w k x).trans h) 0
noncomputable def E107 : En := ⟨Go.Proofs.Try.prog, 62, Go.Proofs.Try.f107.ntmps⟩
noncomputable def S107 : Sig := ⟨[.g 6], [(.int .i64), .bool, (.int .i64), (.int .u64), (.int .u64), .bool], false, [.s], [.bool], false⟩
noncomputable def B107 : Go.Code := Go.Proofs.Try.f107.body.get!
def round_sound.j0 : Nat → Int → Bool → Int → Bool → Int → Int → Int → Bool → Option (Bool)
 | 0, _, _, _, _, _, _, _, _ => none
 | k + 1, x4, x5, x1000, x1001, x1002, x1003, x1004, x1005 => if x5 = true then (some ((x1000 == x1000) && ((!x1001) && ((x1002 == 0) && ((x1003 == 0) && ((x1004 == 0) && (!x1005))))))) else (if x4 = 1 then (if (x1003 / 9223372036854775808) = 1 then ((round_held.f x1002).bind fun t100 => (some (x1002 == t100))) else (some false)) else (some false))
def round_sound.f (k : Nat) (a0_0 : Int) (a0_1 : Bool) (a0_2 : Int) (a0_3 : Int) (a0_4 : Int) (a0_5 : Bool) : Option (Bool) := if a0_0 = 0 then (round_sound.j0 k a0_0 (a0_0 == 0) a0_0 a0_1 a0_2 a0_3 a0_4 a0_5) else (round_sound.j0 k a0_0 (a0_0 == 2) a0_0 a0_1 a0_2 a0_3 a0_4 a0_5)
--@ok
noncomputable def round_sound.c (k : Nat) : Con := S107.con fun x => round_sound.f k x.1 x.2.1 x.2.2.1 x.2.2.2.1 x.2.2.2.2.1 x.2.2.2.2.2
noncomputable def round_sound.G (k : Nat) : List (Go.FuncId × Con) := [(132, round_held.c)]
noncomputable def round_sound.cuts : List (Cut (TT S107.sb)) := [⟨[1, 4, 1, 0, 1], [.sc 4 (.int .i64), .sc 5 (.bool), .box 1 105 [.int .i64, .bool, .int .i64, .int .u64, .int .u64, .bool]], fun k x => round_sound.j0 k x.1 x.2.1 x.2.2.1 x.2.2.2.1 x.2.2.2.2.1 x.2.2.2.2.2.1 x.2.2.2.2.2.2.1 x.2.2.2.2.2.2.2⟩]
theorem round_sound.w0 (k : Nat) (x : ET [.sc 4 (.int .i64), .sc 5 (.bool), .box 1 105 [.int .i64, .bool, .int .i64, .int .u64, .int .u64, .bool]]) : walk E107 (round_sound.G k) (cutsAt k round_sound.cuts) (retE E107 Go.Proofs.Try.f107.results.toList S107) 4000 true (stackAt B107 [1, 4, 1, 0, 1]) (mkE [.sc 4 (.int .i64), .sc 5 (.bool), .box 1 105 [.int .i64, .bool, .int .i64, .int .u64, .int .u64, .bool]] x St.nil) = round_sound.j0 (k + 1) x.1 x.2.1 x.2.2.1 x.2.2.2.1 x.2.2.2.2.1 x.2.2.2.2.2.1 x.2.2.2.2.2.2.1 x.2.2.2.2.2.2.2 := by kernel_rfl
theorem round_sound.w (k : Nat) (x : TT S107.sa) : walk E107 (round_sound.G k) (cutsAt k round_sound.cuts) (retE E107 Go.Proofs.Try.f107.results.toList S107) 4000 true [([], .code B107)] (St0 S107 x) = round_sound.f k x.1 x.2.1 x.2.2.1 x.2.2.2.1 x.2.2.2.2.1 x.2.2.2.2.2 := by kernel_rfl
theorem round_sound.ok (k : Nat) : FnOk Go.Proofs.Try.prog E107.eT 107 (round_sound.c k) := FnOk.walk (E := E107) (body := B107) Go.Proofs.Try.func107 rfl (by rfl) Go.Proofs.Try.ntmps107 S107 rfl (fun k x => round_sound.f k x.1 x.2.1 x.2.2.1 x.2.2.2.1 x.2.2.2.2.1 x.2.2.2.2.2) round_sound.G (fun k => ⟨round_held.ok, trivial⟩) 4000 round_sound.cuts ⟨⟨fun _ => rfl, fun k x q h => (round_sound.w0 k x).trans h⟩, trivial⟩ (fun k x r h => (round_sound.w k x).trans h) k
noncomputable def E151 : En := ⟨Go.Proofs.Try.prog, 62, Go.Proofs.Try.f151.ntmps⟩
noncomputable def S151 : Sig := ⟨[.g 2], [(.int .u64), (.int .u64)], false, [.s], [(.int .i64)], false⟩
noncomputable def B151 : Go.Code := Go.Proofs.Try.f151.body.get!
def twin_Len.f (a0_0 : Int) (a0_1 : Int) : Option (Int) := if a0_0 > 0 then ((bits_Len64.f a0_0).bind fun t100 => (some (wrap64 (64 + t100)))) else ((bits_Len64.f a0_1).bind fun t101 => (some t101))
--@ok
noncomputable def twin_Len.c : Con := S151.con fun x => twin_Len.f x.1 x.2
noncomputable def twin_Len.G (k : Nat) : List (Go.FuncId × Con) := [(130, bits_Len64.c)]
noncomputable def twin_Len.cuts : List (Cut (TT S151.sb)) := []
theorem twin_Len.w (k : Nat) (x : TT S151.sa) : walk E151 (twin_Len.G k) (cutsAt k twin_Len.cuts) (retE E151 Go.Proofs.Try.f151.results.toList S151) 4000 true [([], .code B151)] (St0 S151 x) = twin_Len.f x.1 x.2 := by kernel_rfl
theorem twin_Len.ok : FnOk Go.Proofs.Try.prog E151.eT 151 (twin_Len.c) := FnOk.walk (E := E151) (body := B151) Go.Proofs.Try.func151 rfl (by rfl) Go.Proofs.Try.ntmps151 S151 rfl (fun k x => twin_Len.f x.1 x.2) twin_Len.G (fun k => ⟨bits_Len64.ok, trivial⟩) 4000 twin_Len.cuts trivial (fun k x r h => (twin_Len.w k x).trans h) 0
noncomputable def E152 : En := ⟨Go.Proofs.Try.prog, 62, Go.Proofs.Try.f152.ntmps⟩
noncomputable def S152 : Sig := ⟨[.g 2, .s], [(.int .u64), (.int .u64), (.int .i64)], false, [.g 2], [(.int .u64), (.int .u64)], false⟩
noncomputable def B152 : Go.Code := Go.Proofs.Try.f152.body.get!
def twin_shl.f (a0_0 : Int) (a0_1 : Int) (a1 : Int) : Option (Int × Int) := if a1 ≥ 64 then (if 0 ≤ (wrap64 (a1 - 64)) then (some (shl .u64 a0_1 (wrap64 (a1 - 64)), 0)) else (none)) else (if 0 ≤ a1 then (if 0 ≤ (wrap64 (64 - a1)) then (some (Go.bits .or .u64 (shl .u64 a0_0 a1) (shr .u64 a0_1 (wrap64 (64 - a1))), shl .u64 a0_1 a1)) else (none)) else (none))
--@ok
def twin_shl.fR (a0_0 : Int) (a0_1 : Int) (a1 : Int) : Option (Int × Int) := if a1 ≥ 64 then (if 0 ≤ (wrap64 (a1 - 64)) then (some (shl .u64 a0_1 (wrap64 (a1 - 64)), 0)) else (none)) else (if 0 ≤ a1 then (if 0 ≤ (wrap64 (64 - a1)) then (if 0 ≤ a1 then (some (Go.bits .or .u64 (shl .u64 a0_0 a1) (shr .u64 a0_1 (wrap64 (64 - a1))), shl .u64 a0_1 a1)) else (none)) else (none)) else (none))
theorem twin_shl.fE (a0_0 : Int) (a0_1 : Int) (a1 : Int) : twin_shl.fR a0_0 a0_1 a1 = twin_shl.f a0_0 a0_1 a1 := by
  unfold twin_shl.fR twin_shl.f
  exact iteC (fun h0 => iteC (fun h1 => rfl) (fun h1 => rfl)) (fun h0 => iteC (fun h1 => iteC (fun h2 => (if_pos h1).trans (rfl)) (fun h2 => rfl)) (fun h1 => rfl))
noncomputable def twin_shl.c : Con := S152.con fun x => twin_shl.f x.1 x.2.1 x.2.2
noncomputable def twin_shl.G (k : Nat) : List (Go.FuncId × Con) := []
noncomputable def twin_shl.cuts : List (Cut (TT S152.sb)) := []
theorem twin_shl.w (k : Nat) (x : TT S152.sa) : walk E152 (twin_shl.G k) (cutsAt k twin_shl.cuts) (retE E152 Go.Proofs.Try.f152.results.toList S152) 4000 true [([], .code B152)] (St0 S152 x) = twin_shl.f x.1 x.2.1 x.2.2 := Eq.trans (b := twin_shl.fR x.1 x.2.1 x.2.2) (by kernel_rfl) (twin_shl.fE x.1 x.2.1 x.2.2)
theorem twin_shl.ok : FnOk Go.Proofs.Try.prog E152.eT 152 (twin_shl.c) := FnOk.walk (E := E152) (body := B152) Go.Proofs.Try.func152 rfl (by rfl) Go.Proofs.Try.ntmps152 S152 rfl (fun k x => twin_shl.f x.1 x.2.1 x.2.2) twin_shl.G (fun k => trivial) 4000 twin_shl.cuts trivial (fun k x r h => (twin_shl.w k x).trans h) 0
noncomputable def E138 : En := ⟨Go.Proofs.Try.prog, 62, Go.Proofs.Try.f138.ntmps⟩
noncomputable def S138 : Sig := ⟨[.g 2, .s], [(.int .u64), (.int .u64), (.int .i64)], true, [.g 2, .s, .s], [(.int .u64), (.int .u64), .bool, .err], false⟩
noncomputable def B138 : Go.Code := Go.Proofs.Try.f138.body.get!
def twin_Shl.f (a0_0 : Int) (a0_1 : Int) (a1 : Int) : Option (Int × Int × Bool × Option Int) := if a1 < 0 then (some (0, 0, false, some 1)) else ((twin_shl.f a0_0 a0_1 (mn a1 128)).bind fun t100 => ((twin_Len.f a0_0 a0_1).bind fun t101 => (some (t100.1, t100.2, decide (t101 > (wrap64 (128 - (mn a1 128)))), none))))
--@ok
noncomputable def twin_Shl.c : Con := S138.con fun x => twin_Shl.f x.1 x.2.1 x.2.2
noncomputable def twin_Shl.G (k : Nat) : List (Go.FuncId × Con) := [(151, twin_Len.c), (152, twin_shl.c)]
noncomputable def twin_Shl.cuts : List (Cut (TT S138.sb)) := []
theorem twin_Shl.w (k : Nat) (x : TT S138.sa) : walk E138 (twin_Shl.G k) (cutsAt k twin_Shl.cuts) (retE E138 Go.Proofs.Try.f138.results.toList S138) 4000 true [([], .code B138)] (St0 S138 x) = twin_Shl.f x.1 x.2.1 x.2.2 := by kernel_rfl
theorem twin_Shl.ok : FnOk Go.Proofs.Try.prog E138.eT 138 (twin_Shl.c) := FnOk.walk (E := E138) (body := B138) Go.Proofs.Try.func138 rfl (by rfl) Go.Proofs.Try.ntmps138 S138 rfl (fun k x => twin_Shl.f x.1 x.2.1 x.2.2) twin_Shl.G (fun k => ⟨twin_Len.ok, twin_shl.ok, trivial⟩) 4000 twin_Shl.cuts trivial (fun k x r h => (twin_Shl.w k x).trans h) 0
noncomputable def E155 : En := ⟨Go.Proofs.Try.prog, 62, Go.Proofs.Try.f155.ntmps⟩
noncomputable def S155 : Sig := ⟨[.g 2, .s], [(.int .u64), (.int .u64), (.int .i64)], false, [.g 2], [(.int .u64), (.int .u64)], false⟩
noncomputable def B155 : Go.Code := Go.Proofs.Try.f155.body.get!
def twin_shr.f (a0_0 : Int) (a0_1 : Int) (a1 : Int) : Option (Int × Int) := if a1 ≥ 64 then (if 0 ≤ (wrap64 (a1 - 64)) then (some (0, shr .u64 a0_0 (wrap64 (a1 - 64)))) else (none)) else (if 0 ≤ a1 then (if 0 ≤ (wrap64 (64 - a1)) then (some (shr .u64 a0_0 a1, Go.bits .or .u64 (shr .u64 a0_1 a1) (shl .u64 a0_0 (wrap64 (64 - a1))))) else (none)) else (none))
--@ok
def twin_shr.fR (a0_0 : Int) (a0_1 : Int) (a1 : Int) : Option (Int × Int) := if a1 ≥ 64 then (if 0 ≤ (wrap64 (a1 - 64)) then (some (0, shr .u64 a0_0 (wrap64 (a1 - 64)))) else (none)) else (if 0 ≤ a1 then (if 0 ≤ a1 then (if 0 ≤ (wrap64 (64 - a1)) then (some (shr .u64 a0_0 a1, Go.bits .or .u64 (shr .u64 a0_1 a1) (shl .u64 a0_0 (wrap64 (64 - a1))))) else (none)) else (none)) else (none))
theorem twin_shr.fE (a0_0 : Int) (a0_1 : Int) (a1 : Int) : twin_shr.fR a0_0 a0_1 a1 = twin_shr.f a0_0 a0_1 a1 := by
  unfold twin_shr.fR twin_shr.f
  exact iteC (fun h0 => iteC (fun h1 => rfl) (fun h1 => rfl)) (fun h0 => iteC (fun h1 => (if_pos h1).trans (iteC (fun h2 => rfl) (fun h2 => rfl))) (fun h1 => rfl))
noncomputable def twin_shr.c : Con := S155.con fun x => twin_shr.f x.1 x.2.1 x.2.2
noncomputable def twin_shr.G (k : Nat) : List (Go.FuncId × Con) := []
noncomputable def twin_shr.cuts : List (Cut (TT S155.sb)) := []
theorem twin_shr.w (k : Nat) (x : TT S155.sa) : walk E155 (twin_shr.G k) (cutsAt k twin_shr.cuts) (retE E155 Go.Proofs.Try.f155.results.toList S155) 4000 true [([], .code B155)] (St0 S155 x) = twin_shr.f x.1 x.2.1 x.2.2 := Eq.trans (b := twin_shr.fR x.1 x.2.1 x.2.2) (by kernel_rfl) (twin_shr.fE x.1 x.2.1 x.2.2)
theorem twin_shr.ok : FnOk Go.Proofs.Try.prog E155.eT 155 (twin_shr.c) := FnOk.walk (E := E155) (body := B155) Go.Proofs.Try.func155 rfl (by rfl) Go.Proofs.Try.ntmps155 S155 rfl (fun k x => twin_shr.f x.1 x.2.1 x.2.2) twin_shr.G (fun k => trivial) 4000 twin_shr.cuts trivial (fun k x r h => (twin_shr.w k x).trans h) 0
noncomputable def E145 : En := ⟨Go.Proofs.Try.prog, 62, Go.Proofs.Try.f145.ntmps⟩
noncomputable def S145 : Sig := ⟨[.g 2, .s], [(.int .u64), (.int .u64), (.int .i64)], true, [.g 2, .s, .s], [(.int .u64), (.int .u64), .bool, .err], false⟩
noncomputable def B145 : Go.Code := Go.Proofs.Try.f145.body.get!
def twin_Shr.f (a0_0 : Int) (a0_1 : Int) (a1 : Int) : Option (Int × Int × Bool × Option Int) := if a1 < 0 then (some (0, 0, false, some 1)) else ((twin_shr.f a0_0 a0_1 (mn a1 128)).bind fun t100 => ((twin_shl.f t100.1 t100.2 (mn a1 128)).bind fun t101 => (some (t100.1, t100.2, !((t101.1 == a0_0) && (t101.2 == a0_1)), none))))
--@ok
noncomputable def twin_Shr.c : Con := S145.con fun x => twin_Shr.f x.1 x.2.1 x.2.2
noncomputable def twin_Shr.G (k : Nat) : List (Go.FuncId × Con) := [(152, twin_shl.c), (155, twin_shr.c)]
noncomputable def twin_Shr.cuts : List (Cut (TT S145.sb)) := []
theorem twin_Shr.w (k : Nat) (x : TT S145.sa) : walk E145 (twin_Shr.G k) (cutsAt k twin_Shr.cuts) (retE E145 Go.Proofs.Try.f145.results.toList S145) 4000 true [([], .code B145)] (St0 S145 x) = twin_Shr.f x.1 x.2.1 x.2.2 := by kernel_rfl
theorem twin_Shr.ok : FnOk Go.Proofs.Try.prog E145.eT 145 (twin_Shr.c) := FnOk.walk (E := E145) (body := B145) Go.Proofs.Try.func145 rfl (by rfl) Go.Proofs.Try.ntmps145 S145 rfl (fun k x => twin_Shr.f x.1 x.2.1 x.2.2) twin_Shr.G (fun k => ⟨twin_shl.ok, twin_shr.ok, trivial⟩) 4000 twin_Shr.cuts trivial (fun k x r h => (twin_Shr.w k x).trans h) 0
noncomputable def E139 : En := ⟨Go.Proofs.Try.prog, 62, Go.Proofs.Try.f139.ntmps⟩
noncomputable def S139 : Sig := ⟨[.g 2, .s, .s, .s], [(.int .u64), (.int .u64), (.int .u64), (.int .i64), .bool], true, [.g 2, .s], [(.int .u64), (.int .u64), .bool], false⟩
noncomputable def B139 : Go.Code := Go.Proofs.Try.f139.body.get!
def round_under.f (a0_0 : Int) (a0_1 : Int) (a1 : Int) (a2 : Int) (a3 : Bool) : Option (Int × Int × Bool) := (twin_Shr.f a0_0 a0_1 a2).bind fun t100 => (if 0 ≤ (wrap64 (64 - a2)) then (if a3 = true then (some (Go.bits .or .u64 t100.1 (shl .u64 a1 (wrap64 (64 - a2))), t100.2.1, true)) else (some (Go.bits .or .u64 t100.1 (shl .u64 a1 (wrap64 (64 - a2))), t100.2.1, t100.2.2.1))) else (none))
--@ok
noncomputable def round_under.c : Con := S139.con fun x => round_under.f x.1 x.2.1 x.2.2.1 x.2.2.2.1 x.2.2.2.2
noncomputable def round_under.G (k : Nat) : List (Go.FuncId × Con) := [(145, twin_Shr.c)]
noncomputable def round_under.cuts : List (Cut (TT S139.sb)) := []
theorem round_under.w (k : Nat) (x : TT S139.sa) : walk E139 (round_under.G k) (cutsAt k round_under.cuts) (retE E139 Go.Proofs.Try.f139.results.toList S139) 4000 true [([], .code B139)] (St0 S139 x) = round_under.f x.1 x.2.1 x.2.2.1 x.2.2.2.1 x.2.2.2.2 := by kernel_rfl
theorem round_under.ok : FnOk Go.Proofs.Try.prog E139.eT 139 (round_under.c) := FnOk.walk (E := E139) (body := B139) Go.Proofs.Try.func139 rfl (by rfl) Go.Proofs.Try.ntmps139 S139 rfl (fun k x => round_under.f x.1 x.2.1 x.2.2.1 x.2.2.2.1 x.2.2.2.2) round_under.G (fun k => ⟨twin_Shr.ok, trivial⟩) 4000 round_under.cuts trivial (fun k x r h => (round_under.w k x).trans h) 0
end Go.Proofs.Ythofoolgbngobaa.Fn
set_option maxRecDepth 100000
set_option linter.unusedVariables false
noncomputable section
namespace Go.Proofs.Ythofoolgbngobaa.Fn
open Go Go.RowKit Go.Proofs.Ythofoolgbngobaa.Ab
noncomputable def E140 : En := ⟨Go.Proofs.Try.prog, 62, Go.Proofs.Try.f140.ntmps⟩
noncomputable def S140 : Sig := ⟨[.s, .s], [(.int .u64), .bool], false, [.s], [(.int .i64)], false⟩
noncomputable def B140 : Go.Code := Go.Proofs.Try.f140.body.get!
def round_left.j0 : Nat → Int → Bool → Int → Bool → Option (Int)
 | 0, _, _, _, _ => none
 | k + 1, x0, x1, x5, x6 => if x6 = true then (some 3) else (if x0 = x5 then (some 2) else (if x0 > 0 then (some 1) else (if x1 = true then (some 1) else (some 0))))
def round_left.f (k : Nat) (a0 : Int) (a1 : Bool) : Option (Int) := if a0 > 9223372036854775808 then (round_left.j0 k a0 a1 9223372036854775808 (decide (a0 > 9223372036854775808))) else (if a0 = 9223372036854775808 then (round_left.j0 k a0 a1 9223372036854775808 a1) else (round_left.j0 k a0 a1 9223372036854775808 false))
--@ok
noncomputable def round_left.c (k : Nat) : Con := S140.con fun x => round_left.f k x.1 x.2
noncomputable def round_left.G (k : Nat) : List (Go.FuncId × Con) := []
noncomputable def round_left.cuts : List (Cut (TT S140.sb)) := [⟨[1, 4, 0, 1, 1], [.sc 0 (.int .u64), .sc 1 (.bool), .sc 5 (.int .u64), .sc 6 (.bool)], fun k x => round_left.j0 k x.1 x.2.1 x.2.2.1 x.2.2.2⟩]
theorem round_left.w0 (k : Nat) (x : ET [.sc 0 (.int .u64), .sc 1 (.bool), .sc 5 (.int .u64), .sc 6 (.bool)]) : walk E140 (round_left.G k) (cutsAt k round_left.cuts) (retE E140 Go.Proofs.Try.f140.results.toList S140) 4000 true (stackAt B140 [1, 4, 0, 1, 1]) (mkE [.sc 0 (.int .u64), .sc 1 (.bool), .sc 5 (.int .u64), .sc 6 (.bool)] x St.nil) = round_left.j0 (k + 1) x.1 x.2.1 x.2.2.1 x.2.2.2 := by kernel_rfl
theorem round_left.w (k : Nat) (x : TT S140.sa) : walk E140 (round_left.G k) (cutsAt k round_left.cuts) (retE E140 Go.Proofs.Try.f140.results.toList S140) 4000 true [([], .code B140)] (St0 S140 x) = round_left.f k x.1 x.2 := by kernel_rfl
theorem round_left.ok (k : Nat) : FnOk Go.Proofs.Try.prog E140.eT 140 (round_left.c k) := FnOk.walk (E := E140) (body := B140) Go.Proofs.Try.func140 rfl (by rfl) Go.Proofs.Try.ntmps140 S140 rfl (fun k x => round_left.f k x.1 x.2) round_left.G (fun k => trivial) 4000 round_left.cuts ⟨⟨fun _ => rfl, fun k x q h => (round_left.w0 k x).trans h⟩, trivial⟩ (fun k x r h => (round_left.w k x).trans h) k
noncomputable def E105 : En := ⟨Go.Proofs.Try.prog, 62, Go.Proofs.Try.f105.ntmps⟩
noncomputable def S105 : Sig := ⟨[.s, .g 6], [(.int .i64), (.int .i64), .bool, (.int .i64), (.int .u64), (.int .u64), .bool], true, [.s, .s, .s], [(.int .u64), (.int .i64), .err], false⟩
noncomputable def B105 : Go.Code := Go.Proofs.Try.f105.body.get!
mutual
def round_Cut.j0 : Nat → Int → Int → Int → Int → Bool → Option (Int × Int × Option Int)
 | 0, _, _, _, _, _ => none
 | k + 1, x0, x3002, x3003, x3004, x3005 => (twin_Shl.f x3003 x3004 1).bind fun t102 => ((round_under.f t102.1 t102.2.1 (IntKind.u64.wrap (Go.bits .and .i64 x3002 3)) 2 x3005).bind fun t103 => (if (x3002 / 4) ≥ 0 then ((round_under.f t103.1 t103.2.1 0 1 t103.2.2).bind fun t104 => (round_Cut.l0 k x0 t104.2.2 (wrap64 ((x3002 / 4) + 1)) 0 t104.1 t104.2.1)) else ((round_under.f t103.1 t103.2.1 1 1 t103.2.2).bind fun t105 => (round_Cut.l1 k x0 t105.2.2 (wrap64 (-(x3002 / 4))) 0 t105.1 t105.2.1))))
def round_Cut.l0 : Nat → Int → Bool → Int → Int → Int → Int → Option (Int × Int × Option Int)
 | 0, _, _, _, _, _, _ => none
 | k + 1, x0, x12, x114, x115, x9000, x9001 => if x115 < x114 then ((round_under.f x9000 x9001 1 1 x12).bind fun t106 => (round_Cut.l0 k x0 t106.2.2 x114 (wrap64 (x115 + 1)) t106.1 t106.2.1)) else (round_Cut.j3 k x0 x12 x9000 x9001)
def round_Cut.l1 : Nat → Int → Bool → Int → Int → Int → Int → Option (Int × Int × Option Int)
 | 0, _, _, _, _, _, _ => none
 | k + 1, x0, x12, x131, x132, x9000, x9001 => if x132 < x131 then ((round_under.f x9000 x9001 0 1 x12).bind fun t107 => (round_Cut.l1 k x0 t107.2.2 x131 (wrap64 (x132 + 1)) t107.1 t107.2.1)) else (round_Cut.j3 k x0 x12 x9000 x9001)
def round_Cut.j3 : Nat → Int → Bool → Int → Int → Option (Int × Int × Option Int)
 | 0, _, _, _, _ => none
 | k + 1, x0, x12, x9000, x9001 => if 0 ≤ (wrap64 (65 - x0)) then ((twin_Shl.f x9000 x9001 (wrap64 (x0 - 1))).bind fun t108 => (if t108.2.1 = 0 then ((round_left.f k t108.1 x12).bind fun t109 => (some (shr .u64 x9000 (wrap64 (65 - x0)), t109, none))) else ((round_left.f k t108.1 true).bind fun t110 => (some (shr .u64 x9000 (wrap64 (65 - x0)), t110, none))))) else (none)
end
def round_Cut.f (k : Nat) (a0 : Int) (a1_0 : Int) (a1_1 : Bool) (a1_2 : Int) (a1_3 : Int) (a1_4 : Int) (a1_5 : Bool) : Option (Int × Int × Option Int) := (shape_Of.f a0).bind fun t100 => (if t100.2.2.2.2.2.isNone = true then ((round_sound.f k a1_0 a1_1 a1_2 a1_3 a1_4 a1_5).bind fun t101 => (if t101 = true then (if a1_0 = 0 then (some (0, 0, none)) else (if a1_0 = 2 then (some (t100.2.2.2.1, 0, none)) else (if a1_2 ≥ t100.2.2.2.2.1 then (some (t100.2.1, 0, none)) else (if a1_2 < (wrap64 (-t100.2.2.2.2.1)) then (some (t100.2.2.1, 0, none)) else (if a1_2 = (wrap64 (-t100.2.2.2.2.1)) then (if a1_3 = 9223372036854775808 then (if a1_4 = 0 then (if a1_5 = true then (round_Cut.j0 k a0 a1_2 a1_3 a1_4 a1_5) else (some (t100.2.2.1, 0, none))) else (round_Cut.j0 k a0 a1_2 a1_3 a1_4 a1_5)) else (round_Cut.j0 k a0 a1_2 a1_3 a1_4 a1_5)) else (round_Cut.j0 k a0 a1_2 a1_3 a1_4 a1_5)))))) else (some (0, 0, some 1)))) else (some (0, 0, some (t100.2.2.2.2.2.getD 0))))
--@ok
def round_Cut.fR (k : Nat) (a0 : Int) (a1_0 : Int) (a1_1 : Bool) (a1_2 : Int) (a1_3 : Int) (a1_4 : Int) (a1_5 : Bool) : Option (Int × Int × Option Int) := (shape_Of.f a0).bind fun t100 => (if t100.2.2.2.2.2.isNone = true then ((round_sound.f k a1_0 a1_1 a1_2 a1_3 a1_4 a1_5).bind fun t101 => (if t101 = true then (if a1_0 = 0 then (some (0, 0, none)) else (if a1_0 = 2 then (some (t100.2.2.2.1, 0, none)) else (if a1_2 ≥ t100.2.2.2.2.1 then (some (t100.2.1, 0, none)) else (if a1_2 < (wrap64 (-t100.2.2.2.2.1)) then (if a1_2 < (wrap64 (-t100.2.2.2.2.1)) then (some (t100.2.2.1, 0, none)) else (round_Cut.j0 k a0 a1_2 a1_3 a1_4 a1_5)) else (if a1_2 = (wrap64 (-t100.2.2.2.2.1)) then (if a1_3 = 9223372036854775808 then (if a1_4 = 0 then (if a1_5 = true then (round_Cut.j0 k a0 a1_2 a1_3 a1_4 a1_5) else (some (t100.2.2.1, 0, none))) else (round_Cut.j0 k a0 a1_2 a1_3 a1_4 a1_5)) else (round_Cut.j0 k a0 a1_2 a1_3 a1_4 a1_5)) else (round_Cut.j0 k a0 a1_2 a1_3 a1_4 a1_5)))))) else (some (0, 0, some 1)))) else (some (0, 0, some (t100.2.2.2.2.2.getD 0))))
theorem round_Cut.fE (k : Nat) (a0 : Int) (a1_0 : Int) (a1_1 : Bool) (a1_2 : Int) (a1_3 : Int) (a1_4 : Int) (a1_5 : Bool) : round_Cut.fR k a0 a1_0 a1_1 a1_2 a1_3 a1_4 a1_5 = round_Cut.f k a0 a1_0 a1_1 a1_2 a1_3 a1_4 a1_5 := by
  unfold round_Cut.fR round_Cut.f
  exact bindC fun _ => iteC (fun h0 => bindC fun _ => iteC (fun h1 => iteC (fun h2 => rfl) (fun h2 => iteC (fun h3 => rfl) (fun h3 => iteC (fun h4 => rfl) (fun h4 => iteC (fun h5 => (if_pos h5).trans (rfl)) (fun h5 => iteC (fun h6 => iteC (fun h7 => iteC (fun h8 => iteC (fun h9 => rfl) (fun h9 => rfl)) (fun h8 => rfl)) (fun h7 => rfl)) (fun h6 => rfl)))))) (fun h1 => rfl)) (fun h0 => rfl)
noncomputable def round_Cut.c (k : Nat) : Con := S105.con fun x => round_Cut.f k x.1 x.2.1 x.2.2.1 x.2.2.2.1 x.2.2.2.2.1 x.2.2.2.2.2.1 x.2.2.2.2.2.2
noncomputable def round_Cut.G (k : Nat) : List (Go.FuncId × Con) := [(101, shape_Of.c), (107, round_sound.c k), (138, twin_Shl.c), (139, round_under.c), (140, round_left.c k)]
noncomputable def round_Cut.cuts : List (Cut (TT S105.sb)) := [⟨[1, 1, 1], [.sc 0 (.int .i64), .box 3 105 [.int .i64, .bool, .int .i64, .int .u64, .int .u64, .bool]], fun k x => round_Cut.j0 k x.1 x.2.2.2.1 x.2.2.2.2.1 x.2.2.2.2.2.1 x.2.2.2.2.2.2⟩, ⟨[6, 4, 1, 1, 2, 1, 0, 1, 1, 1, 1, 1, 1, 1], [.sc 0 (.int .i64), .sc 12 (.bool), .sc 114 (.int .i64), .sc 115 (.int .i64), .box 9 165 [.int .u64, .int .u64]], fun k x => round_Cut.l0 k x.1 x.2.1 x.2.2.1 x.2.2.2.1 x.2.2.2.2.1 x.2.2.2.2.2⟩, ⟨[6, 4, 1, 1, 3, 1, 0, 1, 1, 1, 1, 1, 1, 1], [.sc 0 (.int .i64), .sc 12 (.bool), .sc 131 (.int .i64), .sc 132 (.int .i64), .box 9 165 [.int .u64, .int .u64]], fun k x => round_Cut.l1 k x.1 x.2.1 x.2.2.1 x.2.2.2.1 x.2.2.2.2.1 x.2.2.2.2.2⟩, ⟨[1, 1, 1, 1, 1, 1, 1, 1], [.sc 0 (.int .i64), .sc 12 (.bool), .box 9 165 [.int .u64, .int .u64]], fun k x => round_Cut.j3 k x.1 x.2.1 x.2.2.1 x.2.2.2⟩]
theorem round_Cut.w0 (k : Nat) (x : ET [.sc 0 (.int .i64), .box 3 105 [.int .i64, .bool, .int .i64, .int .u64, .int .u64, .bool]]) : walk E105 (round_Cut.G k) (cutsAt k round_Cut.cuts) (retE E105 Go.Proofs.Try.f105.results.toList S105) 4000 true (stackAt B105 [1, 1, 1]) (mkE [.sc 0 (.int .i64), .box 3 105 [.int .i64, .bool, .int .i64, .int .u64, .int .u64, .bool]] x St.nil) = round_Cut.j0 (k + 1) x.1 x.2.2.2.1 x.2.2.2.2.1 x.2.2.2.2.2.1 x.2.2.2.2.2.2 := by kernel_rfl
theorem round_Cut.w1 (k : Nat) (x : ET [.sc 0 (.int .i64), .sc 12 (.bool), .sc 114 (.int .i64), .sc 115 (.int .i64), .box 9 165 [.int .u64, .int .u64]]) : walk E105 (round_Cut.G k) (cutsAt k round_Cut.cuts) (retE E105 Go.Proofs.Try.f105.results.toList S105) 4000 true (stackAt B105 [6, 4, 1, 1, 2, 1, 0, 1, 1, 1, 1, 1, 1, 1]) (mkE [.sc 0 (.int .i64), .sc 12 (.bool), .sc 114 (.int .i64), .sc 115 (.int .i64), .box 9 165 [.int .u64, .int .u64]] x St.nil) = round_Cut.l0 (k + 1) x.1 x.2.1 x.2.2.1 x.2.2.2.1 x.2.2.2.2.1 x.2.2.2.2.2 := by kernel_rfl
theorem round_Cut.w2 (k : Nat) (x : ET [.sc 0 (.int .i64), .sc 12 (.bool), .sc 131 (.int .i64), .sc 132 (.int .i64), .box 9 165 [.int .u64, .int .u64]]) : walk E105 (round_Cut.G k) (cutsAt k round_Cut.cuts) (retE E105 Go.Proofs.Try.f105.results.toList S105) 4000 true (stackAt B105 [6, 4, 1, 1, 3, 1, 0, 1, 1, 1, 1, 1, 1, 1]) (mkE [.sc 0 (.int .i64), .sc 12 (.bool), .sc 131 (.int .i64), .sc 132 (.int .i64), .box 9 165 [.int .u64, .int .u64]] x St.nil) = round_Cut.l1 (k + 1) x.1 x.2.1 x.2.2.1 x.2.2.2.1 x.2.2.2.2.1 x.2.2.2.2.2 := by kernel_rfl
theorem round_Cut.w3 (k : Nat) (x : ET [.sc 0 (.int .i64), .sc 12 (.bool), .box 9 165 [.int .u64, .int .u64]]) : walk E105 (round_Cut.G k) (cutsAt k round_Cut.cuts) (retE E105 Go.Proofs.Try.f105.results.toList S105) 4000 true (stackAt B105 [1, 1, 1, 1, 1, 1, 1, 1]) (mkE [.sc 0 (.int .i64), .sc 12 (.bool), .box 9 165 [.int .u64, .int .u64]] x St.nil) = round_Cut.j3 (k + 1) x.1 x.2.1 x.2.2.1 x.2.2.2 := by kernel_rfl
theorem round_Cut.w (k : Nat) (x : TT S105.sa) : walk E105 (round_Cut.G k) (cutsAt k round_Cut.cuts) (retE E105 Go.Proofs.Try.f105.results.toList S105) 4000 true [([], .code B105)] (St0 S105 x) = round_Cut.f k x.1 x.2.1 x.2.2.1 x.2.2.2.1 x.2.2.2.2.1 x.2.2.2.2.2.1 x.2.2.2.2.2.2 := Eq.trans (b := round_Cut.fR k x.1 x.2.1 x.2.2.1 x.2.2.2.1 x.2.2.2.2.1 x.2.2.2.2.2.1 x.2.2.2.2.2.2) (by kernel_rfl) (round_Cut.fE k x.1 x.2.1 x.2.2.1 x.2.2.2.1 x.2.2.2.2.1 x.2.2.2.2.2.1 x.2.2.2.2.2.2)
theorem round_Cut.ok (k : Nat) : FnOk Go.Proofs.Try.prog E105.eT 105 (round_Cut.c k) := FnOk.walk (E := E105) (body := B105) Go.Proofs.Try.func105 rfl (by rfl) Go.Proofs.Try.ntmps105 S105 rfl (fun k x => round_Cut.f k x.1 x.2.1 x.2.2.1 x.2.2.2.1 x.2.2.2.2.1 x.2.2.2.2.2.1 x.2.2.2.2.2.2) round_Cut.G (fun k => ⟨shape_Of.ok, round_sound.ok k, twin_Shl.ok, round_under.ok, round_left.ok k, trivial⟩) 4000 round_Cut.cuts ⟨⟨fun _ => rfl, fun k x q h => (round_Cut.w0 k x).trans h⟩, ⟨fun _ => rfl, fun k x q h => (round_Cut.w1 k x).trans h⟩, ⟨fun _ => rfl, fun k x q h => (round_Cut.w2 k x).trans h⟩, ⟨fun _ => rfl, fun k x q h => (round_Cut.w3 k x).trans h⟩, trivial⟩ (fun k x r h => (round_Cut.w k x).trans h) k
noncomputable def E73 : En := ⟨Go.Proofs.Try.prog, 62, Go.Proofs.Try.f73.ntmps⟩
noncomputable def S73 : Sig := ⟨[.s, .g 6], [(.int .i64), (.int .i64), .bool, (.int .i64), (.int .u64), (.int .u64), .bool], true, [.s, .s], [(.int .u64), .err], false⟩
noncomputable def B73 : Go.Code := Go.Proofs.Try.f73.body.get!
def round_Round.f (k : Nat) (a0 : Int) (a1_0 : Int) (a1_1 : Bool) (a1_2 : Int) (a1_3 : Int) (a1_4 : Int) (a1_5 : Bool) : Option (Int × Option Int) := (round_Cut.f k a0 a1_0 a1_1 a1_2 a1_3 a1_4 a1_5).bind fun t100 => (if t100.2.2.isNone = true then (if t100.2.1 = 2 then (if (Go.bits .and .u64 t100.1 1) = 0 then (if a1_1 = true then ((shape_Fold.f a0 (IntKind.u64.wrap (-t100.1))).bind fun t101 => (some (t101.1, t101.2))) else ((shape_Fold.f a0 t100.1).bind fun t102 => (some (t102.1, t102.2)))) else (if a1_1 = true then ((shape_Fold.f a0 (IntKind.u64.wrap (-(IntKind.u64.wrap (t100.1 + 1))))).bind fun t103 => (some (t103.1, t103.2))) else ((shape_Fold.f a0 (IntKind.u64.wrap (t100.1 + 1))).bind fun t104 => (some (t104.1, t104.2))))) else (if t100.2.1 = 3 then (if a1_1 = true then ((shape_Fold.f a0 (IntKind.u64.wrap (-(IntKind.u64.wrap (t100.1 + 1))))).bind fun t105 => (some (t105.1, t105.2))) else ((shape_Fold.f a0 (IntKind.u64.wrap (t100.1 + 1))).bind fun t106 => (some (t106.1, t106.2)))) else (if a1_1 = true then ((shape_Fold.f a0 (IntKind.u64.wrap (-t100.1))).bind fun t107 => (some (t107.1, t107.2))) else ((shape_Fold.f a0 t100.1).bind fun t108 => (some (t108.1, t108.2)))))) else (some (0, some (t100.2.2.getD 0))))
--@ok
noncomputable def round_Round.c (k : Nat) : Con := S73.con fun x => round_Round.f k x.1 x.2.1 x.2.2.1 x.2.2.2.1 x.2.2.2.2.1 x.2.2.2.2.2.1 x.2.2.2.2.2.2
noncomputable def round_Round.G (k : Nat) : List (Go.FuncId × Con) := [(102, shape_Fold.c), (105, round_Cut.c k)]
noncomputable def round_Round.cuts : List (Cut (TT S73.sb)) := []
theorem round_Round.w (k : Nat) (x : TT S73.sa) : walk E73 (round_Round.G k) (cutsAt k round_Round.cuts) (retE E73 Go.Proofs.Try.f73.results.toList S73) 4000 true [([], .code B73)] (St0 S73 x) = round_Round.f k x.1 x.2.1 x.2.2.1 x.2.2.2.1 x.2.2.2.2.1 x.2.2.2.2.2.1 x.2.2.2.2.2.2 := by kernel_rfl
theorem round_Round.ok (k : Nat) : FnOk Go.Proofs.Try.prog E73.eT 73 (round_Round.c k) := FnOk.walk (E := E73) (body := B73) Go.Proofs.Try.func73 rfl (by rfl) Go.Proofs.Try.ntmps73 S73 rfl (fun k x => round_Round.f k x.1 x.2.1 x.2.2.1 x.2.2.2.1 x.2.2.2.2.1 x.2.2.2.2.2.1 x.2.2.2.2.2.2) round_Round.G (fun k => ⟨shape_Fold.ok, round_Cut.ok k, trivial⟩) 4000 round_Round.cuts trivial (fun k x r h => (round_Round.w k x).trans h) k
noncomputable def E77 : En := ⟨Go.Proofs.Try.prog, 62, Go.Proofs.Try.f77.ntmps⟩
noncomputable def S77 : Sig := ⟨[.g 4], [(.int .i64), .bool, (.int .i64), (.int .u64)], true, [.g 6, .s], [(.int .i64), .bool, (.int .i64), (.int .u64), (.int .u64), .bool, .err], false⟩
noncomputable def B77 : Go.Code := Go.Proofs.Try.f77.body.get!
def round_Of.f (k : Nat) (a0_0 : Int) (a0_1 : Bool) (a0_2 : Int) (a0_3 : Int) : Option (Int × Bool × Int × Int × Int × Bool × Option Int) := (round_sound.f k a0_0 a0_1 a0_2 a0_3 0 false).bind fun t100 => (if t100 = true then (if a0_2 < (-1073741824) then (some (0, false, 0, 0, 0, false, some 1)) else (if a0_2 > 1073741824 then (some (0, false, 0, 0, 0, false, some 1)) else (some (a0_0, a0_1, a0_2, a0_3, 0, false, none)))) else (some (0, false, 0, 0, 0, false, some 1)))
--@ok
noncomputable def round_Of.c (k : Nat) : Con := S77.con fun x => round_Of.f k x.1 x.2.1 x.2.2.1 x.2.2.2
noncomputable def round_Of.G (k : Nat) : List (Go.FuncId × Con) := [(107, round_sound.c k)]
noncomputable def round_Of.cuts : List (Cut (TT S77.sb)) := []
theorem round_Of.w (k : Nat) (x : TT S77.sa) : walk E77 (round_Of.G k) (cutsAt k round_Of.cuts) (retE E77 Go.Proofs.Try.f77.results.toList S77) 4000 true [([], .code B77)] (St0 S77 x) = round_Of.f k x.1 x.2.1 x.2.2.1 x.2.2.2 := by kernel_rfl
theorem round_Of.ok (k : Nat) : FnOk Go.Proofs.Try.prog E77.eT 77 (round_Of.c k) := FnOk.walk (E := E77) (body := B77) Go.Proofs.Try.func77 rfl (by rfl) Go.Proofs.Try.ntmps77 S77 rfl (fun k x => round_Of.f k x.1 x.2.1 x.2.2.1 x.2.2.2) round_Of.G (fun k => ⟨round_sound.ok k, trivial⟩) 4000 round_Of.cuts trivial (fun k x r h => (round_Of.w k x).trans h) k
noncomputable def E108 : En := ⟨Go.Proofs.Try.prog, 62, Go.Proofs.Try.f108.ntmps⟩
noncomputable def S108 : Sig := ⟨[.g 4, .s], [(.int .u64), (.int .u64), (.int .u64), (.int .u64), (.int .i64)], true, [.g 4, .s], [(.int .u64), (.int .u64), (.int .u64), (.int .u64), .bool], false⟩
noncomputable def B108 : Go.Code := Go.Proofs.Try.f108.body.get!
def broad_wide_under.l0 : Nat → Int → Bool → Int → Int → Int → Int → Option (Int × Int × Int × Int × Bool)
 | 0, _, _, _, _, _, _ => none
 | k + 1, x1, x6, x2000, x2001, x2002, x2003 => if x1 ≥ 64 then (if x6 = true then (broad_wide_under.l0 k (wrap64 (x1 - 64)) true 0 x2000 x2001 x2002) else (broad_wide_under.l0 k (wrap64 (x1 - 64)) (x2003 != 0) 0 x2000 x2001 x2002)) else (if x1 = 0 then (some (x2000, x2001, x2002, x2003, x6)) else (if x6 = true then (if 0 ≤ x1 then (if 0 ≤ (wrap64 (64 - x1)) then (some (shr .u64 x2000 x1, Go.bits .or .u64 (shr .u64 x2001 x1) (shl .u64 x2000 (wrap64 (64 - x1))), Go.bits .or .u64 (shr .u64 x2002 x1) (shl .u64 x2001 (wrap64 (64 - x1))), Go.bits .or .u64 (shr .u64 x2003 x1) (shl .u64 x2002 (wrap64 (64 - x1))), true)) else (none)) else (none)) else (if 0 ≤ (wrap64 (64 - x1)) then (if 0 ≤ x1 then (some (shr .u64 x2000 x1, Go.bits .or .u64 (shr .u64 x2001 x1) (shl .u64 x2000 (wrap64 (64 - x1))), Go.bits .or .u64 (shr .u64 x2002 x1) (shl .u64 x2001 (wrap64 (64 - x1))), Go.bits .or .u64 (shr .u64 x2003 x1) (shl .u64 x2002 (wrap64 (64 - x1))), (shl .u64 x2003 (wrap64 (64 - x1))) != 0)) else (none)) else (none))))
def broad_wide_under.f (k : Nat) (a0_0 : Int) (a0_1 : Int) (a0_2 : Int) (a0_3 : Int) (a1 : Int) : Option (Int × Int × Int × Int × Bool) := if a1 ≥ 256 then (some (0, 0, 0, 0, !((a0_0 == 0) && ((a0_1 == 0) && ((a0_2 == 0) && (a0_3 == 0)))))) else (broad_wide_under.l0 k a1 false a0_0 a0_1 a0_2 a0_3)
--@ok
def broad_wide_under.l0R (k : Nat) (x1 : Int) (x6 : Bool) (x2000 : Int) (x2001 : Int) (x2002 : Int) (x2003 : Int) : Option (Int × Int × Int × Int × Bool) := if x1 ≥ 64 then (if x6 = true then (broad_wide_under.l0 k (wrap64 (x1 - 64)) true 0 x2000 x2001 x2002) else (broad_wide_under.l0 k (wrap64 (x1 - 64)) (x2003 != 0) 0 x2000 x2001 x2002)) else (if x1 = 0 then (some (x2000, x2001, x2002, x2003, x6)) else (if x6 = true then (if 0 ≤ x1 then (if 0 ≤ x1 then (if 0 ≤ (wrap64 (64 - x1)) then (if 0 ≤ x1 then (if 0 ≤ (wrap64 (64 - x1)) then (if 0 ≤ x1 then (if 0 ≤ (wrap64 (64 - x1)) then (some (shr .u64 x2000 x1, Go.bits .or .u64 (shr .u64 x2001 x1) (shl .u64 x2000 (wrap64 (64 - x1))), Go.bits .or .u64 (shr .u64 x2002 x1) (shl .u64 x2001 (wrap64 (64 - x1))), Go.bits .or .u64 (shr .u64 x2003 x1) (shl .u64 x2002 (wrap64 (64 - x1))), true)) else (none)) else (none)) else (none)) else (none)) else (none)) else (none)) else (none)) else (if 0 ≤ (wrap64 (64 - x1)) then (if 0 ≤ x1 then (if 0 ≤ x1 then (if 0 ≤ (wrap64 (64 - x1)) then (if 0 ≤ x1 then (if 0 ≤ (wrap64 (64 - x1)) then (if 0 ≤ x1 then (if 0 ≤ (wrap64 (64 - x1)) then (some (shr .u64 x2000 x1, Go.bits .or .u64 (shr .u64 x2001 x1) (shl .u64 x2000 (wrap64 (64 - x1))), Go.bits .or .u64 (shr .u64 x2002 x1) (shl .u64 x2001 (wrap64 (64 - x1))), Go.bits .or .u64 (shr .u64 x2003 x1) (shl .u64 x2002 (wrap64 (64 - x1))), (shl .u64 x2003 (wrap64 (64 - x1))) != 0)) else (none)) else (none)) else (none)) else (none)) else (none)) else (none)) else (none)) else (none))))
theorem broad_wide_under.l0E (k : Nat) (x1 : Int) (x6 : Bool) (x2000 : Int) (x2001 : Int) (x2002 : Int) (x2003 : Int) : broad_wide_under.l0R k x1 x6 x2000 x2001 x2002 x2003 = broad_wide_under.l0 (k + 1) x1 x6 x2000 x2001 x2002 x2003 := by
  unfold broad_wide_under.l0R
  rw [broad_wide_under.l0]
  exact iteC (fun h0 => iteC (fun h1 => rfl) (fun h1 => rfl)) (fun h0 => iteC (fun h1 => rfl) (fun h1 => iteC (fun h2 => iteC (fun h3 => (if_pos h3).trans (iteC (fun h4 => (if_pos h3).trans ((if_pos h4).trans ((if_pos h3).trans ((if_pos h4).trans (rfl))))) (fun h4 => rfl))) (fun h3 => rfl)) (fun h2 => iteC (fun h3 => iteC (fun h4 => (if_pos h4).trans ((if_pos h3).trans ((if_pos h4).trans ((if_pos h3).trans ((if_pos h4).trans ((if_pos h3).trans (rfl))))))) (fun h4 => rfl)) (fun h3 => rfl))))
noncomputable def broad_wide_under.c (k : Nat) : Con := S108.con fun x => broad_wide_under.f k x.1 x.2.1 x.2.2.1 x.2.2.2.1 x.2.2.2.2
noncomputable def broad_wide_under.G (k : Nat) : List (Go.FuncId × Con) := []
noncomputable def broad_wide_under.cuts : List (Cut (TT S108.sb)) := [⟨[6, 4, 0, 1, 1, 1], [.sc 1 (.int .i64), .sc 6 (.bool), .box 2 155 [.int .u64, .int .u64, .int .u64, .int .u64], .box 4 155 [.int .u64, .int .u64, .int .u64, .int .u64]], fun k x => broad_wide_under.l0 k x.1 x.2.1 x.2.2.1.1 x.2.2.1.2.1 x.2.2.1.2.2.1 x.2.2.1.2.2.2⟩]
theorem broad_wide_under.w0 (k : Nat) (x : ET [.sc 1 (.int .i64), .sc 6 (.bool), .box 2 155 [.int .u64, .int .u64, .int .u64, .int .u64], .box 4 155 [.int .u64, .int .u64, .int .u64, .int .u64]]) : walk E108 (broad_wide_under.G k) (cutsAt k broad_wide_under.cuts) (retE E108 Go.Proofs.Try.f108.results.toList S108) 4000 true (stackAt B108 [6, 4, 0, 1, 1, 1]) (mkE [.sc 1 (.int .i64), .sc 6 (.bool), .box 2 155 [.int .u64, .int .u64, .int .u64, .int .u64], .box 4 155 [.int .u64, .int .u64, .int .u64, .int .u64]] x St.nil) = broad_wide_under.l0 (k + 1) x.1 x.2.1 x.2.2.1.1 x.2.2.1.2.1 x.2.2.1.2.2.1 x.2.2.1.2.2.2 := Eq.trans (b := broad_wide_under.l0R k x.1 x.2.1 x.2.2.1.1 x.2.2.1.2.1 x.2.2.1.2.2.1 x.2.2.1.2.2.2) (by kernel_rfl) (broad_wide_under.l0E k x.1 x.2.1 x.2.2.1.1 x.2.2.1.2.1 x.2.2.1.2.2.1 x.2.2.1.2.2.2)
theorem broad_wide_under.w (k : Nat) (x : TT S108.sa) : walk E108 (broad_wide_under.G k) (cutsAt k broad_wide_under.cuts) (retE E108 Go.Proofs.Try.f108.results.toList S108) 4000 true [([], .code B108)] (St0 S108 x) = broad_wide_under.f k x.1 x.2.1 x.2.2.1 x.2.2.2.1 x.2.2.2.2 := by kernel_rfl
theorem broad_wide_under.ok (k : Nat) : FnOk Go.Proofs.Try.prog E108.eT 108 (broad_wide_under.c k) := FnOk.walk (E := E108) (body := B108) Go.Proofs.Try.func108 rfl (by rfl) Go.Proofs.Try.ntmps108 S108 rfl (fun k x => broad_wide_under.f k x.1 x.2.1 x.2.2.1 x.2.2.2.1 x.2.2.2.2) broad_wide_under.G (fun k => trivial) 4000 broad_wide_under.cuts ⟨⟨fun _ => rfl, fun k x q h => (broad_wide_under.w0 k x).trans h⟩, trivial⟩ (fun k x r h => (broad_wide_under.w k x).trans h) k
noncomputable def S141 : Sig := ⟨[.s, .s, .s], [(.int .u64), (.int .u64), (.int .u64)], true, [.s, .s], [(.int .u64), (.int .u64)], false⟩
def bits_Add64.f (a0 : Int) (a1 : Int) (a2 : Int) : Option (Int × Int) := if 0 ≤ a0 ∧ a0 < 18446744073709551616 ∧ 0 ≤ a1 ∧ a1 < 18446744073709551616 ∧ 0 ≤ a2 ∧ a2 ≤ 1 then some ((a0 + a1 + a2) % 18446744073709551616, (a0 + a1 + a2) / 18446744073709551616) else none
--@ok
noncomputable def bits_Add64.c : Con := S141.con fun x => bits_Add64.f x.1 x.2.1 x.2.2
theorem bits_Add64.ok : FnOk Go.Proofs.Try.prog 62 141 bits_Add64.c := by
  intro x r w ok vs hF hv
  obtain ⟨a, b, c⟩ := x
  have hF' : bits_Add64.f a b c = some r := hF
  unfold bits_Add64.f at hF'
  split at hF'
  · rename_i hx
    injection hF' with hF'
    subst hF'
    obtain ⟨l⟩ := vs
    match l, hv with
    | [v1, v2, v3], h =>
      obtain ⟨⟨rfl, -⟩, ⟨rfl, -⟩, ⟨rfl, -⟩, -⟩ := h
      refine .inr ⟨_, w, CarryX.add64 a b c hx.1 hx.2.1 hx.2.2.1 hx.2.2.2.1 hx.2.2.2.2.1 hx.2.2.2.2.2 w, ⟨_, rfl, _, rfl, ⟨rfl, ?_, by simp, by simp⟩, ⟨rfl, ?_, by simp, by simp⟩, trivial⟩, .refl _ _⟩
      · constructor <;> simp only [kLo, kHi] <;> omega
      · constructor <;> simp only [kLo, kHi] <;> omega
    | [], h => exact h.elim
    | [_], h => exact h.2.elim
    | [_, _], h => exact h.2.2.elim
    | _ :: _ :: _ :: _ :: _, h => exact h.2.2.2.elim
  · cases hF'
noncomputable def E109 : En := ⟨Go.Proofs.Try.prog, 62, Go.Proofs.Try.f109.ntmps⟩
noncomputable def S109 : Sig := ⟨[.g 4, .g 4], [(.int .u64), (.int .u64), (.int .u64), (.int .u64), (.int .u64), (.int .u64), (.int .u64), (.int .u64)], true, [.g 4, .s], [(.int .u64), (.int .u64), (.int .u64), (.int .u64), (.int .u64)], false⟩
noncomputable def B109 : Go.Code := Go.Proofs.Try.f109.body.get!
def broad_wide_plus.f (a0_0 : Int) (a0_1 : Int) (a0_2 : Int) (a0_3 : Int) (a1_0 : Int) (a1_1 : Int) (a1_2 : Int) (a1_3 : Int) : Option (Int × Int × Int × Int × Int) := (bits_Add64.f a0_3 a1_3 0).bind fun t100 => ((bits_Add64.f a0_2 a1_2 t100.2).bind fun t101 => ((bits_Add64.f a0_1 a1_1 t101.2).bind fun t102 => ((bits_Add64.f a0_0 a1_0 t102.2).bind fun t103 => (some (t103.1, t102.1, t101.1, t100.1, t103.2)))))
--@ok
noncomputable def broad_wide_plus.c : Con := S109.con fun x => broad_wide_plus.f x.1 x.2.1 x.2.2.1 x.2.2.2.1 x.2.2.2.2.1 x.2.2.2.2.2.1 x.2.2.2.2.2.2.1 x.2.2.2.2.2.2.2
noncomputable def broad_wide_plus.G (k : Nat) : List (Go.FuncId × Con) := [(141, bits_Add64.c)]
noncomputable def broad_wide_plus.cuts : List (Cut (TT S109.sb)) := []
theorem broad_wide_plus.w (k : Nat) (x : TT S109.sa) : walk E109 (broad_wide_plus.G k) (cutsAt k broad_wide_plus.cuts) (retE E109 Go.Proofs.Try.f109.results.toList S109) 4000 true [([], .code B109)] (St0 S109 x) = broad_wide_plus.f x.1 x.2.1 x.2.2.1 x.2.2.2.1 x.2.2.2.2.1 x.2.2.2.2.2.1 x.2.2.2.2.2.2.1 x.2.2.2.2.2.2.2 := by kernel_rfl
theorem broad_wide_plus.ok : FnOk Go.Proofs.Try.prog E109.eT 109 (broad_wide_plus.c) := FnOk.walk (E := E109) (body := B109) Go.Proofs.Try.func109 rfl (by rfl) Go.Proofs.Try.ntmps109 S109 rfl (fun k x => broad_wide_plus.f x.1 x.2.1 x.2.2.1 x.2.2.2.1 x.2.2.2.2.1 x.2.2.2.2.2.1 x.2.2.2.2.2.2.1 x.2.2.2.2.2.2.2) broad_wide_plus.G (fun k => ⟨bits_Add64.ok, trivial⟩) 4000 broad_wide_plus.cuts trivial (fun k x r h => (broad_wide_plus.w k x).trans h) 0
noncomputable def S142 : Sig := ⟨[.s, .s, .s], [(.int .u64), (.int .u64), (.int .u64)], true, [.s, .s], [(.int .u64), (.int .u64)], false⟩
def bits_Sub64.f (a0 : Int) (a1 : Int) (a2 : Int) : Option (Int × Int) := if 0 ≤ a0 ∧ 0 ≤ a1 ∧ a1 < 18446744073709551616 ∧ 0 ≤ a2 ∧ a2 ≤ 1 then some ((a0 - a1 - a2) % 18446744073709551616, if a0 < a1 + a2 then 1 else 0) else none
--@ok
noncomputable def bits_Sub64.c : Con := S142.con fun x => bits_Sub64.f x.1 x.2.1 x.2.2
theorem bits_Sub64.ok : FnOk Go.Proofs.Try.prog 62 142 bits_Sub64.c := by
  intro x r w ok vs hF hv
  have hF' : bits_Sub64.f x.1 x.2.1 x.2.2 = some r := hF
  obtain ⟨a, b, c⟩ := x
  unfold bits_Sub64.f at hF'
  split at hF'
  · rename_i hx
    injection hF' with hF'
    subst hF'
    obtain ⟨l⟩ := vs
    match l, hv with
    | [v1, v2, v3], h =>
      obtain ⟨⟨rfl, -⟩, ⟨rfl, -⟩, ⟨rfl, -⟩, -⟩ := h
      refine .inr ⟨_, w, CarryX.sub64 a b c hx.1 hx.2.1 hx.2.2.1 hx.2.2.2.1 hx.2.2.2.2 w, ⟨_, rfl, _, rfl, ⟨rfl, ?_, by simp, by simp⟩, ⟨rfl, ?_, by simp, by simp⟩, trivial⟩, .refl _ _⟩
      · constructor <;> simp only [kLo, kHi] <;> omega
      · constructor <;> simp only [kLo, kHi] <;> split <;> omega
    | [], h => exact h.elim
    | [_], h => exact h.2.elim
    | [_, _], h => exact h.2.2.elim
    | _ :: _ :: _ :: _ :: _, h => exact h.2.2.2.elim
  · cases hF'
end Go.Proofs.Ythofoolgbngobaa.Fn
set_option maxRecDepth 100000
set_option linter.unusedVariables false
noncomputable section
namespace Go.Proofs.Ythofoolgbngobaa.Fn
open Go Go.RowKit Go.Proofs.Ythofoolgbngobaa.Ab
noncomputable def E110 : En := ⟨Go.Proofs.Try.prog, 62, Go.Proofs.Try.f110.ntmps⟩
noncomputable def S110 : Sig := ⟨[.g 4, .g 4, .s], [(.int .u64), (.int .u64), (.int .u64), (.int .u64), (.int .u64), (.int .u64), (.int .u64), (.int .u64), (.int .u64)], true, [.g 4, .s], [(.int .u64), (.int .u64), (.int .u64), (.int .u64), (.int .u64)], false⟩
noncomputable def B110 : Go.Code := Go.Proofs.Try.f110.body.get!
def broad_wide_less.f (a0_0 : Int) (a0_1 : Int) (a0_2 : Int) (a0_3 : Int) (a1_0 : Int) (a1_1 : Int) (a1_2 : Int) (a1_3 : Int) (a2 : Int) : Option (Int × Int × Int × Int × Int) := (bits_Sub64.f a0_3 a1_3 a2).bind fun t100 => ((bits_Sub64.f a0_2 a1_2 t100.2).bind fun t101 => ((bits_Sub64.f a0_1 a1_1 t101.2).bind fun t102 => ((bits_Sub64.f a0_0 a1_0 t102.2).bind fun t103 => (some (t103.1, t102.1, t101.1, t100.1, t103.2)))))
--@ok
noncomputable def broad_wide_less.c : Con := S110.con fun x => broad_wide_less.f x.1 x.2.1 x.2.2.1 x.2.2.2.1 x.2.2.2.2.1 x.2.2.2.2.2.1 x.2.2.2.2.2.2.1 x.2.2.2.2.2.2.2.1 x.2.2.2.2.2.2.2.2
noncomputable def broad_wide_less.G (k : Nat) : List (Go.FuncId × Con) := [(142, bits_Sub64.c)]
noncomputable def broad_wide_less.cuts : List (Cut (TT S110.sb)) := []
theorem broad_wide_less.w (k : Nat) (x : TT S110.sa) : walk E110 (broad_wide_less.G k) (cutsAt k broad_wide_less.cuts) (retE E110 Go.Proofs.Try.f110.results.toList S110) 4000 true [([], .code B110)] (St0 S110 x) = broad_wide_less.f x.1 x.2.1 x.2.2.1 x.2.2.2.1 x.2.2.2.2.1 x.2.2.2.2.2.1 x.2.2.2.2.2.2.1 x.2.2.2.2.2.2.2.1 x.2.2.2.2.2.2.2.2 := by kernel_rfl
theorem broad_wide_less.ok : FnOk Go.Proofs.Try.prog E110.eT 110 (broad_wide_less.c) := FnOk.walk (E := E110) (body := B110) Go.Proofs.Try.func110 rfl (by rfl) Go.Proofs.Try.ntmps110 S110 rfl (fun k x => broad_wide_less.f x.1 x.2.1 x.2.2.1 x.2.2.2.1 x.2.2.2.2.1 x.2.2.2.2.2.1 x.2.2.2.2.2.2.1 x.2.2.2.2.2.2.2.1 x.2.2.2.2.2.2.2.2) broad_wide_less.G (fun k => ⟨bits_Sub64.ok, trivial⟩) 4000 broad_wide_less.cuts trivial (fun k x r h => (broad_wide_less.w k x).trans h) 0
noncomputable def E111 : En := ⟨Go.Proofs.Try.prog, 62, Go.Proofs.Try.f111.ntmps⟩
noncomputable def S111 : Sig := ⟨[.g 4], [(.int .u64), (.int .u64), (.int .u64), (.int .u64)], true, [.g 4, .s], [(.int .u64), (.int .u64), (.int .u64), (.int .u64), (.int .i64)], false⟩
noncomputable def B111 : Go.Code := Go.Proofs.Try.f111.body.get!
def broad_wide_raised.l0 : Nat → Int → Int → Int → Int → Int → Option (Int × Int × Int × Int × Int)
 | 0, _, _, _, _, _ => none
 | k + 1, x4, x1000, x1001, x1002, x1003 => if x1000 = 0 then (broad_wide_raised.l0 k (wrap64 (x4 + 64)) x1001 x1002 x1003 0) else ((bits_LeadingZeros64.f x1000).bind fun t100 => (if t100 = 0 then (some (x1000, x1001, x1002, x1003, x4)) else (if 0 ≤ t100 then (if 0 ≤ (wrap64 (64 - t100)) then (some (Go.bits .or .u64 (shl .u64 x1000 t100) (shr .u64 x1001 (wrap64 (64 - t100))), Go.bits .or .u64 (shl .u64 x1001 t100) (shr .u64 x1002 (wrap64 (64 - t100))), Go.bits .or .u64 (shl .u64 x1002 t100) (shr .u64 x1003 (wrap64 (64 - t100))), shl .u64 x1003 t100, wrap64 (x4 + t100))) else (none)) else (none))))
def broad_wide_raised.f (k : Nat) (a0_0 : Int) (a0_1 : Int) (a0_2 : Int) (a0_3 : Int) : Option (Int × Int × Int × Int × Int) := broad_wide_raised.l0 k 0 a0_0 a0_1 a0_2 a0_3
--@ok
def broad_wide_raised.l0R (k : Nat) (x4 : Int) (x1000 : Int) (x1001 : Int) (x1002 : Int) (x1003 : Int) : Option (Int × Int × Int × Int × Int) := if x1000 = 0 then (broad_wide_raised.l0 k (wrap64 (x4 + 64)) x1001 x1002 x1003 0) else ((bits_LeadingZeros64.f x1000).bind fun t100 => (if t100 = 0 then (some (x1000, x1001, x1002, x1003, x4)) else (if 0 ≤ t100 then (if 0 ≤ (wrap64 (64 - t100)) then (if 0 ≤ t100 then (if 0 ≤ (wrap64 (64 - t100)) then (if 0 ≤ t100 then (if 0 ≤ (wrap64 (64 - t100)) then (if 0 ≤ t100 then (some (Go.bits .or .u64 (shl .u64 x1000 t100) (shr .u64 x1001 (wrap64 (64 - t100))), Go.bits .or .u64 (shl .u64 x1001 t100) (shr .u64 x1002 (wrap64 (64 - t100))), Go.bits .or .u64 (shl .u64 x1002 t100) (shr .u64 x1003 (wrap64 (64 - t100))), shl .u64 x1003 t100, wrap64 (x4 + t100))) else (none)) else (none)) else (none)) else (none)) else (none)) else (none)) else (none))))
theorem broad_wide_raised.l0E (k : Nat) (x4 : Int) (x1000 : Int) (x1001 : Int) (x1002 : Int) (x1003 : Int) : broad_wide_raised.l0R k x4 x1000 x1001 x1002 x1003 = broad_wide_raised.l0 (k + 1) x4 x1000 x1001 x1002 x1003 := by
  unfold broad_wide_raised.l0R
  rw [broad_wide_raised.l0]
  exact iteC (fun h0 => rfl) (fun h0 => bindC fun _ => iteC (fun h1 => rfl) (fun h1 => iteC (fun h2 => iteC (fun h3 => (if_pos h2).trans ((if_pos h3).trans ((if_pos h2).trans ((if_pos h3).trans ((if_pos h2).trans (rfl)))))) (fun h3 => rfl)) (fun h2 => rfl)))
noncomputable def broad_wide_raised.c (k : Nat) : Con := S111.con fun x => broad_wide_raised.f k x.1 x.2.1 x.2.2.1 x.2.2.2
noncomputable def broad_wide_raised.G (k : Nat) : List (Go.FuncId × Con) := [(98, bits_LeadingZeros64.c)]
noncomputable def broad_wide_raised.cuts : List (Cut (TT S111.sb)) := [⟨[6, 4, 0, 1, 1], [.sc 4 (.int .i64), .box 1 155 [.int .u64, .int .u64, .int .u64, .int .u64], .box 2 155 [.int .u64, .int .u64, .int .u64, .int .u64]], fun k x => broad_wide_raised.l0 k x.1 x.2.1.1 x.2.1.2.1 x.2.1.2.2.1 x.2.1.2.2.2⟩]
theorem broad_wide_raised.w0 (k : Nat) (x : ET [.sc 4 (.int .i64), .box 1 155 [.int .u64, .int .u64, .int .u64, .int .u64], .box 2 155 [.int .u64, .int .u64, .int .u64, .int .u64]]) : walk E111 (broad_wide_raised.G k) (cutsAt k broad_wide_raised.cuts) (retE E111 Go.Proofs.Try.f111.results.toList S111) 4000 true (stackAt B111 [6, 4, 0, 1, 1]) (mkE [.sc 4 (.int .i64), .box 1 155 [.int .u64, .int .u64, .int .u64, .int .u64], .box 2 155 [.int .u64, .int .u64, .int .u64, .int .u64]] x St.nil) = broad_wide_raised.l0 (k + 1) x.1 x.2.1.1 x.2.1.2.1 x.2.1.2.2.1 x.2.1.2.2.2 := Eq.trans (b := broad_wide_raised.l0R k x.1 x.2.1.1 x.2.1.2.1 x.2.1.2.2.1 x.2.1.2.2.2) (by kernel_rfl) (broad_wide_raised.l0E k x.1 x.2.1.1 x.2.1.2.1 x.2.1.2.2.1 x.2.1.2.2.2)
theorem broad_wide_raised.w (k : Nat) (x : TT S111.sa) : walk E111 (broad_wide_raised.G k) (cutsAt k broad_wide_raised.cuts) (retE E111 Go.Proofs.Try.f111.results.toList S111) 4000 true [([], .code B111)] (St0 S111 x) = broad_wide_raised.f k x.1 x.2.1 x.2.2.1 x.2.2.2 := by kernel_rfl
theorem broad_wide_raised.ok (k : Nat) : FnOk Go.Proofs.Try.prog E111.eT 111 (broad_wide_raised.c k) := FnOk.walk (E := E111) (body := B111) Go.Proofs.Try.func111 rfl (by rfl) Go.Proofs.Try.ntmps111 S111 rfl (fun k x => broad_wide_raised.f k x.1 x.2.1 x.2.2.1 x.2.2.2) broad_wide_raised.G (fun k => ⟨bits_LeadingZeros64.ok, trivial⟩) 4000 broad_wide_raised.cuts ⟨⟨fun _ => rfl, fun k x q h => (broad_wide_raised.w0 k x).trans h⟩, trivial⟩ (fun k x r h => (broad_wide_raised.w k x).trans h) k
noncomputable def E78 : En := ⟨Go.Proofs.Try.prog, 62, Go.Proofs.Try.f78.ntmps⟩
noncomputable def S78 : Sig := ⟨[.g 6, .g 6], [(.int .i64), .bool, (.int .i64), (.int .u64), (.int .u64), .bool, (.int .i64), .bool, (.int .i64), (.int .u64), (.int .u64), .bool], false, [.g 6], [(.int .i64), .bool, (.int .i64), (.int .u64), (.int .u64), .bool], false⟩
noncomputable def B78 : Go.Code := Go.Proofs.Try.f78.body.get!
mutual
def broad_Sum.j0 : Nat → Bool → Int → Bool → Int → Int → Int → Bool → Int → Bool → Int → Int → Int → Bool → Option (Int × Bool × Int × Int × Int × Bool)
 | 0, _, _, _, _, _, _, _, _, _, _, _, _, _ => none
 | k + 1, x17, x2000, x2001, x2002, x2003, x2004, x2005, x3000, x3001, x3002, x3003, x3004, x3005 => if x17 = true then (some (2, false, 0, 0, 0, false)) else (if x2000 = 0 then (some (x3000, x3001, x3002, x3003, x3004, x3005)) else (if x3000 = 0 then (some (x2000, x2001, x2002, x2003, x2004, x2005)) else (if x2002 < x3002 then (broad_Sum.j1 k x3001 x3002 x3003 x3004 x2001 x2002 x2003 x2004) else (broad_Sum.j1 k x2001 x2002 x2003 x2004 x3001 x3002 x3003 x3004))))
def broad_Sum.j1 : Nat → Bool → Int → Int → Int → Bool → Int → Int → Int → Option (Int × Bool × Int × Int × Int × Bool)
 | 0, _, _, _, _, _, _, _, _ => none
 | k + 1, x2001, x2002, x2003, x2004, x3001, x3002, x3003, x3004 => (broad_wide_under.f k x3003 x3004 0 0 (wrap64 (x2002 - x3002))).bind fun t100 => (if (x2001 == x3001) = true then ((broad_wide_plus.f x2003 x2004 0 0 t100.1 t100.2.1 t100.2.2.1 t100.2.2.2.1).bind fun t101 => (if t101.2.2.2.2 = 1 then ((broad_wide_under.f k t101.1 t101.2.1 t101.2.2.1 t101.2.2.2.1 1).bind fun t102 => (if t100.2.2.2.2 = true then (some (1, x2001, mx (-1099511627776) (mn (wrap64 (x2002 + 1)) 1099511627776), Go.bits .or .u64 t102.1 9223372036854775808, t102.2.1, true)) else (if (Go.bits .and .u64 t101.2.2.2.1 1) = 1 then (some (1, x2001, mx (-1099511627776) (mn (wrap64 (x2002 + 1)) 1099511627776), Go.bits .or .u64 t102.1 9223372036854775808, t102.2.1, true)) else (if t102.2.2.1 = 0 then (some (1, x2001, mx (-1099511627776) (mn (wrap64 (x2002 + 1)) 1099511627776), Go.bits .or .u64 t102.1 9223372036854775808, t102.2.1, t102.2.2.2.1 != 0)) else (some (1, x2001, mx (-1099511627776) (mn (wrap64 (x2002 + 1)) 1099511627776), Go.bits .or .u64 t102.1 9223372036854775808, t102.2.1, true)))))) else (if t100.2.2.2.2 = true then (some (1, x2001, mx (-1099511627776) (mn x2002 1099511627776), t101.1, t101.2.1, true)) else (if t101.2.2.1 = 0 then (some (1, x2001, mx (-1099511627776) (mn x2002 1099511627776), t101.1, t101.2.1, t101.2.2.2.1 != 0)) else (some (1, x2001, mx (-1099511627776) (mn x2002 1099511627776), t101.1, t101.2.1, true)))))) else (if t100.2.2.2.2 = true then (broad_Sum.j2 k t100.2.2.2.2 1 x3001 x2003 x2004 0 0 t100.1 t100.2.1 t100.2.2.1 t100.2.2.2.1 1 x2001 x2002) else (broad_Sum.j2 k t100.2.2.2.2 0 x3001 x2003 x2004 0 0 t100.1 t100.2.1 t100.2.2.1 t100.2.2.2.1 1 x2001 x2002)))
def broad_Sum.j2 : Nat → Bool → Int → Bool → Int → Int → Int → Int → Int → Int → Int → Int → Int → Bool → Int → Option (Int × Bool × Int × Int × Int × Bool)
 | 0, _, _, _, _, _, _, _, _, _, _, _, _, _, _ => none
 | k + 1, x7, x13, x3001, x5000, x5001, x5002, x5003, x6000, x6001, x6002, x6003, x8000, x8001, x8002 => (broad_wide_less.f x5000 x5001 x5002 x5003 x6000 x6001 x6002 x6003 x13).bind fun t103 => (if t103.2.2.2.2 = 1 then ((broad_wide_less.f x6000 x6001 x6002 x6003 x5000 x5001 x5002 x5003 0).bind fun t104 => (if ((t104.1 == 0) && ((t104.2.1 == 0) && ((t104.2.2.1 == 0) && (t104.2.2.2.1 == 0)))) = true then (some (0, false, 0, 0, 0, false)) else ((broad_wide_raised.f k t104.1 t104.2.1 t104.2.2.1 t104.2.2.2.1).bind fun t105 => (if x7 = true then (some (x8000, x3001, mx (-1099511627776) (mn (wrap64 (x8002 - t105.2.2.2.2)) 1099511627776), t105.1, t105.2.1, true)) else (if t105.2.2.1 = 0 then (some (x8000, x3001, mx (-1099511627776) (mn (wrap64 (x8002 - t105.2.2.2.2)) 1099511627776), t105.1, t105.2.1, t105.2.2.2.1 != 0)) else (some (x8000, x3001, mx (-1099511627776) (mn (wrap64 (x8002 - t105.2.2.2.2)) 1099511627776), t105.1, t105.2.1, true))))))) else (if ((t103.1 == 0) && ((t103.2.1 == 0) && ((t103.2.2.1 == 0) && (t103.2.2.2.1 == 0)))) = true then (some (0, false, 0, 0, 0, false)) else ((broad_wide_raised.f k t103.1 t103.2.1 t103.2.2.1 t103.2.2.2.1).bind fun t106 => (if x7 = true then (some (x8000, x8001, mx (-1099511627776) (mn (wrap64 (x8002 - t106.2.2.2.2)) 1099511627776), t106.1, t106.2.1, true)) else (if t106.2.2.1 = 0 then (some (x8000, x8001, mx (-1099511627776) (mn (wrap64 (x8002 - t106.2.2.2.2)) 1099511627776), t106.1, t106.2.1, t106.2.2.2.1 != 0)) else (some (x8000, x8001, mx (-1099511627776) (mn (wrap64 (x8002 - t106.2.2.2.2)) 1099511627776), t106.1, t106.2.1, true)))))))
end
def broad_Sum.f (k : Nat) (a0_0 : Int) (a0_1 : Bool) (a0_2 : Int) (a0_3 : Int) (a0_4 : Int) (a0_5 : Bool) (a1_0 : Int) (a1_1 : Bool) (a1_2 : Int) (a1_3 : Int) (a1_4 : Int) (a1_5 : Bool) : Option (Int × Bool × Int × Int × Int × Bool) := if a0_0 = 2 then (broad_Sum.j0 k true a0_0 a0_1 a0_2 a0_3 a0_4 a0_5 a1_0 a1_1 a1_2 a1_3 a1_4 a1_5) else (broad_Sum.j0 k (a1_0 == 2) a0_0 a0_1 a0_2 a0_3 a0_4 a0_5 a1_0 a1_1 a1_2 a1_3 a1_4 a1_5)
--@ok
noncomputable def broad_Sum.c (k : Nat) : Con := S78.con fun x => broad_Sum.f k x.1 x.2.1 x.2.2.1 x.2.2.2.1 x.2.2.2.2.1 x.2.2.2.2.2.1 x.2.2.2.2.2.2.1 x.2.2.2.2.2.2.2.1 x.2.2.2.2.2.2.2.2.1 x.2.2.2.2.2.2.2.2.2.1 x.2.2.2.2.2.2.2.2.2.2.1 x.2.2.2.2.2.2.2.2.2.2.2
noncomputable def broad_Sum.G (k : Nat) : List (Go.FuncId × Con) := [(108, broad_wide_under.c k), (109, broad_wide_plus.c), (110, broad_wide_less.c), (111, broad_wide_raised.c k)]
noncomputable def broad_Sum.cuts : List (Cut (TT S78.sb)) := [⟨[1, 4, 0, 1], [.sc 17 (.bool), .box 2 105 [.int .i64, .bool, .int .i64, .int .u64, .int .u64, .bool], .box 3 105 [.int .i64, .bool, .int .i64, .int .u64, .int .u64, .bool], .box 4 105 [.int .i64, .bool, .int .i64, .int .u64, .int .u64, .bool]], fun k x => broad_Sum.j0 k x.1 x.2.1.1 x.2.1.2.1 x.2.1.2.2.1 x.2.1.2.2.2.1 x.2.1.2.2.2.2.1 x.2.1.2.2.2.2.2 x.2.2.1.1 x.2.2.1.2.1 x.2.2.1.2.2.1 x.2.2.1.2.2.2.1 x.2.2.1.2.2.2.2.1 x.2.2.1.2.2.2.2.2⟩, ⟨[1, 1], [.box 2 105 [.int .i64, .bool, .int .i64, .int .u64, .int .u64, .bool], .box 3 105 [.int .i64, .bool, .int .i64, .int .u64, .int .u64, .bool], .box 4 105 [.int .i64, .bool, .int .i64, .int .u64, .int .u64, .bool]], fun k x => broad_Sum.j1 k x.1.2.1 x.1.2.2.1 x.1.2.2.2.1 x.1.2.2.2.2.1 x.2.1.2.1 x.2.1.2.2.1 x.2.1.2.2.2.1 x.2.1.2.2.2.2.1⟩, ⟨[1, 1, 3, 1, 0, 1, 1, 1, 1, 1, 1], [.sc 7 (.bool), .sc 13 (.int .u64), .box 3 105 [.int .i64, .bool, .int .i64, .int .u64, .int .u64, .bool], .box 4 105 [.int .i64, .bool, .int .i64, .int .u64, .int .u64, .bool], .box 5 155 [.int .u64, .int .u64, .int .u64, .int .u64], .box 6 155 [.int .u64, .int .u64, .int .u64, .int .u64], .box 8 105 [.int .i64, .bool, .int .i64, .int .u64, .int .u64, .bool], .box 9 155 [.int .u64, .int .u64, .int .u64, .int .u64]], fun k x => broad_Sum.j2 k x.1 x.2.1 x.2.2.1.2.1 x.2.2.2.2.1.1 x.2.2.2.2.1.2.1 x.2.2.2.2.1.2.2.1 x.2.2.2.2.1.2.2.2 x.2.2.2.2.2.1.1 x.2.2.2.2.2.1.2.1 x.2.2.2.2.2.1.2.2.1 x.2.2.2.2.2.1.2.2.2 x.2.2.2.2.2.2.1.1 x.2.2.2.2.2.2.1.2.1 x.2.2.2.2.2.2.1.2.2.1⟩]
theorem broad_Sum.w0 (k : Nat) (x : ET [.sc 17 (.bool), .box 2 105 [.int .i64, .bool, .int .i64, .int .u64, .int .u64, .bool], .box 3 105 [.int .i64, .bool, .int .i64, .int .u64, .int .u64, .bool], .box 4 105 [.int .i64, .bool, .int .i64, .int .u64, .int .u64, .bool]]) : walk E78 (broad_Sum.G k) (cutsAt k broad_Sum.cuts) (retE E78 Go.Proofs.Try.f78.results.toList S78) 4000 true (stackAt B78 [1, 4, 0, 1]) (mkE [.sc 17 (.bool), .box 2 105 [.int .i64, .bool, .int .i64, .int .u64, .int .u64, .bool], .box 3 105 [.int .i64, .bool, .int .i64, .int .u64, .int .u64, .bool], .box 4 105 [.int .i64, .bool, .int .i64, .int .u64, .int .u64, .bool]] x St.nil) = broad_Sum.j0 (k + 1) x.1 x.2.1.1 x.2.1.2.1 x.2.1.2.2.1 x.2.1.2.2.2.1 x.2.1.2.2.2.2.1 x.2.1.2.2.2.2.2 x.2.2.1.1 x.2.2.1.2.1 x.2.2.1.2.2.1 x.2.2.1.2.2.2.1 x.2.2.1.2.2.2.2.1 x.2.2.1.2.2.2.2.2 := by kernel_rfl
theorem broad_Sum.w1 (k : Nat) (x : ET [.box 2 105 [.int .i64, .bool, .int .i64, .int .u64, .int .u64, .bool], .box 3 105 [.int .i64, .bool, .int .i64, .int .u64, .int .u64, .bool], .box 4 105 [.int .i64, .bool, .int .i64, .int .u64, .int .u64, .bool]]) : walk E78 (broad_Sum.G k) (cutsAt k broad_Sum.cuts) (retE E78 Go.Proofs.Try.f78.results.toList S78) 4000 true (stackAt B78 [1, 1]) (mkE [.box 2 105 [.int .i64, .bool, .int .i64, .int .u64, .int .u64, .bool], .box 3 105 [.int .i64, .bool, .int .i64, .int .u64, .int .u64, .bool], .box 4 105 [.int .i64, .bool, .int .i64, .int .u64, .int .u64, .bool]] x St.nil) = broad_Sum.j1 (k + 1) x.1.2.1 x.1.2.2.1 x.1.2.2.2.1 x.1.2.2.2.2.1 x.2.1.2.1 x.2.1.2.2.1 x.2.1.2.2.2.1 x.2.1.2.2.2.2.1 := by kernel_rfl
theorem broad_Sum.w2 (k : Nat) (x : ET [.sc 7 (.bool), .sc 13 (.int .u64), .box 3 105 [.int .i64, .bool, .int .i64, .int .u64, .int .u64, .bool], .box 4 105 [.int .i64, .bool, .int .i64, .int .u64, .int .u64, .bool], .box 5 155 [.int .u64, .int .u64, .int .u64, .int .u64], .box 6 155 [.int .u64, .int .u64, .int .u64, .int .u64], .box 8 105 [.int .i64, .bool, .int .i64, .int .u64, .int .u64, .bool], .box 9 155 [.int .u64, .int .u64, .int .u64, .int .u64]]) : walk E78 (broad_Sum.G k) (cutsAt k broad_Sum.cuts) (retE E78 Go.Proofs.Try.f78.results.toList S78) 4000 true (stackAt B78 [1, 1, 3, 1, 0, 1, 1, 1, 1, 1, 1]) (mkE [.sc 7 (.bool), .sc 13 (.int .u64), .box 3 105 [.int .i64, .bool, .int .i64, .int .u64, .int .u64, .bool], .box 4 105 [.int .i64, .bool, .int .i64, .int .u64, .int .u64, .bool], .box 5 155 [.int .u64, .int .u64, .int .u64, .int .u64], .box 6 155 [.int .u64, .int .u64, .int .u64, .int .u64], .box 8 105 [.int .i64, .bool, .int .i64, .int .u64, .int .u64, .bool], .box 9 155 [.int .u64, .int .u64, .int .u64, .int .u64]] x St.nil) = broad_Sum.j2 (k + 1) x.1 x.2.1 x.2.2.1.2.1 x.2.2.2.2.1.1 x.2.2.2.2.1.2.1 x.2.2.2.2.1.2.2.1 x.2.2.2.2.1.2.2.2 x.2.2.2.2.2.1.1 x.2.2.2.2.2.1.2.1 x.2.2.2.2.2.1.2.2.1 x.2.2.2.2.2.1.2.2.2 x.2.2.2.2.2.2.1.1 x.2.2.2.2.2.2.1.2.1 x.2.2.2.2.2.2.1.2.2.1 := by kernel_rfl
theorem broad_Sum.w (k : Nat) (x : TT S78.sa) : walk E78 (broad_Sum.G k) (cutsAt k broad_Sum.cuts) (retE E78 Go.Proofs.Try.f78.results.toList S78) 4000 true [([], .code B78)] (St0 S78 x) = broad_Sum.f k x.1 x.2.1 x.2.2.1 x.2.2.2.1 x.2.2.2.2.1 x.2.2.2.2.2.1 x.2.2.2.2.2.2.1 x.2.2.2.2.2.2.2.1 x.2.2.2.2.2.2.2.2.1 x.2.2.2.2.2.2.2.2.2.1 x.2.2.2.2.2.2.2.2.2.2.1 x.2.2.2.2.2.2.2.2.2.2.2 := by kernel_rfl
theorem broad_Sum.ok (k : Nat) : FnOk Go.Proofs.Try.prog E78.eT 78 (broad_Sum.c k) := FnOk.walk (E := E78) (body := B78) Go.Proofs.Try.func78 rfl (by rfl) Go.Proofs.Try.ntmps78 S78 rfl (fun k x => broad_Sum.f k x.1 x.2.1 x.2.2.1 x.2.2.2.1 x.2.2.2.2.1 x.2.2.2.2.2.1 x.2.2.2.2.2.2.1 x.2.2.2.2.2.2.2.1 x.2.2.2.2.2.2.2.2.1 x.2.2.2.2.2.2.2.2.2.1 x.2.2.2.2.2.2.2.2.2.2.1 x.2.2.2.2.2.2.2.2.2.2.2) broad_Sum.G (fun k => ⟨broad_wide_under.ok k, broad_wide_plus.ok, broad_wide_less.ok, broad_wide_raised.ok k, trivial⟩) 4000 broad_Sum.cuts ⟨⟨fun _ => rfl, fun k x q h => (broad_Sum.w0 k x).trans h⟩, ⟨fun _ => rfl, fun k x q h => (broad_Sum.w1 k x).trans h⟩, ⟨fun _ => rfl, fun k x q h => (broad_Sum.w2 k x).trans h⟩, trivial⟩ (fun k x r h => (broad_Sum.w k x).trans h) k
noncomputable def E72 : En := ⟨Go.Proofs.Try.prog, 62, Go.Proofs.Try.f72.ntmps⟩
noncomputable def S72 : Sig := ⟨[.g 4, .g 4], [(.int .i64), .bool, (.int .i64), (.int .u64), (.int .i64), .bool, (.int .i64), (.int .u64)], true, [.g 6, .s], [(.int .i64), .bool, (.int .i64), (.int .u64), (.int .u64), .bool, .err], false⟩
noncomputable def B72 : Go.Code := Go.Proofs.Try.f72.body.get!
def sum_Exact.f (k : Nat) (a0_0 : Int) (a0_1 : Bool) (a0_2 : Int) (a0_3 : Int) (a1_0 : Int) (a1_1 : Bool) (a1_2 : Int) (a1_3 : Int) : Option (Int × Bool × Int × Int × Int × Bool × Option Int) := (round_Of.f k a0_0 a0_1 a0_2 a0_3).bind fun t100 => (if t100.2.2.2.2.2.2.isNone = true then ((round_Of.f k a1_0 a1_1 a1_2 a1_3).bind fun t101 => (if t101.2.2.2.2.2.2.isNone = true then ((broad_Sum.f k t100.1 t100.2.1 t100.2.2.1 t100.2.2.2.1 t100.2.2.2.2.1 t100.2.2.2.2.2.1 t101.1 t101.2.1 t101.2.2.1 t101.2.2.2.1 t101.2.2.2.2.1 t101.2.2.2.2.2.1).bind fun t102 => (some (t102.1, t102.2.1, t102.2.2.1, t102.2.2.2.1, t102.2.2.2.2.1, t102.2.2.2.2.2, none))) else (some (0, false, 0, 0, 0, false, some (t101.2.2.2.2.2.2.getD 0))))) else (some (0, false, 0, 0, 0, false, some (t100.2.2.2.2.2.2.getD 0))))
--@ok
noncomputable def sum_Exact.c (k : Nat) : Con := S72.con fun x => sum_Exact.f k x.1 x.2.1 x.2.2.1 x.2.2.2.1 x.2.2.2.2.1 x.2.2.2.2.2.1 x.2.2.2.2.2.2.1 x.2.2.2.2.2.2.2
noncomputable def sum_Exact.G (k : Nat) : List (Go.FuncId × Con) := [(77, round_Of.c k), (78, broad_Sum.c k)]
noncomputable def sum_Exact.cuts : List (Cut (TT S72.sb)) := []
theorem sum_Exact.w (k : Nat) (x : TT S72.sa) : walk E72 (sum_Exact.G k) (cutsAt k sum_Exact.cuts) (retE E72 Go.Proofs.Try.f72.results.toList S72) 4000 true [([], .code B72)] (St0 S72 x) = sum_Exact.f k x.1 x.2.1 x.2.2.1 x.2.2.2.1 x.2.2.2.2.1 x.2.2.2.2.2.1 x.2.2.2.2.2.2.1 x.2.2.2.2.2.2.2 := by kernel_rfl
theorem sum_Exact.ok (k : Nat) : FnOk Go.Proofs.Try.prog E72.eT 72 (sum_Exact.c k) := FnOk.walk (E := E72) (body := B72) Go.Proofs.Try.func72 rfl (by rfl) Go.Proofs.Try.ntmps72 S72 rfl (fun k x => sum_Exact.f k x.1 x.2.1 x.2.2.1 x.2.2.2.1 x.2.2.2.2.1 x.2.2.2.2.2.1 x.2.2.2.2.2.2.1 x.2.2.2.2.2.2.2) sum_Exact.G (fun k => ⟨round_Of.ok k, broad_Sum.ok k, trivial⟩) 4000 sum_Exact.cuts trivial (fun k x r h => (sum_Exact.w k x).trans h) k
noncomputable def E29 : En := ⟨Go.Proofs.Try.prog, 62, Go.Proofs.Try.f29.ntmps⟩
noncomputable def S29 : Sig := ⟨[.s, .s, .s], [(.int .i64), (.int .u64), (.int .u64)], true, [.s, .s], [(.int .u64), .err], false⟩
noncomputable def B29 : Go.Code := Go.Proofs.Try.f29.body.get!
def sum_Add.f (k : Nat) (a0 : Int) (a1 : Int) (a2 : Int) : Option (Int × Option Int) := (codec_Decode.f k a0 a1).bind fun t100 => (if t100.2.2.2.2.isNone = true then ((codec_Decode.f k a0 a2).bind fun t101 => ((sum_Exact.f k t100.1 t100.2.1 t100.2.2.1 t100.2.2.2.1 t101.1 t101.2.1 t101.2.2.1 t101.2.2.2.1).bind fun t102 => (if t102.2.2.2.2.2.2.isNone = true then ((round_Round.f k a0 t102.1 t102.2.1 t102.2.2.1 t102.2.2.2.1 t102.2.2.2.2.1 t102.2.2.2.2.2.1).bind fun t103 => (some (t103.1, t103.2))) else (some (0, some (t102.2.2.2.2.2.2.getD 0)))))) else (some (0, some (t100.2.2.2.2.getD 0))))
--@ok
noncomputable def sum_Add.c (k : Nat) : Con := S29.con fun x => sum_Add.f k x.1 x.2.1 x.2.2
noncomputable def sum_Add.G (k : Nat) : List (Go.FuncId × Con) := [(71, codec_Decode.c k), (72, sum_Exact.c k), (73, round_Round.c k)]
noncomputable def sum_Add.cuts : List (Cut (TT S29.sb)) := []
theorem sum_Add.w (k : Nat) (x : TT S29.sa) : walk E29 (sum_Add.G k) (cutsAt k sum_Add.cuts) (retE E29 Go.Proofs.Try.f29.results.toList S29) 4000 true [([], .code B29)] (St0 S29 x) = sum_Add.f k x.1 x.2.1 x.2.2 := by kernel_rfl
theorem sum_Add.ok (k : Nat) : FnOk Go.Proofs.Try.prog E29.eT 29 (sum_Add.c k) := FnOk.walk (E := E29) (body := B29) Go.Proofs.Try.func29 rfl (by rfl) Go.Proofs.Try.ntmps29 S29 rfl (fun k x => sum_Add.f k x.1 x.2.1 x.2.2) sum_Add.G (fun k => ⟨codec_Decode.ok k, sum_Exact.ok k, round_Round.ok k, trivial⟩) 4000 sum_Add.cuts trivial (fun k x r h => (sum_Add.w k x).trans h) k
noncomputable def E34 : En := ⟨Go.Proofs.Try.prog, 62, Go.Proofs.Try.f34.ntmps⟩
noncomputable def S34 : Sig := ⟨[.s, .s, .s], [(.int .i64), (.int .u64), (.int .u64)], true, [.s, .s], [(.int .u64), .err], false⟩
noncomputable def B34 : Go.Code := Go.Proofs.Try.f34.body.get!
def sum_Sub.f (k : Nat) (a0 : Int) (a1 : Int) (a2 : Int) : Option (Int × Option Int) := (sum_Add.f k a0 a1 (IntKind.u64.wrap (-a2))).bind fun t100 => (some (t100.1, t100.2))
--@ok
noncomputable def sum_Sub.c (k : Nat) : Con := S34.con fun x => sum_Sub.f k x.1 x.2.1 x.2.2
noncomputable def sum_Sub.G (k : Nat) : List (Go.FuncId × Con) := [(29, sum_Add.c k)]
noncomputable def sum_Sub.cuts : List (Cut (TT S34.sb)) := []
theorem sum_Sub.w (k : Nat) (x : TT S34.sa) : walk E34 (sum_Sub.G k) (cutsAt k sum_Sub.cuts) (retE E34 Go.Proofs.Try.f34.results.toList S34) 4000 true [([], .code B34)] (St0 S34 x) = sum_Sub.f k x.1 x.2.1 x.2.2 := by kernel_rfl
theorem sum_Sub.ok (k : Nat) : FnOk Go.Proofs.Try.prog E34.eT 34 (sum_Sub.c k) := FnOk.walk (E := E34) (body := B34) Go.Proofs.Try.func34 rfl (by rfl) Go.Proofs.Try.ntmps34 S34 rfl (fun k x => sum_Sub.f k x.1 x.2.1 x.2.2) sum_Sub.G (fun k => ⟨sum_Add.ok k, trivial⟩) 4000 sum_Sub.cuts trivial (fun k x r h => (sum_Sub.w k x).trans h) k
end Go.Proofs.Ythofoolgbngobaa.Fn
set_option maxRecDepth 100000
set_option linter.unusedVariables false
noncomputable section
namespace Go.Proofs.Ythofoolgbngobaa.Fn
open Go Go.RowKit Go.Proofs.Ythofoolgbngobaa.Ab
noncomputable def E131 : En := ⟨Go.Proofs.Try.prog, 62, Go.Proofs.Try.f131.ntmps⟩
noncomputable def S131 : Sig := ⟨[.g 2], [(.int .u64), (.int .u64)], true, [.g 2, .s], [(.int .u64), (.int .u64), (.int .i64)], false⟩
noncomputable def B131 : Go.Code := Go.Proofs.Try.f131.body.get!
def twin_Norm.f (a0_0 : Int) (a0_1 : Int) : Option (Int × Int × Int) := if ((a0_0 == 0) && (a0_1 == 0)) = true then (some (a0_0, a0_1, 0)) else ((twin_Len.f a0_0 a0_1).bind fun t100 => ((twin_shl.f a0_0 a0_1 (wrap64 (128 - t100))).bind fun t101 => (some (t101.1, t101.2, wrap64 (128 - t100)))))
--@ok
noncomputable def twin_Norm.c : Con := S131.con fun x => twin_Norm.f x.1 x.2
noncomputable def twin_Norm.G (k : Nat) : List (Go.FuncId × Con) := [(151, twin_Len.c), (152, twin_shl.c)]
noncomputable def twin_Norm.cuts : List (Cut (TT S131.sb)) := []
theorem twin_Norm.w (k : Nat) (x : TT S131.sa) : walk E131 (twin_Norm.G k) (cutsAt k twin_Norm.cuts) (retE E131 Go.Proofs.Try.f131.results.toList S131) 4000 true [([], .code B131)] (St0 S131 x) = twin_Norm.f x.1 x.2 := by kernel_rfl
theorem twin_Norm.ok : FnOk Go.Proofs.Try.prog E131.eT 131 (twin_Norm.c) := FnOk.walk (E := E131) (body := B131) Go.Proofs.Try.func131 rfl (by rfl) Go.Proofs.Try.ntmps131 S131 rfl (fun k x => twin_Norm.f x.1 x.2) twin_Norm.G (fun k => ⟨twin_Len.ok, twin_shl.ok, trivial⟩) 4000 twin_Norm.cuts trivial (fun k x r h => (twin_Norm.w k x).trans h) 0
noncomputable def E99 : En := ⟨Go.Proofs.Try.prog, 62, Go.Proofs.Try.f99.ntmps⟩
noncomputable def S99 : Sig := ⟨[.s, .s, .s, .s, .s], [.bool, (.int .u64), (.int .u64), (.int .i64), .bool], true, [.g 6, .s], [(.int .i64), .bool, (.int .i64), (.int .u64), (.int .u64), .bool, .err], false⟩
noncomputable def B99 : Go.Code := Go.Proofs.Try.f99.body.get!
def round_Make.j0 : Nat → Bool → Int → Int → Int → Bool → Bool → Option (Int × Bool × Int × Int × Int × Bool × Option Int)
 | 0, _, _, _, _, _, _ => none
 | k + 1, x0, x1, x2, x3, x4, x19 => if x19 = true then (some (0, false, 0, 0, 0, false, some 1)) else ((twin_Norm.f x1 x2).bind fun t100 => (if ((t100.1 == 0) && (t100.2.1 == 0)) = true then (some (0, false, 0, 0, 0, false, none)) else ((round_held.f (wrap64 (((mx (-4398046511104) (mn x3 4398046511104)) + 127) - t100.2.2))).bind fun t101 => (some (1, x0, t101, t100.1, t100.2.1, x4, none)))))
def round_Make.f (k : Nat) (a0 : Bool) (a1 : Int) (a2 : Int) (a3 : Int) (a4 : Bool) : Option (Int × Bool × Int × Int × Int × Bool × Option Int) := if a4 = true then (round_Make.j0 k a0 a1 a2 a3 a4 ((a1 / 9223372036854775808) == 0)) else (round_Make.j0 k a0 a1 a2 a3 a4 false)
--@ok
noncomputable def round_Make.c (k : Nat) : Con := S99.con fun x => round_Make.f k x.1 x.2.1 x.2.2.1 x.2.2.2.1 x.2.2.2.2
noncomputable def round_Make.G (k : Nat) : List (Go.FuncId × Con) := [(131, twin_Norm.c), (132, round_held.c)]
noncomputable def round_Make.cuts : List (Cut (TT S99.sb)) := [⟨[1, 0, 1], [.sc 0 (.bool), .sc 1 (.int .u64), .sc 2 (.int .u64), .sc 3 (.int .i64), .sc 4 (.bool), .sc 19 (.bool), .box 10 105 [.int .i64, .bool, .int .i64, .int .u64, .int .u64, .bool]], fun k x => round_Make.j0 k x.1 x.2.1 x.2.2.1 x.2.2.2.1 x.2.2.2.2.1 x.2.2.2.2.2.1⟩]
theorem round_Make.w0 (k : Nat) (x : ET [.sc 0 (.bool), .sc 1 (.int .u64), .sc 2 (.int .u64), .sc 3 (.int .i64), .sc 4 (.bool), .sc 19 (.bool), .box 10 105 [.int .i64, .bool, .int .i64, .int .u64, .int .u64, .bool]]) : walk E99 (round_Make.G k) (cutsAt k round_Make.cuts) (retE E99 Go.Proofs.Try.f99.results.toList S99) 4000 true (stackAt B99 [1, 0, 1]) (mkE [.sc 0 (.bool), .sc 1 (.int .u64), .sc 2 (.int .u64), .sc 3 (.int .i64), .sc 4 (.bool), .sc 19 (.bool), .box 10 105 [.int .i64, .bool, .int .i64, .int .u64, .int .u64, .bool]] x St.nil) = round_Make.j0 (k + 1) x.1 x.2.1 x.2.2.1 x.2.2.2.1 x.2.2.2.2.1 x.2.2.2.2.2.1 := by kernel_rfl
theorem round_Make.w (k : Nat) (x : TT S99.sa) : walk E99 (round_Make.G k) (cutsAt k round_Make.cuts) (retE E99 Go.Proofs.Try.f99.results.toList S99) 4000 true [([], .code B99)] (St0 S99 x) = round_Make.f k x.1 x.2.1 x.2.2.1 x.2.2.2.1 x.2.2.2.2 := by kernel_rfl
theorem round_Make.ok (k : Nat) : FnOk Go.Proofs.Try.prog E99.eT 99 (round_Make.c k) := FnOk.walk (E := E99) (body := B99) Go.Proofs.Try.func99 rfl (by rfl) Go.Proofs.Try.ntmps99 S99 rfl (fun k x => round_Make.f k x.1 x.2.1 x.2.2.1 x.2.2.2.1 x.2.2.2.2) round_Make.G (fun k => ⟨twin_Norm.ok, round_held.ok, trivial⟩) 4000 round_Make.cuts ⟨⟨fun _ => rfl, fun k x q h => (round_Make.w0 k x).trans h⟩, trivial⟩ (fun k x r h => (round_Make.w k x).trans h) k
noncomputable def E127 : En := ⟨Go.Proofs.Try.prog, 62, Go.Proofs.Try.f127.ntmps⟩
noncomputable def S127 : Sig := ⟨[.s, .s], [(.int .u64), (.int .u64)], true, [.s, .s], [(.int .u64), (.int .u64)], false⟩
noncomputable def B127 : Go.Code := Go.Proofs.Try.f127.body.get!
def bits_Mul64.f (a0 : Int) (a1 : Int) : Option (Int × Int) := some (IntKind.u64.wrap ((IntKind.u64.wrap ((IntKind.u64.wrap ((a0 / 4294967296) * (a1 / 4294967296))) + ((IntKind.u64.wrap ((IntKind.u64.wrap ((a0 / 4294967296) * (Go.bits .and .u64 a1 4294967295))) + ((IntKind.u64.wrap ((Go.bits .and .u64 a0 4294967295) * (Go.bits .and .u64 a1 4294967295))) / 4294967296))) / 4294967296))) + ((IntKind.u64.wrap ((Go.bits .and .u64 (IntKind.u64.wrap ((IntKind.u64.wrap ((a0 / 4294967296) * (Go.bits .and .u64 a1 4294967295))) + ((IntKind.u64.wrap ((Go.bits .and .u64 a0 4294967295) * (Go.bits .and .u64 a1 4294967295))) / 4294967296))) 4294967295) + (IntKind.u64.wrap ((Go.bits .and .u64 a0 4294967295) * (a1 / 4294967296))))) / 4294967296)), IntKind.u64.wrap (a0 * a1))
--@ok
noncomputable def bits_Mul64.c : Con := S127.con fun x => bits_Mul64.f x.1 x.2
noncomputable def bits_Mul64.G (k : Nat) : List (Go.FuncId × Con) := []
noncomputable def bits_Mul64.cuts : List (Cut (TT S127.sb)) := []
theorem bits_Mul64.w (k : Nat) (x : TT S127.sa) : walk E127 (bits_Mul64.G k) (cutsAt k bits_Mul64.cuts) (retE E127 Go.Proofs.Try.f127.results.toList S127) 4000 true [([], .code B127)] (St0 S127 x) = bits_Mul64.f x.1 x.2 := by kernel_rfl
theorem bits_Mul64.ok : FnOk Go.Proofs.Try.prog E127.eT 127 (bits_Mul64.c) := FnOk.walk (E := E127) (body := B127) Go.Proofs.Try.func127 rfl (by rfl) Go.Proofs.Try.ntmps127 S127 rfl (fun k x => bits_Mul64.f x.1 x.2) bits_Mul64.G (fun k => trivial) 4000 bits_Mul64.cuts trivial (fun k x r h => (bits_Mul64.w k x).trans h) 0
noncomputable def E126 : En := ⟨Go.Proofs.Try.prog, 62, Go.Proofs.Try.f126.ntmps⟩
noncomputable def S126 : Sig := ⟨[.s, .s], [(.int .u64), (.int .u64)], false, [.g 2], [(.int .u64), (.int .u64)], false⟩
noncomputable def B126 : Go.Code := Go.Proofs.Try.f126.body.get!
def twin_Mul.f (a0 : Int) (a1 : Int) : Option (Int × Int) := (bits_Mul64.f a0 a1).bind fun t100 => (some (t100.1, t100.2))
--@ok
noncomputable def twin_Mul.c : Con := S126.con fun x => twin_Mul.f x.1 x.2
noncomputable def twin_Mul.G (k : Nat) : List (Go.FuncId × Con) := [(127, bits_Mul64.c)]
noncomputable def twin_Mul.cuts : List (Cut (TT S126.sb)) := []
theorem twin_Mul.w (k : Nat) (x : TT S126.sa) : walk E126 (twin_Mul.G k) (cutsAt k twin_Mul.cuts) (retE E126 Go.Proofs.Try.f126.results.toList S126) 4000 true [([], .code B126)] (St0 S126 x) = twin_Mul.f x.1 x.2 := by kernel_rfl
theorem twin_Mul.ok : FnOk Go.Proofs.Try.prog E126.eT 126 (twin_Mul.c) := FnOk.walk (E := E126) (body := B126) Go.Proofs.Try.func126 rfl (by rfl) Go.Proofs.Try.ntmps126 S126 rfl (fun k x => twin_Mul.f x.1 x.2) twin_Mul.G (fun k => ⟨bits_Mul64.ok, trivial⟩) 4000 twin_Mul.cuts trivial (fun k x r h => (twin_Mul.w k x).trans h) 0
noncomputable def E93 : En := ⟨Go.Proofs.Try.prog, 62, Go.Proofs.Try.f93.ntmps⟩
noncomputable def S93 : Sig := ⟨[.g 4, .g 4], [(.int .i64), .bool, (.int .i64), (.int .u64), (.int .i64), .bool, (.int .i64), (.int .u64)], true, [.g 6, .s], [(.int .i64), .bool, (.int .i64), (.int .u64), (.int .u64), .bool, .err], false⟩
noncomputable def B93 : Go.Code := Go.Proofs.Try.f93.body.get!
mutual
def prod_Exact.j0 : Nat → Bool → Int → Bool → Int → Int → Int → Bool → Int → Int → Option (Int × Bool × Int × Int × Int × Bool × Option Int)
 | 0, _, _, _, _, _, _, _, _, _ => none
 | k + 1, x29, x2000, x2001, x2002, x2003, x3000, x3001, x3002, x3003 => if x29 = true then (some (2, false, 0, 0, 0, false, none)) else (if x2000 = 0 then (prod_Exact.j1 k (x2000 == 0) x2001 x2002 x2003 x3001 x3002 x3003) else (prod_Exact.j1 k (x3000 == 0) x2001 x2002 x2003 x3001 x3002 x3003))
def prod_Exact.j1 : Nat → Bool → Bool → Int → Int → Bool → Int → Int → Option (Int × Bool × Int × Int × Int × Bool × Option Int)
 | 0, _, _, _, _, _, _, _ => none
 | k + 1, x37, x2001, x2002, x2003, x3001, x3002, x3003 => if x37 = true then (some (0, false, 0, 0, 0, false, none)) else ((twin_Mul.f x2003 x3003).bind fun t102 => ((round_Make.f k (!(x2001 == x3001)) t102.1 t102.2 (wrap64 ((wrap64 (x2002 + x3002)) - 126)) false).bind fun t103 => (some (t103.1, t103.2.1, t103.2.2.1, t103.2.2.2.1, t103.2.2.2.2.1, t103.2.2.2.2.2.1, t103.2.2.2.2.2.2))))
end
def prod_Exact.f (k : Nat) (a0_0 : Int) (a0_1 : Bool) (a0_2 : Int) (a0_3 : Int) (a1_0 : Int) (a1_1 : Bool) (a1_2 : Int) (a1_3 : Int) : Option (Int × Bool × Int × Int × Int × Bool × Option Int) := (round_Of.f k a0_0 a0_1 a0_2 a0_3).bind fun t100 => (if t100.2.2.2.2.2.2.isNone = true then ((round_Of.f k a1_0 a1_1 a1_2 a1_3).bind fun t101 => (if t101.2.2.2.2.2.2.isNone = true then (if a0_0 = 2 then (prod_Exact.j0 k (a0_0 == 2) a0_0 a0_1 a0_2 a0_3 a1_0 a1_1 a1_2 a1_3) else (prod_Exact.j0 k (a1_0 == 2) a0_0 a0_1 a0_2 a0_3 a1_0 a1_1 a1_2 a1_3)) else (some (0, false, 0, 0, 0, false, some (t101.2.2.2.2.2.2.getD 0))))) else (some (0, false, 0, 0, 0, false, some (t100.2.2.2.2.2.2.getD 0))))
--@ok
noncomputable def prod_Exact.c (k : Nat) : Con := S93.con fun x => prod_Exact.f k x.1 x.2.1 x.2.2.1 x.2.2.2.1 x.2.2.2.2.1 x.2.2.2.2.2.1 x.2.2.2.2.2.2.1 x.2.2.2.2.2.2.2
noncomputable def prod_Exact.G (k : Nat) : List (Go.FuncId × Con) := [(77, round_Of.c k), (99, round_Make.c k), (126, twin_Mul.c)]
noncomputable def prod_Exact.cuts : List (Cut (TT S93.sb)) := [⟨[1, 4, 0, 1, 1], [.sc 29 (.bool), .box 2 70 [.int .i64, .bool, .int .i64, .int .u64], .box 3 70 [.int .i64, .bool, .int .i64, .int .u64], .box 4 105 [.int .i64, .bool, .int .i64, .int .u64, .int .u64, .bool]], fun k x => prod_Exact.j0 k x.1 x.2.1.1 x.2.1.2.1 x.2.1.2.2.1 x.2.1.2.2.2 x.2.2.1.1 x.2.2.1.2.1 x.2.2.1.2.2.1 x.2.2.1.2.2.2⟩, ⟨[1, 3, 1, 4, 0, 1, 1], [.sc 37 (.bool), .box 2 70 [.int .i64, .bool, .int .i64, .int .u64], .box 3 70 [.int .i64, .bool, .int .i64, .int .u64], .box 4 105 [.int .i64, .bool, .int .i64, .int .u64, .int .u64, .bool]], fun k x => prod_Exact.j1 k x.1 x.2.1.2.1 x.2.1.2.2.1 x.2.1.2.2.2 x.2.2.1.2.1 x.2.2.1.2.2.1 x.2.2.1.2.2.2⟩]
theorem prod_Exact.w0 (k : Nat) (x : ET [.sc 29 (.bool), .box 2 70 [.int .i64, .bool, .int .i64, .int .u64], .box 3 70 [.int .i64, .bool, .int .i64, .int .u64], .box 4 105 [.int .i64, .bool, .int .i64, .int .u64, .int .u64, .bool]]) : walk E93 (prod_Exact.G k) (cutsAt k prod_Exact.cuts) (retE E93 Go.Proofs.Try.f93.results.toList S93) 4000 true (stackAt B93 [1, 4, 0, 1, 1]) (mkE [.sc 29 (.bool), .box 2 70 [.int .i64, .bool, .int .i64, .int .u64], .box 3 70 [.int .i64, .bool, .int .i64, .int .u64], .box 4 105 [.int .i64, .bool, .int .i64, .int .u64, .int .u64, .bool]] x St.nil) = prod_Exact.j0 (k + 1) x.1 x.2.1.1 x.2.1.2.1 x.2.1.2.2.1 x.2.1.2.2.2 x.2.2.1.1 x.2.2.1.2.1 x.2.2.1.2.2.1 x.2.2.1.2.2.2 := by kernel_rfl
theorem prod_Exact.w1 (k : Nat) (x : ET [.sc 37 (.bool), .box 2 70 [.int .i64, .bool, .int .i64, .int .u64], .box 3 70 [.int .i64, .bool, .int .i64, .int .u64], .box 4 105 [.int .i64, .bool, .int .i64, .int .u64, .int .u64, .bool]]) : walk E93 (prod_Exact.G k) (cutsAt k prod_Exact.cuts) (retE E93 Go.Proofs.Try.f93.results.toList S93) 4000 true (stackAt B93 [1, 3, 1, 4, 0, 1, 1]) (mkE [.sc 37 (.bool), .box 2 70 [.int .i64, .bool, .int .i64, .int .u64], .box 3 70 [.int .i64, .bool, .int .i64, .int .u64], .box 4 105 [.int .i64, .bool, .int .i64, .int .u64, .int .u64, .bool]] x St.nil) = prod_Exact.j1 (k + 1) x.1 x.2.1.2.1 x.2.1.2.2.1 x.2.1.2.2.2 x.2.2.1.2.1 x.2.2.1.2.2.1 x.2.2.1.2.2.2 := by kernel_rfl
theorem prod_Exact.w (k : Nat) (x : TT S93.sa) : walk E93 (prod_Exact.G k) (cutsAt k prod_Exact.cuts) (retE E93 Go.Proofs.Try.f93.results.toList S93) 4000 true [([], .code B93)] (St0 S93 x) = prod_Exact.f k x.1 x.2.1 x.2.2.1 x.2.2.2.1 x.2.2.2.2.1 x.2.2.2.2.2.1 x.2.2.2.2.2.2.1 x.2.2.2.2.2.2.2 := by kernel_rfl
theorem prod_Exact.ok (k : Nat) : FnOk Go.Proofs.Try.prog E93.eT 93 (prod_Exact.c k) := FnOk.walk (E := E93) (body := B93) Go.Proofs.Try.func93 rfl (by rfl) Go.Proofs.Try.ntmps93 S93 rfl (fun k x => prod_Exact.f k x.1 x.2.1 x.2.2.1 x.2.2.2.1 x.2.2.2.2.1 x.2.2.2.2.2.1 x.2.2.2.2.2.2.1 x.2.2.2.2.2.2.2) prod_Exact.G (fun k => ⟨round_Of.ok k, round_Make.ok k, twin_Mul.ok, trivial⟩) 4000 prod_Exact.cuts ⟨⟨fun _ => rfl, fun k x q h => (prod_Exact.w0 k x).trans h⟩, ⟨fun _ => rfl, fun k x q h => (prod_Exact.w1 k x).trans h⟩, trivial⟩ (fun k x r h => (prod_Exact.w k x).trans h) k
noncomputable def E48 : En := ⟨Go.Proofs.Try.prog, 62, Go.Proofs.Try.f48.ntmps⟩
noncomputable def S48 : Sig := ⟨[.s, .s, .s], [(.int .i64), (.int .u64), (.int .u64)], true, [.s, .s], [(.int .u64), .err], false⟩
noncomputable def B48 : Go.Code := Go.Proofs.Try.f48.body.get!
def prod_Mul.f (k : Nat) (a0 : Int) (a1 : Int) (a2 : Int) : Option (Int × Option Int) := (codec_Decode.f k a0 a1).bind fun t100 => (if t100.2.2.2.2.isNone = true then ((codec_Decode.f k a0 a2).bind fun t101 => ((prod_Exact.f k t100.1 t100.2.1 t100.2.2.1 t100.2.2.2.1 t101.1 t101.2.1 t101.2.2.1 t101.2.2.2.1).bind fun t102 => ((round_Round.f k a0 t102.1 t102.2.1 t102.2.2.1 t102.2.2.2.1 t102.2.2.2.2.1 t102.2.2.2.2.2.1).bind fun t103 => (some (t103.1, t103.2))))) else (some (0, some (t100.2.2.2.2.getD 0))))
--@ok
noncomputable def prod_Mul.c (k : Nat) : Con := S48.con fun x => prod_Mul.f k x.1 x.2.1 x.2.2
noncomputable def prod_Mul.G (k : Nat) : List (Go.FuncId × Con) := [(71, codec_Decode.c k), (73, round_Round.c k), (93, prod_Exact.c k)]
noncomputable def prod_Mul.cuts : List (Cut (TT S48.sb)) := []
theorem prod_Mul.w (k : Nat) (x : TT S48.sa) : walk E48 (prod_Mul.G k) (cutsAt k prod_Mul.cuts) (retE E48 Go.Proofs.Try.f48.results.toList S48) 4000 true [([], .code B48)] (St0 S48 x) = prod_Mul.f k x.1 x.2.1 x.2.2 := by kernel_rfl
theorem prod_Mul.ok (k : Nat) : FnOk Go.Proofs.Try.prog E48.eT 48 (prod_Mul.c k) := FnOk.walk (E := E48) (body := B48) Go.Proofs.Try.func48 rfl (by rfl) Go.Proofs.Try.ntmps48 S48 rfl (fun k x => prod_Mul.f k x.1 x.2.1 x.2.2) prod_Mul.G (fun k => ⟨codec_Decode.ok k, round_Round.ok k, prod_Exact.ok k, trivial⟩) 4000 prod_Mul.cuts trivial (fun k x r h => (prod_Mul.w k x).trans h) k
end Go.Proofs.Ythofoolgbngobaa.Fn
set_option maxRecDepth 100000
set_option linter.unusedVariables false
noncomputable section
namespace Go.Proofs.Ythofoolgbngobaa.Fn
open Go Go.RowKit Go.Proofs.Ythofoolgbngobaa.Ab
noncomputable def E76 : En := ⟨Go.Proofs.Try.prog, 62, Go.Proofs.Try.f76.ntmps⟩
noncomputable def S76 : Sig := ⟨[.s, .s, .s], [(.int .i64), (.int .u64), (.int .u64)], true, [.g 6, .s], [(.int .i64), .bool, (.int .i64), (.int .u64), (.int .u64), .bool, .err], false⟩
noncomputable def B76 : Go.Code := Go.Proofs.Try.f76.body.get!
def fuse_product.f (k : Nat) (a0 : Int) (a1 : Int) (a2 : Int) : Option (Int × Bool × Int × Int × Int × Bool × Option Int) := (codec_Decode.f k a0 a1).bind fun t100 => (if t100.2.2.2.2.isNone = true then ((codec_Decode.f k a0 a2).bind fun t101 => ((prod_Exact.f k t100.1 t100.2.1 t100.2.2.1 t100.2.2.2.1 t101.1 t101.2.1 t101.2.2.1 t101.2.2.2.1).bind fun t102 => (some (t102.1, t102.2.1, t102.2.2.1, t102.2.2.2.1, t102.2.2.2.2.1, t102.2.2.2.2.2.1, t102.2.2.2.2.2.2)))) else (some (0, false, 0, 0, 0, false, some (t100.2.2.2.2.getD 0))))
--@ok
noncomputable def fuse_product.c (k : Nat) : Con := S76.con fun x => fuse_product.f k x.1 x.2.1 x.2.2
noncomputable def fuse_product.G (k : Nat) : List (Go.FuncId × Con) := [(71, codec_Decode.c k), (93, prod_Exact.c k)]
noncomputable def fuse_product.cuts : List (Cut (TT S76.sb)) := []
theorem fuse_product.w (k : Nat) (x : TT S76.sa) : walk E76 (fuse_product.G k) (cutsAt k fuse_product.cuts) (retE E76 Go.Proofs.Try.f76.results.toList S76) 4000 true [([], .code B76)] (St0 S76 x) = fuse_product.f k x.1 x.2.1 x.2.2 := by kernel_rfl
theorem fuse_product.ok (k : Nat) : FnOk Go.Proofs.Try.prog E76.eT 76 (fuse_product.c k) := FnOk.walk (E := E76) (body := B76) Go.Proofs.Try.func76 rfl (by rfl) Go.Proofs.Try.ntmps76 S76 rfl (fun k x => fuse_product.f k x.1 x.2.1 x.2.2) fuse_product.G (fun k => ⟨codec_Decode.ok k, prod_Exact.ok k, trivial⟩) 4000 fuse_product.cuts trivial (fun k x r h => (fuse_product.w k x).trans h) k
end Go.Proofs.Ythofoolgbngobaa.Fn
set_option maxRecDepth 100000
set_option linter.unusedVariables false
noncomputable section
namespace Go.Proofs.Ythofoolgbngobaa.Fn
open Go Go.RowKit Go.Proofs.Ythofoolgbngobaa.Ab
noncomputable def E31 : En := ⟨Go.Proofs.Try.prog, 62, Go.Proofs.Try.f31.ntmps⟩
noncomputable def S31 : Sig := ⟨[.s, .s, .s, .s], [(.int .i64), (.int .u64), (.int .u64), (.int .u64)], true, [.s, .s], [(.int .u64), .err], false⟩
noncomputable def B31 : Go.Code := Go.Proofs.Try.f31.body.get!
def fuse_Fma.f (k : Nat) (a0 : Int) (a1 : Int) (a2 : Int) (a3 : Int) : Option (Int × Option Int) := (fuse_product.f k a0 a1 a2).bind fun t100 => (if t100.2.2.2.2.2.2.isNone = true then ((codec_Decode.f k a0 a3).bind fun t101 => ((round_Of.f k t101.1 t101.2.1 t101.2.2.1 t101.2.2.2.1).bind fun t102 => ((broad_Sum.f k t100.1 t100.2.1 t100.2.2.1 t100.2.2.2.1 t100.2.2.2.2.1 t100.2.2.2.2.2.1 t102.1 t102.2.1 t102.2.2.1 t102.2.2.2.1 t102.2.2.2.2.1 t102.2.2.2.2.2.1).bind fun t103 => ((round_Round.f k a0 t103.1 t103.2.1 t103.2.2.1 t103.2.2.2.1 t103.2.2.2.2.1 t103.2.2.2.2.2).bind fun t104 => (some (t104.1, t104.2)))))) else (some (0, some (t100.2.2.2.2.2.2.getD 0))))
--@ok
noncomputable def fuse_Fma.c (k : Nat) : Con := S31.con fun x => fuse_Fma.f k x.1 x.2.1 x.2.2.1 x.2.2.2
noncomputable def fuse_Fma.G (k : Nat) : List (Go.FuncId × Con) := [(71, codec_Decode.c k), (73, round_Round.c k), (76, fuse_product.c k), (77, round_Of.c k), (78, broad_Sum.c k)]
noncomputable def fuse_Fma.cuts : List (Cut (TT S31.sb)) := []
theorem fuse_Fma.w (k : Nat) (x : TT S31.sa) : walk E31 (fuse_Fma.G k) (cutsAt k fuse_Fma.cuts) (retE E31 Go.Proofs.Try.f31.results.toList S31) 4000 true [([], .code B31)] (St0 S31 x) = fuse_Fma.f k x.1 x.2.1 x.2.2.1 x.2.2.2 := by kernel_rfl
theorem fuse_Fma.ok (k : Nat) : FnOk Go.Proofs.Try.prog E31.eT 31 (fuse_Fma.c k) := FnOk.walk (E := E31) (body := B31) Go.Proofs.Try.func31 rfl (by rfl) Go.Proofs.Try.ntmps31 S31 rfl (fun k x => fuse_Fma.f k x.1 x.2.1 x.2.2.1 x.2.2.2) fuse_Fma.G (fun k => ⟨codec_Decode.ok k, round_Round.ok k, fuse_product.ok k, round_Of.ok k, broad_Sum.ok k, trivial⟩) 4000 fuse_Fma.cuts trivial (fun k x r h => (fuse_Fma.w k x).trans h) k
end Go.Proofs.Ythofoolgbngobaa.Fn
set_option maxRecDepth 100000
set_option linter.unusedVariables false
noncomputable section
namespace Go.Proofs.Ythofoolgbngobaa.Fn
open Go Go.RowKit Go.Proofs.Ythofoolgbngobaa.Ab
noncomputable def E32 : En := ⟨Go.Proofs.Try.prog, 62, Go.Proofs.Try.f32.ntmps⟩
noncomputable def S32 : Sig := ⟨[.s], [(.int .i64)], false, [.s], [.bool], false⟩
noncomputable def B32 : Go.Code := Go.Proofs.Try.f32.body.get!
def vernierref05_Is.f (a0 : Int) : Option (Bool) := if a0 = 8 then (some true) else (if a0 = 16 then (some true) else (if a0 = 32 then (some true) else (some (a0 == 64))))
--@ok
noncomputable def vernierref05_Is.c : Con := S32.con fun x => vernierref05_Is.f x
noncomputable def vernierref05_Is.G (k : Nat) : List (Go.FuncId × Con) := []
noncomputable def vernierref05_Is.cuts : List (Cut (TT S32.sb)) := []
theorem vernierref05_Is.w (k : Nat) (x : TT S32.sa) : walk E32 (vernierref05_Is.G k) (cutsAt k vernierref05_Is.cuts) (retE E32 Go.Proofs.Try.f32.results.toList S32) 4000 true [([], .code B32)] (St0 S32 x) = vernierref05_Is.f x := by kernel_rfl
theorem vernierref05_Is.ok : FnOk Go.Proofs.Try.prog E32.eT 32 (vernierref05_Is.c) := FnOk.walk (E := E32) (body := B32) Go.Proofs.Try.func32 rfl (by rfl) Go.Proofs.Try.ntmps32 S32 rfl (fun k x => vernierref05_Is.f x) vernierref05_Is.G (fun k => trivial) 4000 vernierref05_Is.cuts trivial (fun k x r h => (vernierref05_Is.w k x).trans h) 0
noncomputable def E143 : En := ⟨Go.Proofs.Try.prog, 62, Go.Proofs.Try.f143.ntmps⟩
noncomputable def S143 : Sig := ⟨[.s, .s, .s], [(.int .u64), (.int .u64), (.int .u64)], true, [.s, .s], [(.int .u64), (.int .u64)], false⟩
noncomputable def B143 : Go.Code := Go.Proofs.Try.f143.body.get!
mutual
def bits_Div64.l0 : Nat → Int → Int → Int → Int → Int → Int → Int → Int → Int → Option (Int × Int)
 | 0, _, _, _, _, _, _, _, _, _ => none
 | k + 1, x2, x8, x9, x10, x11, x13, x14, x15, x16 => if x15 ≥ 4294967296 then (bits_Div64.j1 k x2 x8 x9 x10 x11 x13 x14 x15 x16 true) else (bits_Div64.j1 k x2 x8 x9 x10 x11 x13 x14 x15 x16 (decide ((IntKind.u64.wrap (x15 * x10)) > (IntKind.u64.wrap ((IntKind.u64.wrap (4294967296 * x16)) + x13)))))
def bits_Div64.j1 : Nat → Int → Int → Int → Int → Int → Int → Int → Int → Int → Bool → Option (Int × Int)
 | 0, _, _, _, _, _, _, _, _, _, _ => none
 | k + 1, x2, x8, x9, x10, x11, x13, x14, x15, x16, x78 => if x78 = true then (if (IntKind.u64.wrap (x16 + x9)) ≥ 4294967296 then (bits_Div64.j2 k x2 x8 x9 x10 x11 x13 x14 (IntKind.u64.wrap (x15 - 1))) else (bits_Div64.l0 k x2 x8 x9 x10 x11 x13 x14 (IntKind.u64.wrap (x15 - 1)) (IntKind.u64.wrap (x16 + x9)))) else (bits_Div64.j2 k x2 x8 x9 x10 x11 x13 x14 x15)
def bits_Div64.j2 : Nat → Int → Int → Int → Int → Int → Int → Int → Int → Option (Int × Int)
 | 0, _, _, _, _, _, _, _, _ => none
 | k + 1, x2, x8, x9, x10, x11, x13, x14, x15 => if x9 = 0 then (none) else (bits_Div64.l1 k x2 x8 x9 x10 x14 x15 (IntKind.u64.wrap ((IntKind.u64.wrap ((IntKind.u64.wrap ((IntKind.u64.wrap (x11 * 4294967296)) + x13)) - (IntKind.u64.wrap (x15 * x2)))) - (IntKind.u64.wrap ((IntKind.u64.wrap (Int.tdiv (IntKind.u64.wrap ((IntKind.u64.wrap ((IntKind.u64.wrap (x11 * 4294967296)) + x13)) - (IntKind.u64.wrap (x15 * x2)))) x9)) * x9)))) (IntKind.u64.wrap ((IntKind.u64.wrap ((IntKind.u64.wrap (x11 * 4294967296)) + x13)) - (IntKind.u64.wrap (x15 * x2)))) (IntKind.u64.wrap (Int.tdiv (IntKind.u64.wrap ((IntKind.u64.wrap ((IntKind.u64.wrap (x11 * 4294967296)) + x13)) - (IntKind.u64.wrap (x15 * x2)))) x9)))
def bits_Div64.l1 : Nat → Int → Int → Int → Int → Int → Int → Int → Int → Int → Option (Int × Int)
 | 0, _, _, _, _, _, _, _, _, _ => none
 | k + 1, x2, x8, x9, x10, x14, x15, x16, x17, x18 => if x18 ≥ 4294967296 then (bits_Div64.j4 k x2 x8 x9 x10 x14 x15 x16 x17 x18 true) else (bits_Div64.j4 k x2 x8 x9 x10 x14 x15 x16 x17 x18 (decide ((IntKind.u64.wrap (x18 * x10)) > (IntKind.u64.wrap ((IntKind.u64.wrap (4294967296 * x16)) + x14)))))
def bits_Div64.j4 : Nat → Int → Int → Int → Int → Int → Int → Int → Int → Int → Bool → Option (Int × Int)
 | 0, _, _, _, _, _, _, _, _, _, _ => none
 | k + 1, x2, x8, x9, x10, x14, x15, x16, x17, x18, x113 => if x113 = true then (if (IntKind.u64.wrap (x16 + x9)) ≥ 4294967296 then (if 0 ≤ x8 then (some (IntKind.u64.wrap ((IntKind.u64.wrap (x15 * 4294967296)) + (IntKind.u64.wrap (x18 - 1))), shr .u64 (IntKind.u64.wrap ((IntKind.u64.wrap ((IntKind.u64.wrap (x17 * 4294967296)) + x14)) - (IntKind.u64.wrap ((IntKind.u64.wrap (x18 - 1)) * x2)))) x8)) else (none)) else (bits_Div64.l1 k x2 x8 x9 x10 x14 x15 (IntKind.u64.wrap (x16 + x9)) x17 (IntKind.u64.wrap (x18 - 1)))) else (if 0 ≤ x8 then (some (IntKind.u64.wrap ((IntKind.u64.wrap (x15 * 4294967296)) + x18), shr .u64 (IntKind.u64.wrap ((IntKind.u64.wrap ((IntKind.u64.wrap (x17 * 4294967296)) + x14)) - (IntKind.u64.wrap (x18 * x2)))) x8)) else (none))
end
def bits_Div64.f (k : Nat) (a0 : Int) (a1 : Int) (a2 : Int) : Option (Int × Int) := if a2 = 0 then (none) else (if a2 ≤ a0 then (none) else (if a0 = 0 then (some (IntKind.u64.wrap (Int.tdiv a1 a2), Int.tmod a1 a2)) else ((bits_LeadingZeros64.f a2).bind fun t100 => (if 0 ≤ (IntKind.u64.wrap t100) then (if 0 ≤ (IntKind.u64.wrap (64 - (IntKind.u64.wrap t100))) then (if ((shl .u64 a2 (IntKind.u64.wrap t100)) / 4294967296) = 0 then (none) else (bits_Div64.l0 k (shl .u64 a2 (IntKind.u64.wrap t100)) (IntKind.u64.wrap t100) ((shl .u64 a2 (IntKind.u64.wrap t100)) / 4294967296) (Go.bits .and .u64 (shl .u64 a2 (IntKind.u64.wrap t100)) 4294967295) (Go.bits .or .u64 (shl .u64 a0 (IntKind.u64.wrap t100)) (shr .u64 a1 (IntKind.u64.wrap (64 - (IntKind.u64.wrap t100))))) ((shl .u64 a1 (IntKind.u64.wrap t100)) / 4294967296) (Go.bits .and .u64 (shl .u64 a1 (IntKind.u64.wrap t100)) 4294967295) (IntKind.u64.wrap (Int.tdiv (Go.bits .or .u64 (shl .u64 a0 (IntKind.u64.wrap t100)) (shr .u64 a1 (IntKind.u64.wrap (64 - (IntKind.u64.wrap t100))))) ((shl .u64 a2 (IntKind.u64.wrap t100)) / 4294967296))) (IntKind.u64.wrap ((Go.bits .or .u64 (shl .u64 a0 (IntKind.u64.wrap t100)) (shr .u64 a1 (IntKind.u64.wrap (64 - (IntKind.u64.wrap t100))))) - (IntKind.u64.wrap ((IntKind.u64.wrap (Int.tdiv (Go.bits .or .u64 (shl .u64 a0 (IntKind.u64.wrap t100)) (shr .u64 a1 (IntKind.u64.wrap (64 - (IntKind.u64.wrap t100))))) ((shl .u64 a2 (IntKind.u64.wrap t100)) / 4294967296))) * ((shl .u64 a2 (IntKind.u64.wrap t100)) / 4294967296))))))) else (none)) else (none)))))
--@ok
def bits_Div64.fR (k : Nat) (a0 : Int) (a1 : Int) (a2 : Int) : Option (Int × Int) := if a2 = 0 then (none) else (if a2 ≤ a0 then (none) else (if a0 = 0 then (if a2 = 0 then (none) else (if a2 = 0 then (none) else (some (IntKind.u64.wrap (Int.tdiv a1 a2), Int.tmod a1 a2)))) else ((bits_LeadingZeros64.f a2).bind fun t100 => (if 0 ≤ (IntKind.u64.wrap t100) then (if 0 ≤ (IntKind.u64.wrap t100) then (if 0 ≤ (IntKind.u64.wrap (64 - (IntKind.u64.wrap t100))) then (if 0 ≤ (IntKind.u64.wrap t100) then (if ((shl .u64 a2 (IntKind.u64.wrap t100)) / 4294967296) = 0 then (none) else (bits_Div64.l0 k (shl .u64 a2 (IntKind.u64.wrap t100)) (IntKind.u64.wrap t100) ((shl .u64 a2 (IntKind.u64.wrap t100)) / 4294967296) (Go.bits .and .u64 (shl .u64 a2 (IntKind.u64.wrap t100)) 4294967295) (Go.bits .or .u64 (shl .u64 a0 (IntKind.u64.wrap t100)) (shr .u64 a1 (IntKind.u64.wrap (64 - (IntKind.u64.wrap t100))))) ((shl .u64 a1 (IntKind.u64.wrap t100)) / 4294967296) (Go.bits .and .u64 (shl .u64 a1 (IntKind.u64.wrap t100)) 4294967295) (IntKind.u64.wrap (Int.tdiv (Go.bits .or .u64 (shl .u64 a0 (IntKind.u64.wrap t100)) (shr .u64 a1 (IntKind.u64.wrap (64 - (IntKind.u64.wrap t100))))) ((shl .u64 a2 (IntKind.u64.wrap t100)) / 4294967296))) (IntKind.u64.wrap ((Go.bits .or .u64 (shl .u64 a0 (IntKind.u64.wrap t100)) (shr .u64 a1 (IntKind.u64.wrap (64 - (IntKind.u64.wrap t100))))) - (IntKind.u64.wrap ((IntKind.u64.wrap (Int.tdiv (Go.bits .or .u64 (shl .u64 a0 (IntKind.u64.wrap t100)) (shr .u64 a1 (IntKind.u64.wrap (64 - (IntKind.u64.wrap t100))))) ((shl .u64 a2 (IntKind.u64.wrap t100)) / 4294967296))) * ((shl .u64 a2 (IntKind.u64.wrap t100)) / 4294967296))))))) else (none)) else (none)) else (none)) else (none)))))
theorem bits_Div64.fE (k : Nat) (a0 : Int) (a1 : Int) (a2 : Int) : bits_Div64.fR k a0 a1 a2 = bits_Div64.f k a0 a1 a2 := by
  unfold bits_Div64.fR bits_Div64.f
  exact iteC (fun h0 => rfl) (fun h0 => iteC (fun h1 => rfl) (fun h1 => iteC (fun h2 => (if_neg h0).trans ((if_neg h0).trans (rfl))) (fun h2 => bindC fun _ => iteC (fun h3 => (if_pos h3).trans (iteC (fun h4 => (if_pos h3).trans (iteC (fun h5 => rfl) (fun h5 => rfl))) (fun h4 => rfl))) (fun h3 => rfl))))
noncomputable def bits_Div64.c (k : Nat) : Con := S143.con fun x => bits_Div64.f k x.1 x.2.1 x.2.2
noncomputable def bits_Div64.G (k : Nat) : List (Go.FuncId × Con) := [(98, bits_LeadingZeros64.c)]
noncomputable def bits_Div64.cuts : List (Cut (TT S143.sb)) := [⟨[6, 4, 0, 1, 1, 1, 1, 1, 1, 1, 1, 1, 1, 1, 1, 1, 1], [.sc 2 (.int .u64), .sc 8 (.int .u64), .sc 9 (.int .u64), .sc 10 (.int .u64), .sc 11 (.int .u64), .sc 13 (.int .u64), .sc 14 (.int .u64), .sc 15 (.int .u64), .sc 16 (.int .u64)], fun k x => bits_Div64.l0 k x.1 x.2.1 x.2.2.1 x.2.2.2.1 x.2.2.2.2.1 x.2.2.2.2.2.1 x.2.2.2.2.2.2.1 x.2.2.2.2.2.2.2.1 x.2.2.2.2.2.2.2.2⟩, ⟨[1, 0, 6, 4, 0, 1, 1, 1, 1, 1, 1, 1, 1, 1, 1, 1, 1, 1, 1], [.sc 2 (.int .u64), .sc 8 (.int .u64), .sc 9 (.int .u64), .sc 10 (.int .u64), .sc 11 (.int .u64), .sc 13 (.int .u64), .sc 14 (.int .u64), .sc 15 (.int .u64), .sc 16 (.int .u64), .sc 78 (.bool)], fun k x => bits_Div64.j1 k x.1 x.2.1 x.2.2.1 x.2.2.2.1 x.2.2.2.2.1 x.2.2.2.2.2.1 x.2.2.2.2.2.2.1 x.2.2.2.2.2.2.2.1 x.2.2.2.2.2.2.2.2.1 x.2.2.2.2.2.2.2.2.2⟩, ⟨[1, 1, 1, 1, 1, 1, 1, 1, 1, 1, 1, 1, 1, 1, 1], [.sc 2 (.int .u64), .sc 8 (.int .u64), .sc 9 (.int .u64), .sc 10 (.int .u64), .sc 11 (.int .u64), .sc 13 (.int .u64), .sc 14 (.int .u64), .sc 15 (.int .u64)], fun k x => bits_Div64.j2 k x.1 x.2.1 x.2.2.1 x.2.2.2.1 x.2.2.2.2.1 x.2.2.2.2.2.1 x.2.2.2.2.2.2.1 x.2.2.2.2.2.2.2⟩, ⟨[6, 4, 0, 1, 1, 1, 1, 1, 1, 1, 1, 1, 1, 1, 1, 1, 1, 1, 1, 1, 1], [.sc 2 (.int .u64), .sc 8 (.int .u64), .sc 9 (.int .u64), .sc 10 (.int .u64), .sc 14 (.int .u64), .sc 15 (.int .u64), .sc 16 (.int .u64), .sc 17 (.int .u64), .sc 18 (.int .u64)], fun k x => bits_Div64.l1 k x.1 x.2.1 x.2.2.1 x.2.2.2.1 x.2.2.2.2.1 x.2.2.2.2.2.1 x.2.2.2.2.2.2.1 x.2.2.2.2.2.2.2.1 x.2.2.2.2.2.2.2.2⟩, ⟨[1, 0, 6, 4, 0, 1, 1, 1, 1, 1, 1, 1, 1, 1, 1, 1, 1, 1, 1, 1, 1, 1, 1], [.sc 2 (.int .u64), .sc 8 (.int .u64), .sc 9 (.int .u64), .sc 10 (.int .u64), .sc 14 (.int .u64), .sc 15 (.int .u64), .sc 16 (.int .u64), .sc 17 (.int .u64), .sc 18 (.int .u64), .sc 113 (.bool)], fun k x => bits_Div64.j4 k x.1 x.2.1 x.2.2.1 x.2.2.2.1 x.2.2.2.2.1 x.2.2.2.2.2.1 x.2.2.2.2.2.2.1 x.2.2.2.2.2.2.2.1 x.2.2.2.2.2.2.2.2.1 x.2.2.2.2.2.2.2.2.2⟩]
theorem bits_Div64.w0 (k : Nat) (x : ET [.sc 2 (.int .u64), .sc 8 (.int .u64), .sc 9 (.int .u64), .sc 10 (.int .u64), .sc 11 (.int .u64), .sc 13 (.int .u64), .sc 14 (.int .u64), .sc 15 (.int .u64), .sc 16 (.int .u64)]) : walk E143 (bits_Div64.G k) (cutsAt k bits_Div64.cuts) (retE E143 Go.Proofs.Try.f143.results.toList S143) 4000 true (stackAt B143 [6, 4, 0, 1, 1, 1, 1, 1, 1, 1, 1, 1, 1, 1, 1, 1, 1]) (mkE [.sc 2 (.int .u64), .sc 8 (.int .u64), .sc 9 (.int .u64), .sc 10 (.int .u64), .sc 11 (.int .u64), .sc 13 (.int .u64), .sc 14 (.int .u64), .sc 15 (.int .u64), .sc 16 (.int .u64)] x St.nil) = bits_Div64.l0 (k + 1) x.1 x.2.1 x.2.2.1 x.2.2.2.1 x.2.2.2.2.1 x.2.2.2.2.2.1 x.2.2.2.2.2.2.1 x.2.2.2.2.2.2.2.1 x.2.2.2.2.2.2.2.2 := by kernel_rfl
theorem bits_Div64.w1 (k : Nat) (x : ET [.sc 2 (.int .u64), .sc 8 (.int .u64), .sc 9 (.int .u64), .sc 10 (.int .u64), .sc 11 (.int .u64), .sc 13 (.int .u64), .sc 14 (.int .u64), .sc 15 (.int .u64), .sc 16 (.int .u64), .sc 78 (.bool)]) : walk E143 (bits_Div64.G k) (cutsAt k bits_Div64.cuts) (retE E143 Go.Proofs.Try.f143.results.toList S143) 4000 true (stackAt B143 [1, 0, 6, 4, 0, 1, 1, 1, 1, 1, 1, 1, 1, 1, 1, 1, 1, 1, 1]) (mkE [.sc 2 (.int .u64), .sc 8 (.int .u64), .sc 9 (.int .u64), .sc 10 (.int .u64), .sc 11 (.int .u64), .sc 13 (.int .u64), .sc 14 (.int .u64), .sc 15 (.int .u64), .sc 16 (.int .u64), .sc 78 (.bool)] x St.nil) = bits_Div64.j1 (k + 1) x.1 x.2.1 x.2.2.1 x.2.2.2.1 x.2.2.2.2.1 x.2.2.2.2.2.1 x.2.2.2.2.2.2.1 x.2.2.2.2.2.2.2.1 x.2.2.2.2.2.2.2.2.1 x.2.2.2.2.2.2.2.2.2 := by kernel_rfl
theorem bits_Div64.w2 (k : Nat) (x : ET [.sc 2 (.int .u64), .sc 8 (.int .u64), .sc 9 (.int .u64), .sc 10 (.int .u64), .sc 11 (.int .u64), .sc 13 (.int .u64), .sc 14 (.int .u64), .sc 15 (.int .u64)]) : walk E143 (bits_Div64.G k) (cutsAt k bits_Div64.cuts) (retE E143 Go.Proofs.Try.f143.results.toList S143) 4000 true (stackAt B143 [1, 1, 1, 1, 1, 1, 1, 1, 1, 1, 1, 1, 1, 1, 1]) (mkE [.sc 2 (.int .u64), .sc 8 (.int .u64), .sc 9 (.int .u64), .sc 10 (.int .u64), .sc 11 (.int .u64), .sc 13 (.int .u64), .sc 14 (.int .u64), .sc 15 (.int .u64)] x St.nil) = bits_Div64.j2 (k + 1) x.1 x.2.1 x.2.2.1 x.2.2.2.1 x.2.2.2.2.1 x.2.2.2.2.2.1 x.2.2.2.2.2.2.1 x.2.2.2.2.2.2.2 := by kernel_rfl
theorem bits_Div64.w3 (k : Nat) (x : ET [.sc 2 (.int .u64), .sc 8 (.int .u64), .sc 9 (.int .u64), .sc 10 (.int .u64), .sc 14 (.int .u64), .sc 15 (.int .u64), .sc 16 (.int .u64), .sc 17 (.int .u64), .sc 18 (.int .u64)]) : walk E143 (bits_Div64.G k) (cutsAt k bits_Div64.cuts) (retE E143 Go.Proofs.Try.f143.results.toList S143) 4000 true (stackAt B143 [6, 4, 0, 1, 1, 1, 1, 1, 1, 1, 1, 1, 1, 1, 1, 1, 1, 1, 1, 1, 1]) (mkE [.sc 2 (.int .u64), .sc 8 (.int .u64), .sc 9 (.int .u64), .sc 10 (.int .u64), .sc 14 (.int .u64), .sc 15 (.int .u64), .sc 16 (.int .u64), .sc 17 (.int .u64), .sc 18 (.int .u64)] x St.nil) = bits_Div64.l1 (k + 1) x.1 x.2.1 x.2.2.1 x.2.2.2.1 x.2.2.2.2.1 x.2.2.2.2.2.1 x.2.2.2.2.2.2.1 x.2.2.2.2.2.2.2.1 x.2.2.2.2.2.2.2.2 := by kernel_rfl
theorem bits_Div64.w4 (k : Nat) (x : ET [.sc 2 (.int .u64), .sc 8 (.int .u64), .sc 9 (.int .u64), .sc 10 (.int .u64), .sc 14 (.int .u64), .sc 15 (.int .u64), .sc 16 (.int .u64), .sc 17 (.int .u64), .sc 18 (.int .u64), .sc 113 (.bool)]) : walk E143 (bits_Div64.G k) (cutsAt k bits_Div64.cuts) (retE E143 Go.Proofs.Try.f143.results.toList S143) 4000 true (stackAt B143 [1, 0, 6, 4, 0, 1, 1, 1, 1, 1, 1, 1, 1, 1, 1, 1, 1, 1, 1, 1, 1, 1, 1]) (mkE [.sc 2 (.int .u64), .sc 8 (.int .u64), .sc 9 (.int .u64), .sc 10 (.int .u64), .sc 14 (.int .u64), .sc 15 (.int .u64), .sc 16 (.int .u64), .sc 17 (.int .u64), .sc 18 (.int .u64), .sc 113 (.bool)] x St.nil) = bits_Div64.j4 (k + 1) x.1 x.2.1 x.2.2.1 x.2.2.2.1 x.2.2.2.2.1 x.2.2.2.2.2.1 x.2.2.2.2.2.2.1 x.2.2.2.2.2.2.2.1 x.2.2.2.2.2.2.2.2.1 x.2.2.2.2.2.2.2.2.2 := by kernel_rfl
theorem bits_Div64.w (k : Nat) (x : TT S143.sa) : walk E143 (bits_Div64.G k) (cutsAt k bits_Div64.cuts) (retE E143 Go.Proofs.Try.f143.results.toList S143) 4000 true [([], .code B143)] (St0 S143 x) = bits_Div64.f k x.1 x.2.1 x.2.2 := Eq.trans (b := bits_Div64.fR k x.1 x.2.1 x.2.2) (by kernel_rfl) (bits_Div64.fE k x.1 x.2.1 x.2.2)
theorem bits_Div64.ok (k : Nat) : FnOk Go.Proofs.Try.prog E143.eT 143 (bits_Div64.c k) := FnOk.walk (E := E143) (body := B143) Go.Proofs.Try.func143 rfl (by rfl) Go.Proofs.Try.ntmps143 S143 rfl (fun k x => bits_Div64.f k x.1 x.2.1 x.2.2) bits_Div64.G (fun k => ⟨bits_LeadingZeros64.ok, trivial⟩) 4000 bits_Div64.cuts ⟨⟨fun _ => rfl, fun k x q h => (bits_Div64.w0 k x).trans h⟩, ⟨fun _ => rfl, fun k x q h => (bits_Div64.w1 k x).trans h⟩, ⟨fun _ => rfl, fun k x q h => (bits_Div64.w2 k x).trans h⟩, ⟨fun _ => rfl, fun k x q h => (bits_Div64.w3 k x).trans h⟩, ⟨fun _ => rfl, fun k x q h => (bits_Div64.w4 k x).trans h⟩, trivial⟩ (fun k x r h => (bits_Div64.w k x).trans h) k
noncomputable def E112 : En := ⟨Go.Proofs.Try.prog, 62, Go.Proofs.Try.f112.ntmps⟩
noncomputable def S112 : Sig := ⟨[.g 2, .s], [(.int .u64), (.int .u64), (.int .u64)], true, [.s, .s, .s], [(.int .u64), (.int .u64), .err], false⟩
noncomputable def B112 : Go.Code := Go.Proofs.Try.f112.body.get!
def part_Div.f (k : Nat) (a0_0 : Int) (a0_1 : Int) (a1 : Int) : Option (Int × Int × Option Int) := if a1 = 0 then (some (0, 0, some 4)) else (if a0_0 ≥ a1 then (some (0, 0, some 5)) else ((bits_Div64.f k a0_0 a0_1 a1).bind fun t100 => (some (t100.1, t100.2, none))))
--@ok
noncomputable def part_Div.c (k : Nat) : Con := S112.con fun x => part_Div.f k x.1 x.2.1 x.2.2
noncomputable def part_Div.G (k : Nat) : List (Go.FuncId × Con) := [(143, bits_Div64.c k)]
noncomputable def part_Div.cuts : List (Cut (TT S112.sb)) := []
theorem part_Div.w (k : Nat) (x : TT S112.sa) : walk E112 (part_Div.G k) (cutsAt k part_Div.cuts) (retE E112 Go.Proofs.Try.f112.results.toList S112) 4000 true [([], .code B112)] (St0 S112 x) = part_Div.f k x.1 x.2.1 x.2.2 := by kernel_rfl
theorem part_Div.ok (k : Nat) : FnOk Go.Proofs.Try.prog E112.eT 112 (part_Div.c k) := FnOk.walk (E := E112) (body := B112) Go.Proofs.Try.func112 rfl (by rfl) Go.Proofs.Try.ntmps112 S112 rfl (fun k x => part_Div.f k x.1 x.2.1 x.2.2) part_Div.G (fun k => ⟨bits_Div64.ok k, trivial⟩) 4000 part_Div.cuts trivial (fun k x r h => (part_Div.w k x).trans h) k
noncomputable def E79 : En := ⟨Go.Proofs.Try.prog, 62, Go.Proofs.Try.f79.ntmps⟩
noncomputable def S79 : Sig := ⟨[.g 4, .g 4], [(.int .i64), .bool, (.int .i64), (.int .u64), (.int .i64), .bool, (.int .i64), (.int .u64)], true, [.g 6, .s], [(.int .i64), .bool, (.int .i64), (.int .u64), (.int .u64), .bool, .err], false⟩
noncomputable def B79 : Go.Code := Go.Proofs.Try.f79.body.get!
def quot_Exact.j0 : Nat → Bool → Int → Bool → Int → Int → Bool → Int → Int → Option (Int × Bool × Int × Int × Int × Bool × Option Int)
 | 0, _, _, _, _, _, _, _, _ => none
 | k + 1, x33, x2000, x2001, x2002, x2003, x3001, x3002, x3003 => if x33 = true then (some (2, false, 0, 0, 0, false, none)) else (if x2000 = 0 then (some (0, false, 0, 0, 0, false, none)) else (if x2003 ≥ x3003 then ((part_Div.f k (x2003 / 2) (IntKind.u64.wrap (x2003 * 9223372036854775808)) x3003).bind fun t102 => (some (1, !(x2001 == x3001), wrap64 ((wrap64 ((wrap64 (x2002 - x3002)) - 1)) + 1), t102.1, 0, decide (t102.2.1 > 0), t102.2.2))) else ((part_Div.f k x2003 0 x3003).bind fun t103 => (some (1, !(x2001 == x3001), wrap64 ((wrap64 (x2002 - x3002)) - 1), t103.1, 0, decide (t103.2.1 > 0), t103.2.2)))))
def quot_Exact.f (k : Nat) (a0_0 : Int) (a0_1 : Bool) (a0_2 : Int) (a0_3 : Int) (a1_0 : Int) (a1_1 : Bool) (a1_2 : Int) (a1_3 : Int) : Option (Int × Bool × Int × Int × Int × Bool × Option Int) := (round_Of.f k a0_0 a0_1 a0_2 a0_3).bind fun t100 => (if t100.2.2.2.2.2.2.isNone = true then ((round_Of.f k a1_0 a1_1 a1_2 a1_3).bind fun t101 => (if t101.2.2.2.2.2.2.isNone = true then (if a0_0 = 2 then (quot_Exact.j0 k (a0_0 == 2) a0_0 a0_1 a0_2 a0_3 a1_1 a1_2 a1_3) else (quot_Exact.j0 k (a1_0 != 1) a0_0 a0_1 a0_2 a0_3 a1_1 a1_2 a1_3)) else (some (0, false, 0, 0, 0, false, some (t101.2.2.2.2.2.2.getD 0))))) else (some (0, false, 0, 0, 0, false, some (t100.2.2.2.2.2.2.getD 0))))
--@ok
noncomputable def quot_Exact.c (k : Nat) : Con := S79.con fun x => quot_Exact.f k x.1 x.2.1 x.2.2.1 x.2.2.2.1 x.2.2.2.2.1 x.2.2.2.2.2.1 x.2.2.2.2.2.2.1 x.2.2.2.2.2.2.2
noncomputable def quot_Exact.G (k : Nat) : List (Go.FuncId × Con) := [(77, round_Of.c k), (112, part_Div.c k)]
noncomputable def quot_Exact.cuts : List (Cut (TT S79.sb)) := [⟨[1, 4, 0, 1, 1], [.sc 33 (.bool), .box 2 70 [.int .i64, .bool, .int .i64, .int .u64], .box 3 70 [.int .i64, .bool, .int .i64, .int .u64], .box 4 105 [.int .i64, .bool, .int .i64, .int .u64, .int .u64, .bool]], fun k x => quot_Exact.j0 k x.1 x.2.1.1 x.2.1.2.1 x.2.1.2.2.1 x.2.1.2.2.2 x.2.2.1.2.1 x.2.2.1.2.2.1 x.2.2.1.2.2.2⟩]
theorem quot_Exact.w0 (k : Nat) (x : ET [.sc 33 (.bool), .box 2 70 [.int .i64, .bool, .int .i64, .int .u64], .box 3 70 [.int .i64, .bool, .int .i64, .int .u64], .box 4 105 [.int .i64, .bool, .int .i64, .int .u64, .int .u64, .bool]]) : walk E79 (quot_Exact.G k) (cutsAt k quot_Exact.cuts) (retE E79 Go.Proofs.Try.f79.results.toList S79) 4000 true (stackAt B79 [1, 4, 0, 1, 1]) (mkE [.sc 33 (.bool), .box 2 70 [.int .i64, .bool, .int .i64, .int .u64], .box 3 70 [.int .i64, .bool, .int .i64, .int .u64], .box 4 105 [.int .i64, .bool, .int .i64, .int .u64, .int .u64, .bool]] x St.nil) = quot_Exact.j0 (k + 1) x.1 x.2.1.1 x.2.1.2.1 x.2.1.2.2.1 x.2.1.2.2.2 x.2.2.1.2.1 x.2.2.1.2.2.1 x.2.2.1.2.2.2 := by kernel_rfl
theorem quot_Exact.w (k : Nat) (x : TT S79.sa) : walk E79 (quot_Exact.G k) (cutsAt k quot_Exact.cuts) (retE E79 Go.Proofs.Try.f79.results.toList S79) 4000 true [([], .code B79)] (St0 S79 x) = quot_Exact.f k x.1 x.2.1 x.2.2.1 x.2.2.2.1 x.2.2.2.2.1 x.2.2.2.2.2.1 x.2.2.2.2.2.2.1 x.2.2.2.2.2.2.2 := by kernel_rfl
theorem quot_Exact.ok (k : Nat) : FnOk Go.Proofs.Try.prog E79.eT 79 (quot_Exact.c k) := FnOk.walk (E := E79) (body := B79) Go.Proofs.Try.func79 rfl (by rfl) Go.Proofs.Try.ntmps79 S79 rfl (fun k x => quot_Exact.f k x.1 x.2.1 x.2.2.1 x.2.2.2.1 x.2.2.2.2.1 x.2.2.2.2.2.1 x.2.2.2.2.2.2.1 x.2.2.2.2.2.2.2) quot_Exact.G (fun k => ⟨round_Of.ok k, part_Div.ok k, trivial⟩) 4000 quot_Exact.cuts ⟨⟨fun _ => rfl, fun k x q h => (quot_Exact.w0 k x).trans h⟩, trivial⟩ (fun k x r h => (quot_Exact.w k x).trans h) k
noncomputable def E33 : En := ⟨Go.Proofs.Try.prog, 62, Go.Proofs.Try.f33.ntmps⟩
noncomputable def S33 : Sig := ⟨[.s, .s, .s], [(.int .i64), (.int .u64), (.int .u64)], true, [.s, .s], [(.int .u64), .err], false⟩
noncomputable def B33 : Go.Code := Go.Proofs.Try.f33.body.get!
def quot_Div.f (k : Nat) (a0 : Int) (a1 : Int) (a2 : Int) : Option (Int × Option Int) := (codec_Decode.f k a0 a1).bind fun t100 => (if t100.2.2.2.2.isNone = true then ((codec_Decode.f k a0 a2).bind fun t101 => ((quot_Exact.f k t100.1 t100.2.1 t100.2.2.1 t100.2.2.2.1 t101.1 t101.2.1 t101.2.2.1 t101.2.2.2.1).bind fun t102 => (if t102.2.2.2.2.2.2.isNone = true then ((round_Round.f k a0 t102.1 t102.2.1 t102.2.2.1 t102.2.2.2.1 t102.2.2.2.2.1 t102.2.2.2.2.2.1).bind fun t103 => (some (t103.1, t103.2))) else (some (0, some (t102.2.2.2.2.2.2.getD 0)))))) else (some (0, some (t100.2.2.2.2.getD 0))))
--@ok
noncomputable def quot_Div.c (k : Nat) : Con := S33.con fun x => quot_Div.f k x.1 x.2.1 x.2.2
noncomputable def quot_Div.G (k : Nat) : List (Go.FuncId × Con) := [(71, codec_Decode.c k), (73, round_Round.c k), (79, quot_Exact.c k)]
noncomputable def quot_Div.cuts : List (Cut (TT S33.sb)) := []
theorem quot_Div.w (k : Nat) (x : TT S33.sa) : walk E33 (quot_Div.G k) (cutsAt k quot_Div.cuts) (retE E33 Go.Proofs.Try.f33.results.toList S33) 4000 true [([], .code B33)] (St0 S33 x) = quot_Div.f k x.1 x.2.1 x.2.2 := by kernel_rfl
theorem quot_Div.ok (k : Nat) : FnOk Go.Proofs.Try.prog E33.eT 33 (quot_Div.c k) := FnOk.walk (E := E33) (body := B33) Go.Proofs.Try.func33 rfl (by rfl) Go.Proofs.Try.ntmps33 S33 rfl (fun k x => quot_Div.f k x.1 x.2.1 x.2.2) quot_Div.G (fun k => ⟨codec_Decode.ok k, round_Round.ok k, quot_Exact.ok k, trivial⟩) 4000 quot_Div.cuts trivial (fun k x r h => (quot_Div.w k x).trans h) k
noncomputable def E35 : En := ⟨Go.Proofs.Try.prog, 62, Go.Proofs.Try.f35.ntmps⟩
noncomputable def S35 : Sig := ⟨[.s], [(.int .i64)], false, [.s], [(.int .u64)], false⟩
noncomputable def B35 : Go.Code := Go.Proofs.Try.f35.body.get!
def vernierref05_Power.l0 : Nat → Int → Int → Int → Option (Int)
 | 0, _, _, _ => none
 | k + 1, x0, x3, x4 => if x4 < x0 then (vernierref05_Power.l0 k x0 (IntKind.u64.wrap (2 * x3)) (wrap64 (x4 + 1))) else (some x3)
def vernierref05_Power.f (k : Nat) (a0 : Int) : Option (Int) := vernierref05_Power.l0 k a0 1 0
--@ok
noncomputable def vernierref05_Power.c (k : Nat) : Con := S35.con fun x => vernierref05_Power.f k x
noncomputable def vernierref05_Power.G (k : Nat) : List (Go.FuncId × Con) := []
noncomputable def vernierref05_Power.cuts : List (Cut (TT S35.sb)) := [⟨[6, 4, 1, 0, 1, 1], [.sc 0 (.int .i64), .sc 3 (.int .u64), .sc 4 (.int .i64)], fun k x => vernierref05_Power.l0 k x.1 x.2.1 x.2.2⟩]
theorem vernierref05_Power.w0 (k : Nat) (x : ET [.sc 0 (.int .i64), .sc 3 (.int .u64), .sc 4 (.int .i64)]) : walk E35 (vernierref05_Power.G k) (cutsAt k vernierref05_Power.cuts) (retE E35 Go.Proofs.Try.f35.results.toList S35) 4000 true (stackAt B35 [6, 4, 1, 0, 1, 1]) (mkE [.sc 0 (.int .i64), .sc 3 (.int .u64), .sc 4 (.int .i64)] x St.nil) = vernierref05_Power.l0 (k + 1) x.1 x.2.1 x.2.2 := by kernel_rfl
theorem vernierref05_Power.w (k : Nat) (x : TT S35.sa) : walk E35 (vernierref05_Power.G k) (cutsAt k vernierref05_Power.cuts) (retE E35 Go.Proofs.Try.f35.results.toList S35) 4000 true [([], .code B35)] (St0 S35 x) = vernierref05_Power.f k x := by kernel_rfl
theorem vernierref05_Power.ok (k : Nat) : FnOk Go.Proofs.Try.prog E35.eT 35 (vernierref05_Power.c k) := FnOk.walk (E := E35) (body := B35) Go.Proofs.Try.func35 rfl (by rfl) Go.Proofs.Try.ntmps35 S35 rfl (fun k x => vernierref05_Power.f k x) vernierref05_Power.G (fun k => trivial) 4000 vernierref05_Power.cuts ⟨⟨fun _ => rfl, fun k x q h => (vernierref05_Power.w0 k x).trans h⟩, trivial⟩ (fun k x r h => (vernierref05_Power.w k x).trans h) k
noncomputable def E88 : En := ⟨Go.Proofs.Try.prog, 62, Go.Proofs.Try.f88.ntmps⟩
noncomputable def S88 : Sig := ⟨[.s, .s], [(.int .u64), (.int .i64)], false, [.s], [.str], false⟩
noncomputable def B88 : Go.Code := Go.Proofs.Try.f88.body.get!
def vernierref01_Text.l0 : Nat → Int → List Int → Int → Option (ByteArray)
 | 0, _, _, _ => none
 | k + 1, x0, x5, x6 => if x6 ≥ 0 then (if 0 ≤ x6 then (if x5.length < 140737488355328 then (vernierref01_Text.l0 k x0 (x5 ++ ([(48 + ((Int.tmod (shr .u64 x0 x6) 2) % 256)) % 256] : List Int)) (wrap64 (x6 - 1))) else (none)) else (none)) else (some (strOfNums x5))
def vernierref01_Text.f (k : Nat) (a0 : Int) (a1 : Int) : Option (ByteArray) := vernierref01_Text.l0 k a0 ([] : List Int) (wrap64 (a1 - 1))
--@ok
noncomputable def vernierref01_Text.c (k : Nat) : Con := S88.con fun x => vernierref01_Text.f k x.1 x.2
noncomputable def vernierref01_Text.G (k : Nat) : List (Go.FuncId × Con) := []
noncomputable def vernierref01_Text.cuts : List (Cut (TT S88.sb)) := [⟨[6, 4, 1, 0, 1, 1], [.sc 0 (.int .u64), .lst 5 .u8 5, .sc 6 (.int .i64)], fun k x => vernierref01_Text.l0 k x.1 x.2.1 x.2.2⟩]
theorem vernierref01_Text.w0 (k : Nat) (x : ET [.sc 0 (.int .u64), .lst 5 .u8 5, .sc 6 (.int .i64)]) : walk E88 (vernierref01_Text.G k) (cutsAt k vernierref01_Text.cuts) (retE E88 Go.Proofs.Try.f88.results.toList S88) 4000 true (stackAt B88 [6, 4, 1, 0, 1, 1]) (mkE [.sc 0 (.int .u64), .lst 5 .u8 5, .sc 6 (.int .i64)] x St.nil) = vernierref01_Text.l0 (k + 1) x.1 x.2.1 x.2.2 := by kernel_rfl
theorem vernierref01_Text.w (k : Nat) (x : TT S88.sa) : walk E88 (vernierref01_Text.G k) (cutsAt k vernierref01_Text.cuts) (retE E88 Go.Proofs.Try.f88.results.toList S88) 4000 true [([], .code B88)] (St0 S88 x) = vernierref01_Text.f k x.1 x.2 := by kernel_rfl
theorem vernierref01_Text.ok (k : Nat) : FnOk Go.Proofs.Try.prog E88.eT 88 (vernierref01_Text.c k) := FnOk.walk (E := E88) (body := B88) Go.Proofs.Try.func88 rfl (by rfl) Go.Proofs.Try.ntmps88 S88 rfl (fun k x => vernierref01_Text.f k x.1 x.2) vernierref01_Text.G (fun k => trivial) 4000 vernierref01_Text.cuts ⟨⟨fun _ => rfl, fun k x q h => (vernierref01_Text.w0 k x).trans h⟩, trivial⟩ (fun k x r h => (vernierref01_Text.w k x).trans h) k
noncomputable def E89 : En := ⟨Go.Proofs.Try.prog, 62, Go.Proofs.Try.f89.ntmps⟩
noncomputable def S89 : Sig := ⟨[.s], [.str], false, [.s], [(.int .u64)], false⟩
noncomputable def B89 : Go.Code := Go.Proofs.Try.f89.body.get!
def vernierref01_Number.l0 : Nat → ByteArray → Int → Int → Option (Int)
 | 0, _, _, _ => none
 | k + 1, x0, x3, x4 => if x4 < (nI x0.size) then (if 0 ≤ x4 then (vernierref01_Number.l0 k x0 (IntKind.u64.wrap ((IntKind.u64.wrap (2 * x3)) + (((bt x0 x4) - 48) % 256))) (wrap64 (x4 + 1))) else (none)) else (some x3)
def vernierref01_Number.f (k : Nat) (a0 : ByteArray) : Option (Int) := vernierref01_Number.l0 k a0 0 0
--@ok
def vernierref01_Number.l0R (k : Nat) (x0 : ByteArray) (x3 : Int) (x4 : Int) : Option (Int) := if x4 < (nI x0.size) then (if 0 ≤ x4 then (if x4 < (nI x0.size) then (vernierref01_Number.l0 k x0 (IntKind.u64.wrap ((IntKind.u64.wrap (2 * x3)) + (((bt x0 x4) - 48) % 256))) (wrap64 (x4 + 1))) else (none)) else (none)) else (some x3)
theorem vernierref01_Number.l0E (k : Nat) (x0 : ByteArray) (x3 : Int) (x4 : Int) : vernierref01_Number.l0R k x0 x3 x4 = vernierref01_Number.l0 (k + 1) x0 x3 x4 := by
  unfold vernierref01_Number.l0R
  rw [vernierref01_Number.l0]
  exact iteC (fun h0 => iteC (fun h1 => (if_pos h0).trans (rfl)) (fun h1 => rfl)) (fun h0 => rfl)
noncomputable def vernierref01_Number.c (k : Nat) : Con := S89.con fun x => vernierref01_Number.f k x
noncomputable def vernierref01_Number.G (k : Nat) : List (Go.FuncId × Con) := []
noncomputable def vernierref01_Number.cuts : List (Cut (TT S89.sb)) := [⟨[6, 4, 1, 0, 1, 1], [.sc 0 (.str), .sc 3 (.int .u64), .sc 4 (.int .i64)], fun k x => vernierref01_Number.l0 k x.1 x.2.1 x.2.2⟩]
theorem vernierref01_Number.w0 (k : Nat) (x : ET [.sc 0 (.str), .sc 3 (.int .u64), .sc 4 (.int .i64)]) : walk E89 (vernierref01_Number.G k) (cutsAt k vernierref01_Number.cuts) (retE E89 Go.Proofs.Try.f89.results.toList S89) 4000 true (stackAt B89 [6, 4, 1, 0, 1, 1]) (mkE [.sc 0 (.str), .sc 3 (.int .u64), .sc 4 (.int .i64)] x St.nil) = vernierref01_Number.l0 (k + 1) x.1 x.2.1 x.2.2 := Eq.trans (b := vernierref01_Number.l0R k x.1 x.2.1 x.2.2) (by kernel_rfl) (vernierref01_Number.l0E k x.1 x.2.1 x.2.2)
theorem vernierref01_Number.w (k : Nat) (x : TT S89.sa) : walk E89 (vernierref01_Number.G k) (cutsAt k vernierref01_Number.cuts) (retE E89 Go.Proofs.Try.f89.results.toList S89) 4000 true [([], .code B89)] (St0 S89 x) = vernierref01_Number.f k x := by kernel_rfl
theorem vernierref01_Number.ok (k : Nat) : FnOk Go.Proofs.Try.prog E89.eT 89 (vernierref01_Number.c k) := FnOk.walk (E := E89) (body := B89) Go.Proofs.Try.func89 rfl (by rfl) Go.Proofs.Try.ntmps89 S89 rfl (fun k x => vernierref01_Number.f k x) vernierref01_Number.G (fun k => trivial) 4000 vernierref01_Number.cuts ⟨⟨fun _ => rfl, fun k x q h => (vernierref01_Number.w0 k x).trans h⟩, trivial⟩ (fun k x r h => (vernierref01_Number.w k x).trans h) k
noncomputable def E80 : En := ⟨Go.Proofs.Try.prog, 62, Go.Proofs.Try.f80.ntmps⟩
noncomputable def S80 : Sig := ⟨[.s, .s], [(.int .i64), (.int .u64)], true, [.s, .s], [(.int .u64), (.int .i64)], false⟩
noncomputable def B80 : Go.Code := Go.Proofs.Try.f80.body.get!
def vernierref05_Fold.f (k : Nat) (a0 : Int) (a1 : Int) : Option (Int × Int) := (vernierref05_Is.f a0).bind fun t100 => (if t100 = true then ((vernierref01_Text.f k a1 a0).bind fun t101 => ((vernierref01_Number.f k t101).bind fun t102 => (some (t102, 0)))) else (some (0, 2)))
--@ok
noncomputable def vernierref05_Fold.c (k : Nat) : Con := S80.con fun x => vernierref05_Fold.f k x.1 x.2
noncomputable def vernierref05_Fold.G (k : Nat) : List (Go.FuncId × Con) := [(32, vernierref05_Is.c), (88, vernierref01_Text.c k), (89, vernierref01_Number.c k)]
noncomputable def vernierref05_Fold.cuts : List (Cut (TT S80.sb)) := []
theorem vernierref05_Fold.w (k : Nat) (x : TT S80.sa) : walk E80 (vernierref05_Fold.G k) (cutsAt k vernierref05_Fold.cuts) (retE E80 Go.Proofs.Try.f80.results.toList S80) 4000 true [([], .code B80)] (St0 S80 x) = vernierref05_Fold.f k x.1 x.2 := by kernel_rfl
theorem vernierref05_Fold.ok (k : Nat) : FnOk Go.Proofs.Try.prog E80.eT 80 (vernierref05_Fold.c k) := FnOk.walk (E := E80) (body := B80) Go.Proofs.Try.func80 rfl (by rfl) Go.Proofs.Try.ntmps80 S80 rfl (fun k x => vernierref05_Fold.f k x.1 x.2) vernierref05_Fold.G (fun k => ⟨vernierref05_Is.ok, vernierref01_Text.ok k, vernierref01_Number.ok k, trivial⟩) 4000 vernierref05_Fold.cuts trivial (fun k x r h => (vernierref05_Fold.w k x).trans h) k
noncomputable def E36 : En := ⟨Go.Proofs.Try.prog, 62, Go.Proofs.Try.f36.ntmps⟩
noncomputable def S36 : Sig := ⟨[.s, .s], [(.int .i64), (.int .u64)], false, [.s], [(.int .u64)], false⟩
noncomputable def B36 : Go.Code := Go.Proofs.Try.f36.body.get!
def vernierref06_Fold.f (k : Nat) (a0 : Int) (a1 : Int) : Option (Int) := (vernierref05_Fold.f k a0 a1).bind fun t100 => (some t100.1)
--@ok
noncomputable def vernierref06_Fold.c (k : Nat) : Con := S36.con fun x => vernierref06_Fold.f k x.1 x.2
noncomputable def vernierref06_Fold.G (k : Nat) : List (Go.FuncId × Con) := [(80, vernierref05_Fold.c k)]
noncomputable def vernierref06_Fold.cuts : List (Cut (TT S36.sb)) := []
theorem vernierref06_Fold.w (k : Nat) (x : TT S36.sa) : walk E36 (vernierref06_Fold.G k) (cutsAt k vernierref06_Fold.cuts) (retE E36 Go.Proofs.Try.f36.results.toList S36) 4000 true [([], .code B36)] (St0 S36 x) = vernierref06_Fold.f k x.1 x.2 := by kernel_rfl
theorem vernierref06_Fold.ok (k : Nat) : FnOk Go.Proofs.Try.prog E36.eT 36 (vernierref06_Fold.c k) := FnOk.walk (E := E36) (body := B36) Go.Proofs.Try.func36 rfl (by rfl) Go.Proofs.Try.ntmps36 S36 rfl (fun k x => vernierref06_Fold.f k x.1 x.2) vernierref06_Fold.G (fun k => ⟨vernierref05_Fold.ok k, trivial⟩) 4000 vernierref06_Fold.cuts trivial (fun k x r h => (vernierref06_Fold.w k x).trans h) k
end Go.Proofs.Ythofoolgbngobaa.Fn
set_option maxRecDepth 100000
set_option linter.unusedVariables false
noncomputable section
namespace Go.Proofs.Ythofoolgbngobaa.Fn
open Go Go.RowKit Go.Proofs.Ythofoolgbngobaa.Ab
noncomputable def E38 : En := ⟨Go.Proofs.Try.prog, 62, Go.Proofs.Try.f38.ntmps⟩
noncomputable def S38 : Sig := ⟨[.s, .s], [(.int .i64), (.int .i64)], false, [.s], [(.int .i64)], false⟩
noncomputable def B38 : Go.Code := Go.Proofs.Try.f38.body.get!
def verniertop_pick.f (a0 : Int) (a1 : Int) : Option (Int) := if a0 < 0 then (if a1 = 0 then (none) else (some (Int.tmod (wrap64 (-(wrap64 (a0 + 1)))) a1))) else (if a1 = 0 then (none) else (some (Int.tmod a0 a1)))
--@ok
noncomputable def verniertop_pick.c : Con := S38.con fun x => verniertop_pick.f x.1 x.2
noncomputable def verniertop_pick.G (k : Nat) : List (Go.FuncId × Con) := []
noncomputable def verniertop_pick.cuts : List (Cut (TT S38.sb)) := []
theorem verniertop_pick.w (k : Nat) (x : TT S38.sa) : walk E38 (verniertop_pick.G k) (cutsAt k verniertop_pick.cuts) (retE E38 Go.Proofs.Try.f38.results.toList S38) 4000 true [([], .code B38)] (St0 S38 x) = verniertop_pick.f x.1 x.2 := by kernel_rfl
theorem verniertop_pick.ok : FnOk Go.Proofs.Try.prog E38.eT 38 (verniertop_pick.c) := FnOk.walk (E := E38) (body := B38) Go.Proofs.Try.func38 rfl (by rfl) Go.Proofs.Try.ntmps38 S38 rfl (fun k x => verniertop_pick.f x.1 x.2) verniertop_pick.G (fun k => trivial) 4000 verniertop_pick.cuts trivial (fun k x r h => (verniertop_pick.w k x).trans h) 0
noncomputable def E156 : En := ⟨Go.Proofs.Try.prog, 62, Go.Proofs.Try.f156.ntmps⟩
noncomputable def S156 : Sig := ⟨[.g 2, .g 2], [(.int .u64), (.int .u64), (.int .u64), (.int .u64)], false, [.s], [(.int .i64)], false⟩
noncomputable def B156 : Go.Code := Go.Proofs.Try.f156.body.get!
def twin_Cmp.f (a0_0 : Int) (a0_1 : Int) (a1_0 : Int) (a1_1 : Int) : Option (Int) := if ((a0_0 == a1_0) && (a0_1 == a1_1)) = true then (some 0) else (if a0_0 < a1_0 then (some (-1)) else (if a0_0 = a1_0 then (if a0_1 < a1_1 then (some (-1)) else (some 1)) else (some 1)))
--@ok
noncomputable def twin_Cmp.c : Con := S156.con fun x => twin_Cmp.f x.1 x.2.1 x.2.2.1 x.2.2.2
noncomputable def twin_Cmp.G (k : Nat) : List (Go.FuncId × Con) := []
noncomputable def twin_Cmp.cuts : List (Cut (TT S156.sb)) := []
theorem twin_Cmp.w (k : Nat) (x : TT S156.sa) : walk E156 (twin_Cmp.G k) (cutsAt k twin_Cmp.cuts) (retE E156 Go.Proofs.Try.f156.results.toList S156) 4000 true [([], .code B156)] (St0 S156 x) = twin_Cmp.f x.1 x.2.1 x.2.2.1 x.2.2.2 := by kernel_rfl
theorem twin_Cmp.ok : FnOk Go.Proofs.Try.prog E156.eT 156 (twin_Cmp.c) := FnOk.walk (E := E156) (body := B156) Go.Proofs.Try.func156 rfl (by rfl) Go.Proofs.Try.ntmps156 S156 rfl (fun k x => twin_Cmp.f x.1 x.2.1 x.2.2.1 x.2.2.2) twin_Cmp.G (fun k => trivial) 4000 twin_Cmp.cuts trivial (fun k x r h => (twin_Cmp.w k x).trans h) 0
noncomputable def E157 : En := ⟨Go.Proofs.Try.prog, 62, Go.Proofs.Try.f157.ntmps⟩
noncomputable def S157 : Sig := ⟨[.g 2, .g 2], [(.int .u64), (.int .u64), (.int .u64), (.int .u64)], true, [.g 2, .s], [(.int .u64), (.int .u64), .bool], false⟩
noncomputable def B157 : Go.Code := Go.Proofs.Try.f157.body.get!
def twin_Sub.f (a0_0 : Int) (a0_1 : Int) (a1_0 : Int) (a1_1 : Int) : Option (Int × Int × Bool) := (bits_Sub64.f a0_1 a1_1 0).bind fun t100 => ((bits_Sub64.f a0_0 a1_0 t100.2).bind fun t101 => (some (t101.1, t100.1, t101.2 == 1)))
--@ok
noncomputable def twin_Sub.c : Con := S157.con fun x => twin_Sub.f x.1 x.2.1 x.2.2.1 x.2.2.2
noncomputable def twin_Sub.G (k : Nat) : List (Go.FuncId × Con) := [(142, bits_Sub64.c)]
noncomputable def twin_Sub.cuts : List (Cut (TT S157.sb)) := []
theorem twin_Sub.w (k : Nat) (x : TT S157.sa) : walk E157 (twin_Sub.G k) (cutsAt k twin_Sub.cuts) (retE E157 Go.Proofs.Try.f157.results.toList S157) 4000 true [([], .code B157)] (St0 S157 x) = twin_Sub.f x.1 x.2.1 x.2.2.1 x.2.2.2 := by kernel_rfl
theorem twin_Sub.ok : FnOk Go.Proofs.Try.prog E157.eT 157 (twin_Sub.c) := FnOk.walk (E := E157) (body := B157) Go.Proofs.Try.func157 rfl (by rfl) Go.Proofs.Try.ntmps157 S157 rfl (fun k x => twin_Sub.f x.1 x.2.1 x.2.2.1 x.2.2.2) twin_Sub.G (fun k => ⟨bits_Sub64.ok, trivial⟩) 4000 twin_Sub.cuts trivial (fun k x r h => (twin_Sub.w k x).trans h) 0
noncomputable def E146 : En := ⟨Go.Proofs.Try.prog, 62, Go.Proofs.Try.f146.ntmps⟩
noncomputable def S146 : Sig := ⟨[.g 2], [(.int .u64), (.int .u64)], true, [.s, .g 2], [(.int .u64), (.int .u64), (.int .u64)], false⟩
noncomputable def B146 : Go.Code := Go.Proofs.Try.f146.body.get!
def part_Root.l0 : Nat → Int → Int → Int → Int → Option (Int × Int × Int)
 | 0, _, _, _, _ => none
 | k + 1, x4, x5, x1000, x1001 => if x5 ≥ 0 then (if 0 ≤ x5 then ((twin_Mul.f (Go.bits .or .u64 x4 (shl .u64 1 x5)) (Go.bits .or .u64 x4 (shl .u64 1 x5))).bind fun t100 => ((twin_Cmp.f t100.1 t100.2 x1000 x1001).bind fun t101 => (if t101 ≤ 0 then (part_Root.l0 k (Go.bits .or .u64 x4 (shl .u64 1 x5)) (wrap64 (x5 - 1)) x1000 x1001) else (part_Root.l0 k x4 (wrap64 (x5 - 1)) x1000 x1001)))) else (none)) else ((twin_Mul.f x4 x4).bind fun t102 => ((twin_Sub.f x1000 x1001 t102.1 t102.2).bind fun t103 => (some (x4, t103.1, t103.2.1))))
def part_Root.f (k : Nat) (a0_0 : Int) (a0_1 : Int) : Option (Int × Int × Int) := part_Root.l0 k 0 63 a0_0 a0_1
--@ok
noncomputable def part_Root.c (k : Nat) : Con := S146.con fun x => part_Root.f k x.1 x.2
noncomputable def part_Root.G (k : Nat) : List (Go.FuncId × Con) := [(126, twin_Mul.c), (156, twin_Cmp.c), (157, twin_Sub.c)]
noncomputable def part_Root.cuts : List (Cut (TT S146.sb)) := [⟨[6, 4, 1, 0, 1, 1], [.sc 4 (.int .u64), .sc 5 (.int .i64), .box 1 165 [.int .u64, .int .u64], .box 3 165 [.int .u64, .int .u64]], fun k x => part_Root.l0 k x.1 x.2.1 x.2.2.1.1 x.2.2.1.2⟩]
theorem part_Root.w0 (k : Nat) (x : ET [.sc 4 (.int .u64), .sc 5 (.int .i64), .box 1 165 [.int .u64, .int .u64], .box 3 165 [.int .u64, .int .u64]]) : walk E146 (part_Root.G k) (cutsAt k part_Root.cuts) (retE E146 Go.Proofs.Try.f146.results.toList S146) 4000 true (stackAt B146 [6, 4, 1, 0, 1, 1]) (mkE [.sc 4 (.int .u64), .sc 5 (.int .i64), .box 1 165 [.int .u64, .int .u64], .box 3 165 [.int .u64, .int .u64]] x St.nil) = part_Root.l0 (k + 1) x.1 x.2.1 x.2.2.1.1 x.2.2.1.2 := by kernel_rfl
theorem part_Root.w (k : Nat) (x : TT S146.sa) : walk E146 (part_Root.G k) (cutsAt k part_Root.cuts) (retE E146 Go.Proofs.Try.f146.results.toList S146) 4000 true [([], .code B146)] (St0 S146 x) = part_Root.f k x.1 x.2 := by kernel_rfl
theorem part_Root.ok (k : Nat) : FnOk Go.Proofs.Try.prog E146.eT 146 (part_Root.c k) := FnOk.walk (E := E146) (body := B146) Go.Proofs.Try.func146 rfl (by rfl) Go.Proofs.Try.ntmps146 S146 rfl (fun k x => part_Root.f k x.1 x.2) part_Root.G (fun k => ⟨twin_Mul.ok, twin_Cmp.ok, twin_Sub.ok, trivial⟩) 4000 part_Root.cuts ⟨⟨fun _ => rfl, fun k x q h => (part_Root.w0 k x).trans h⟩, trivial⟩ (fun k x r h => (part_Root.w k x).trans h) k
noncomputable def E114 : En := ⟨Go.Proofs.Try.prog, 62, Go.Proofs.Try.f114.ntmps⟩
noncomputable def S114 : Sig := ⟨[.g 6], [(.int .i64), .bool, (.int .i64), (.int .u64), (.int .u64), .bool], true, [.g 6, .s], [(.int .i64), .bool, (.int .i64), (.int .u64), (.int .u64), .bool, .err], false⟩
noncomputable def B114 : Go.Code := Go.Proofs.Try.f114.body.get!
def root_Exact.j0 : Nat → Int → Int → Int → Bool → Option (Int × Bool × Int × Int × Int × Bool × Option Int)
 | 0, _, _, _, _ => none
 | k + 1, x1002, x1003, x1004, x1005 => if (Go.bits .and .i64 x1002 1) = 0 then ((twin_Shr.f x1003 x1004 1).bind fun t101 => (if x1005 = true then ((part_Root.f k t101.1 t101.2.1).bind fun t102 => (some (1, false, x1002 / 2, t102.1, 0, true, none))) else ((part_Root.f k t101.1 t101.2.1).bind fun t103 => (if t101.2.2.1 = true then (some (1, false, x1002 / 2, t103.1, 0, true, none)) else (some (1, false, x1002 / 2, t103.1, 0, !((t103.2.1 == 0) && (t103.2.2 == 0)), none)))))) else ((part_Root.f k x1003 x1004).bind fun t104 => (if x1005 = true then (some (1, false, x1002 / 2, t104.1, 0, true, none)) else (some (1, false, x1002 / 2, t104.1, 0, !((t104.2.1 == 0) && (t104.2.2 == 0)), none))))
def root_Exact.f (k : Nat) (a0_0 : Int) (a0_1 : Bool) (a0_2 : Int) (a0_3 : Int) (a0_4 : Int) (a0_5 : Bool) : Option (Int × Bool × Int × Int × Int × Bool × Option Int) := (round_Round.f k 8 a0_0 a0_1 a0_2 a0_3 a0_4 a0_5).bind fun t100 => (if t100.2.isNone = true then (if a0_0 = 0 then (some (a0_0, a0_1, a0_2, a0_3, a0_4, a0_5, none)) else (if a0_0 = 2 then (some (2, false, 0, 0, 0, false, none)) else (if a0_1 = true then (some (2, false, 0, 0, 0, false, none)) else (root_Exact.j0 k a0_2 a0_3 a0_4 a0_5)))) else (some (0, false, 0, 0, 0, false, some (t100.2.getD 0))))
--@ok
def root_Exact.fR (k : Nat) (a0_0 : Int) (a0_1 : Bool) (a0_2 : Int) (a0_3 : Int) (a0_4 : Int) (a0_5 : Bool) : Option (Int × Bool × Int × Int × Int × Bool × Option Int) := (round_Round.f k 8 a0_0 a0_1 a0_2 a0_3 a0_4 a0_5).bind fun t100 => (if t100.2.isNone = true then (if a0_0 = 0 then (some (a0_0, a0_1, a0_2, a0_3, a0_4, a0_5, none)) else (if a0_0 = 2 then (if a0_0 = 2 then (some (2, false, 0, 0, 0, false, none)) else (root_Exact.j0 k a0_2 a0_3 a0_4 a0_5)) else (if a0_1 = true then (some (2, false, 0, 0, 0, false, none)) else (root_Exact.j0 k a0_2 a0_3 a0_4 a0_5)))) else (some (0, false, 0, 0, 0, false, some (t100.2.getD 0))))
theorem root_Exact.fE (k : Nat) (a0_0 : Int) (a0_1 : Bool) (a0_2 : Int) (a0_3 : Int) (a0_4 : Int) (a0_5 : Bool) : root_Exact.fR k a0_0 a0_1 a0_2 a0_3 a0_4 a0_5 = root_Exact.f k a0_0 a0_1 a0_2 a0_3 a0_4 a0_5 := by
  unfold root_Exact.fR root_Exact.f
  exact bindC fun _ => iteC (fun h0 => iteC (fun h1 => rfl) (fun h1 => iteC (fun h2 => (if_pos h2).trans (rfl)) (fun h2 => iteC (fun h3 => rfl) (fun h3 => rfl)))) (fun h0 => rfl)
noncomputable def root_Exact.c (k : Nat) : Con := S114.con fun x => root_Exact.f k x.1 x.2.1 x.2.2.1 x.2.2.2.1 x.2.2.2.2.1 x.2.2.2.2.2
noncomputable def root_Exact.G (k : Nat) : List (Go.FuncId × Con) := [(73, round_Round.c k), (145, twin_Shr.c), (146, part_Root.c k)]
noncomputable def root_Exact.cuts : List (Cut (TT S114.sb)) := [⟨[1, 1, 1], [.box 1 105 [.int .i64, .bool, .int .i64, .int .u64, .int .u64, .bool], .box 2 105 [.int .i64, .bool, .int .i64, .int .u64, .int .u64, .bool]], fun k x => root_Exact.j0 k x.1.2.2.1 x.1.2.2.2.1 x.1.2.2.2.2.1 x.1.2.2.2.2.2⟩]
theorem root_Exact.w0 (k : Nat) (x : ET [.box 1 105 [.int .i64, .bool, .int .i64, .int .u64, .int .u64, .bool], .box 2 105 [.int .i64, .bool, .int .i64, .int .u64, .int .u64, .bool]]) : walk E114 (root_Exact.G k) (cutsAt k root_Exact.cuts) (retE E114 Go.Proofs.Try.f114.results.toList S114) 4000 true (stackAt B114 [1, 1, 1]) (mkE [.box 1 105 [.int .i64, .bool, .int .i64, .int .u64, .int .u64, .bool], .box 2 105 [.int .i64, .bool, .int .i64, .int .u64, .int .u64, .bool]] x St.nil) = root_Exact.j0 (k + 1) x.1.2.2.1 x.1.2.2.2.1 x.1.2.2.2.2.1 x.1.2.2.2.2.2 := by kernel_rfl
theorem root_Exact.w (k : Nat) (x : TT S114.sa) : walk E114 (root_Exact.G k) (cutsAt k root_Exact.cuts) (retE E114 Go.Proofs.Try.f114.results.toList S114) 4000 true [([], .code B114)] (St0 S114 x) = root_Exact.f k x.1 x.2.1 x.2.2.1 x.2.2.2.1 x.2.2.2.2.1 x.2.2.2.2.2 := Eq.trans (b := root_Exact.fR k x.1 x.2.1 x.2.2.1 x.2.2.2.1 x.2.2.2.2.1 x.2.2.2.2.2) (by kernel_rfl) (root_Exact.fE k x.1 x.2.1 x.2.2.1 x.2.2.2.1 x.2.2.2.2.1 x.2.2.2.2.2)
theorem root_Exact.ok (k : Nat) : FnOk Go.Proofs.Try.prog E114.eT 114 (root_Exact.c k) := FnOk.walk (E := E114) (body := B114) Go.Proofs.Try.func114 rfl (by rfl) Go.Proofs.Try.ntmps114 S114 rfl (fun k x => root_Exact.f k x.1 x.2.1 x.2.2.1 x.2.2.2.1 x.2.2.2.2.1 x.2.2.2.2.2) root_Exact.G (fun k => ⟨round_Round.ok k, twin_Shr.ok, part_Root.ok k, trivial⟩) 4000 root_Exact.cuts ⟨⟨fun _ => rfl, fun k x q h => (root_Exact.w0 k x).trans h⟩, trivial⟩ (fun k x r h => (root_Exact.w k x).trans h) k
noncomputable def E82 : En := ⟨Go.Proofs.Try.prog, 62, Go.Proofs.Try.f82.ntmps⟩
noncomputable def S82 : Sig := ⟨[.s, .s], [(.int .i64), (.int .u64)], true, [.s, .s], [(.int .u64), .err], false⟩
noncomputable def B82 : Go.Code := Go.Proofs.Try.f82.body.get!
def root_Sqrt.f (k : Nat) (a0 : Int) (a1 : Int) : Option (Int × Option Int) := (codec_Decode.f k a0 a1).bind fun t100 => (if t100.2.2.2.2.isNone = true then ((round_Of.f k t100.1 t100.2.1 t100.2.2.1 t100.2.2.2.1).bind fun t101 => ((root_Exact.f k t101.1 t101.2.1 t101.2.2.1 t101.2.2.2.1 t101.2.2.2.2.1 t101.2.2.2.2.2.1).bind fun t102 => (if t102.2.2.2.2.2.2.isNone = true then ((round_Round.f k a0 t102.1 t102.2.1 t102.2.2.1 t102.2.2.2.1 t102.2.2.2.2.1 t102.2.2.2.2.2.1).bind fun t103 => (some (t103.1, t103.2))) else (some (0, some (t102.2.2.2.2.2.2.getD 0)))))) else (some (0, some (t100.2.2.2.2.getD 0))))
--@ok
noncomputable def root_Sqrt.c (k : Nat) : Con := S82.con fun x => root_Sqrt.f k x.1 x.2
noncomputable def root_Sqrt.G (k : Nat) : List (Go.FuncId × Con) := [(71, codec_Decode.c k), (73, round_Round.c k), (77, round_Of.c k), (114, root_Exact.c k)]
noncomputable def root_Sqrt.cuts : List (Cut (TT S82.sb)) := []
theorem root_Sqrt.w (k : Nat) (x : TT S82.sa) : walk E82 (root_Sqrt.G k) (cutsAt k root_Sqrt.cuts) (retE E82 Go.Proofs.Try.f82.results.toList S82) 4000 true [([], .code B82)] (St0 S82 x) = root_Sqrt.f k x.1 x.2 := by kernel_rfl
theorem root_Sqrt.ok (k : Nat) : FnOk Go.Proofs.Try.prog E82.eT 82 (root_Sqrt.c k) := FnOk.walk (E := E82) (body := B82) Go.Proofs.Try.func82 rfl (by rfl) Go.Proofs.Try.ntmps82 S82 rfl (fun k x => root_Sqrt.f k x.1 x.2) root_Sqrt.G (fun k => ⟨codec_Decode.ok k, round_Round.ok k, round_Of.ok k, root_Exact.ok k, trivial⟩) 4000 root_Sqrt.cuts trivial (fun k x r h => (root_Sqrt.w k x).trans h) k
noncomputable def E39 : En := ⟨Go.Proofs.Try.prog, 62, Go.Proofs.Try.f39.ntmps⟩
noncomputable def S39 : Sig := ⟨[.s, .s, .s, .s, .s], [(.int .i64), (.int .i64), (.int .u64), (.int .u64), (.int .u64)], true, [.s, .s], [(.int .u64), .err], false⟩
noncomputable def B39 : Go.Code := Go.Proofs.Try.f39.body.get!
def verniertop_done.f (k : Nat) (a0 : Int) (a1 : Int) (a2 : Int) (a3 : Int) (a4 : Int) : Option (Int × Option Int) := if a1 = 0 then ((sum_Add.f k a0 a2 a3).bind fun t100 => (some (t100.1, t100.2))) else (if a1 = 1 then ((sum_Sub.f k a0 a2 a3).bind fun t101 => (some (t101.1, t101.2))) else (if a1 = 2 then ((prod_Mul.f k a0 a2 a3).bind fun t102 => (some (t102.1, t102.2))) else (if a1 = 3 then ((quot_Div.f k a0 a2 a3).bind fun t103 => (some (t103.1, t103.2))) else (if a1 = 4 then ((root_Sqrt.f k a0 a2).bind fun t104 => (some (t104.1, t104.2))) else ((fuse_Fma.f k a0 a2 a3 a4).bind fun t105 => (some (t105.1, t105.2)))))))
--@ok
noncomputable def verniertop_done.c (k : Nat) : Con := S39.con fun x => verniertop_done.f k x.1 x.2.1 x.2.2.1 x.2.2.2.1 x.2.2.2.2
noncomputable def verniertop_done.G (k : Nat) : List (Go.FuncId × Con) := [(29, sum_Add.c k), (31, fuse_Fma.c k), (33, quot_Div.c k), (34, sum_Sub.c k), (48, prod_Mul.c k), (82, root_Sqrt.c k)]
noncomputable def verniertop_done.cuts : List (Cut (TT S39.sb)) := []
theorem verniertop_done.w (k : Nat) (x : TT S39.sa) : walk E39 (verniertop_done.G k) (cutsAt k verniertop_done.cuts) (retE E39 Go.Proofs.Try.f39.results.toList S39) 4000 true [([], .code B39)] (St0 S39 x) = verniertop_done.f k x.1 x.2.1 x.2.2.1 x.2.2.2.1 x.2.2.2.2 := by kernel_rfl
theorem verniertop_done.ok (k : Nat) : FnOk Go.Proofs.Try.prog E39.eT 39 (verniertop_done.c k) := FnOk.walk (E := E39) (body := B39) Go.Proofs.Try.func39 rfl (by rfl) Go.Proofs.Try.ntmps39 S39 rfl (fun k x => verniertop_done.f k x.1 x.2.1 x.2.2.1 x.2.2.2.1 x.2.2.2.2) verniertop_done.G (fun k => ⟨sum_Add.ok k, fuse_Fma.ok k, quot_Div.ok k, sum_Sub.ok k, prod_Mul.ok k, root_Sqrt.ok k, trivial⟩) 4000 verniertop_done.cuts trivial (fun k x r h => (verniertop_done.w k x).trans h) k
end Go.Proofs.Ythofoolgbngobaa.Fn
set_option maxRecDepth 100000
set_option linter.unusedVariables false
noncomputable section
namespace Go.Proofs.Ythofoolgbngobaa.Fn
open Go Go.RowKit Go.Proofs.Ythofoolgbngobaa.Ab
noncomputable def E115 : En := ⟨Go.Proofs.Try.prog, 62, Go.Proofs.Try.f115.ntmps⟩
noncomputable def S115 : Sig := ⟨[.s, .s], [(.int .i64), (.int .u64)], true, [.s, .s], [(.int .i64), (.int .i64)], false⟩
noncomputable def B115 : Go.Code := Go.Proofs.Try.f115.body.get!
def vernierref05_Kind.f (k : Nat) (a0 : Int) (a1 : Int) : Option (Int × Int) := (vernierref05_Fold.f k a0 a1).bind fun t100 => (if t100.2 = 0 then (if t100.1 = 0 then (some (0, 0)) else ((vernierref05_Power.f k (wrap64 (a0 - 1))).bind fun t101 => (if t100.1 = t101 then (some (2, 0)) else (some (1, 0))))) else (some (0, t100.2)))
--@ok
noncomputable def vernierref05_Kind.c (k : Nat) : Con := S115.con fun x => vernierref05_Kind.f k x.1 x.2
noncomputable def vernierref05_Kind.G (k : Nat) : List (Go.FuncId × Con) := [(35, vernierref05_Power.c k), (80, vernierref05_Fold.c k)]
noncomputable def vernierref05_Kind.cuts : List (Cut (TT S115.sb)) := []
theorem vernierref05_Kind.w (k : Nat) (x : TT S115.sa) : walk E115 (vernierref05_Kind.G k) (cutsAt k vernierref05_Kind.cuts) (retE E115 Go.Proofs.Try.f115.results.toList S115) 4000 true [([], .code B115)] (St0 S115 x) = vernierref05_Kind.f k x.1 x.2 := by kernel_rfl
theorem vernierref05_Kind.ok (k : Nat) : FnOk Go.Proofs.Try.prog E115.eT 115 (vernierref05_Kind.c k) := FnOk.walk (E := E115) (body := B115) Go.Proofs.Try.func115 rfl (by rfl) Go.Proofs.Try.ntmps115 S115 rfl (fun k x => vernierref05_Kind.f k x.1 x.2) vernierref05_Kind.G (fun k => ⟨vernierref05_Power.ok k, vernierref05_Fold.ok k, trivial⟩) 4000 vernierref05_Kind.cuts trivial (fun k x r h => (vernierref05_Kind.w k x).trans h) k
noncomputable def E147 : En := ⟨Go.Proofs.Try.prog, 62, Go.Proofs.Try.f147.ntmps⟩
noncomputable def S147 : Sig := ⟨[.s, .s], [(.int .i64), (.int .u64)], false, [.s], [.str], false⟩
noncomputable def B147 : Go.Code := Go.Proofs.Try.f147.body.get!
def vernierref06_String.f (k : Nat) (a0 : Int) (a1 : Int) : Option (ByteArray) := (vernierref01_Text.f k a1 a0).bind fun t100 => (if 0 < (nI t100.size) then (if (bt t100 0) = 49 then ((vernierref01_Text.f k (IntKind.u64.wrap (-a1)) a0).bind fun t101 => (if 1 ≤ (nI t101.size) then (some (t101.extract 1 t101.size)) else (none))) else (if 1 ≤ (nI t100.size) then (some (t100.extract 1 t100.size)) else (none))) else (none))
--@ok
noncomputable def vernierref06_String.c (k : Nat) : Con := S147.con fun x => vernierref06_String.f k x.1 x.2
noncomputable def vernierref06_String.G (k : Nat) : List (Go.FuncId × Con) := [(88, vernierref01_Text.c k)]
noncomputable def vernierref06_String.cuts : List (Cut (TT S147.sb)) := []
theorem vernierref06_String.w (k : Nat) (x : TT S147.sa) : walk E147 (vernierref06_String.G k) (cutsAt k vernierref06_String.cuts) (retE E147 Go.Proofs.Try.f147.results.toList S147) 4000 true [([], .code B147)] (St0 S147 x) = vernierref06_String.f k x.1 x.2 := by kernel_rfl
theorem vernierref06_String.ok (k : Nat) : FnOk Go.Proofs.Try.prog E147.eT 147 (vernierref06_String.c k) := FnOk.walk (E := E147) (body := B147) Go.Proofs.Try.func147 rfl (by rfl) Go.Proofs.Try.ntmps147 S147 rfl (fun k x => vernierref06_String.f k x.1 x.2) vernierref06_String.G (fun k => ⟨vernierref01_Text.ok k, trivial⟩) 4000 vernierref06_String.cuts trivial (fun k x r h => (vernierref06_String.w k x).trans h) k
noncomputable def E148 : En := ⟨Go.Proofs.Try.prog, 62, Go.Proofs.Try.f148.ntmps⟩
noncomputable def S148 : Sig := ⟨[.s], [.str], false, [.s], [(.int .i64)], false⟩
noncomputable def B148 : Go.Code := Go.Proofs.Try.f148.body.get!
def vernierref06_run.l0 : Nat → ByteArray → Int → Option (Int)
 | 0, _, _ => none
 | k + 1, x0, x3 => if x3 < (nI x0.size) then (if 0 ≤ x3 then (if 0 < (nI x0.size) then (if (bt x0 x3) = (bt x0 0) then (vernierref06_run.l0 k x0 (wrap64 (x3 + 1))) else (some x3)) else (none)) else (none)) else (some x3)
def vernierref06_run.f (k : Nat) (a0 : ByteArray) : Option (Int) := vernierref06_run.l0 k a0 0
--@ok
def vernierref06_run.l0R (k : Nat) (x0 : ByteArray) (x3 : Int) : Option (Int) := if x3 < (nI x0.size) then (if 0 ≤ x3 then (if x3 < (nI x0.size) then (if 0 < (nI x0.size) then (if (bt x0 x3) = (bt x0 0) then (vernierref06_run.l0 k x0 (wrap64 (x3 + 1))) else (some x3)) else (none)) else (none)) else (none)) else (some x3)
theorem vernierref06_run.l0E (k : Nat) (x0 : ByteArray) (x3 : Int) : vernierref06_run.l0R k x0 x3 = vernierref06_run.l0 (k + 1) x0 x3 := by
  unfold vernierref06_run.l0R
  rw [vernierref06_run.l0]
  exact iteC (fun h0 => iteC (fun h1 => (if_pos h0).trans (iteC (fun h2 => iteC (fun h3 => rfl) (fun h3 => rfl)) (fun h2 => rfl))) (fun h1 => rfl)) (fun h0 => rfl)
noncomputable def vernierref06_run.c (k : Nat) : Con := S148.con fun x => vernierref06_run.f k x
noncomputable def vernierref06_run.G (k : Nat) : List (Go.FuncId × Con) := []
noncomputable def vernierref06_run.cuts : List (Cut (TT S148.sb)) := [⟨[6, 4, 0, 1, 1], [.sc 0 (.str), .sc 3 (.int .i64)], fun k x => vernierref06_run.l0 k x.1 x.2⟩]
theorem vernierref06_run.w0 (k : Nat) (x : ET [.sc 0 (.str), .sc 3 (.int .i64)]) : walk E148 (vernierref06_run.G k) (cutsAt k vernierref06_run.cuts) (retE E148 Go.Proofs.Try.f148.results.toList S148) 4000 true (stackAt B148 [6, 4, 0, 1, 1]) (mkE [.sc 0 (.str), .sc 3 (.int .i64)] x St.nil) = vernierref06_run.l0 (k + 1) x.1 x.2 := Eq.trans (b := vernierref06_run.l0R k x.1 x.2) (by kernel_rfl) (vernierref06_run.l0E k x.1 x.2)
theorem vernierref06_run.w (k : Nat) (x : TT S148.sa) : walk E148 (vernierref06_run.G k) (cutsAt k vernierref06_run.cuts) (retE E148 Go.Proofs.Try.f148.results.toList S148) 4000 true [([], .code B148)] (St0 S148 x) = vernierref06_run.f k x := by kernel_rfl
theorem vernierref06_run.ok (k : Nat) : FnOk Go.Proofs.Try.prog E148.eT 148 (vernierref06_run.c k) := FnOk.walk (E := E148) (body := B148) Go.Proofs.Try.func148 rfl (by rfl) Go.Proofs.Try.ntmps148 S148 rfl (fun k x => vernierref06_run.f k x) vernierref06_run.G (fun k => trivial) 4000 vernierref06_run.cuts ⟨⟨fun _ => rfl, fun k x q h => (vernierref06_run.w0 k x).trans h⟩, trivial⟩ (fun k x r h => (vernierref06_run.w k x).trans h) k
noncomputable def E116 : En := ⟨Go.Proofs.Try.prog, 62, Go.Proofs.Try.f116.ntmps⟩
noncomputable def S116 : Sig := ⟨[.s, .s], [(.int .i64), (.int .u64)], true, [.g 8, .s], [.bool, .bool, (.int .i64), (.int .i64), (.int .i64), (.int .i64), (.int .i64), (.int .u64), (.int .i64)], false⟩
noncomputable def B116 : Go.Code := Go.Proofs.Try.f116.body.get!
mutual
def vernierref06_Split.j0 : Nat → Int → Int → Int → Bool → Option (Bool × Bool × Int × Int × Int × Int × Int × Int × Int)
 | 0, _, _, _, _ => none
 | k + 1, x0, x1, x7, x23 => if x23 = true then (some (false, false, 0, 0, 0, 0, 0, 0, x7)) else ((vernierref06_String.f k x0 x1).bind fun t101 => (if 0 < (nI t101.size) then ((vernierref01_Text.f k x1 x0).bind fun t102 => (if 0 < (nI t102.size) then ((vernierref06_run.f k t101).bind fun t103 => (if (bt t101 0) = 49 then (vernierref06_Split.j1 k t101 ((bt t102 0) == 49) ((bt t101 0) == 49) t103 (wrap64 (t103 - 1))) else (vernierref06_Split.j1 k t101 ((bt t102 0) == 49) ((bt t101 0) == 49) t103 (wrap64 (-t103))))) else (none))) else (none)))
def vernierref06_Split.j1 : Nat → ByteArray → Bool → Bool → Int → Int → Option (Bool × Bool × Int × Int × Int × Int × Int × Int × Int)
 | 0, _, _, _, _, _ => none
 | k + 1, x8, x9000, x9001, x9002, x9003 => if x9002 < (nI x8.size) then (if 0 ≤ (wrap64 (x9002 + 1)) then (if (wrap64 (x9002 + 1)) ≤ (nI x8.size) then (vernierref06_Split.j2 k (x8.extract (((wrap64 (x9002 + 1)) : Int).toNat) x8.size) x9000 x9001 x9002 x9003) else (none)) else (none)) else (vernierref06_Split.j2 k (⟨#[]⟩ : ByteArray) x9000 x9001 x9002 x9003)
def vernierref06_Split.j2 : Nat → ByteArray → Bool → Bool → Int → Int → Option (Bool × Bool × Int × Int × Int × Int × Int × Int × Int)
 | 0, _, _, _, _, _ => none
 | k + 1, x10, x9000, x9001, x9002, x9003 => if (nI x10.size) > 2 then (if 2 ≤ (nI x10.size) then (if (((x10.extract 0 2).size) + 2) ≤ 9223372036854775807 then (if 2 ≤ (nI (((x10.extract 0 2) ++ (⟨#[48, 48]⟩ : ByteArray)).size)) then ((vernierref01_Number.f k (((x10.extract 0 2) ++ (⟨#[48, 48]⟩ : ByteArray)).extract 0 2)).bind fun t104 => ((vernierref01_Number.f k (x10.extract 2 x10.size)).bind fun t105 => (some (x9000, x9001, x9002, x9003, 2, wrap64 t104, wrap64 ((nI x10.size) - 2), t105, 0)))) else (none)) else (none)) else (none)) else (if (nI x10.size) ≤ (nI x10.size) then (if (((x10.extract 0 (((nI x10.size) : Int).toNat)).size) + 2) ≤ 9223372036854775807 then (if 2 ≤ (nI (((x10.extract 0 (((nI x10.size) : Int).toNat)) ++ (⟨#[48, 48]⟩ : ByteArray)).size)) then ((vernierref01_Number.f k (((x10.extract 0 (((nI x10.size) : Int).toNat)) ++ (⟨#[48, 48]⟩ : ByteArray)).extract 0 2)).bind fun t106 => ((vernierref01_Number.f k (x10.extract (((nI x10.size) : Int).toNat) x10.size)).bind fun t107 => (some (x9000, x9001, x9002, x9003, nI x10.size, wrap64 t106, wrap64 ((nI x10.size) - (nI x10.size)), t107, 0)))) else (none)) else (none)) else (none))
end
def vernierref06_Split.f (k : Nat) (a0 : Int) (a1 : Int) : Option (Bool × Bool × Int × Int × Int × Int × Int × Int × Int) := (vernierref05_Kind.f k a0 a1).bind fun t100 => (if t100.2 = 0 then (vernierref06_Split.j0 k a0 a1 t100.2 (t100.1 != 1)) else (vernierref06_Split.j0 k a0 a1 t100.2 true))
--@ok
def vernierref06_Split.j2R (k : Nat) (x10 : ByteArray) (x9000 : Bool) (x9001 : Bool) (x9002 : Int) (x9003 : Int) : Option (Bool × Bool × Int × Int × Int × Int × Int × Int × Int) := if (nI x10.size) > 2 then (if 2 ≤ (nI x10.size) then (if (((x10.extract 0 2).size) + 2) ≤ 9223372036854775807 then (if 2 ≤ (nI (((x10.extract 0 2) ++ (⟨#[48, 48]⟩ : ByteArray)).size)) then ((vernierref01_Number.f k (((x10.extract 0 2) ++ (⟨#[48, 48]⟩ : ByteArray)).extract 0 2)).bind fun t104 => (if 2 ≤ (nI x10.size) then ((vernierref01_Number.f k (x10.extract 2 x10.size)).bind fun t105 => (some (x9000, x9001, x9002, x9003, 2, wrap64 t104, wrap64 ((nI x10.size) - 2), t105, 0))) else (none))) else (none)) else (none)) else (none)) else (if (nI x10.size) ≤ (nI x10.size) then (if (((x10.extract 0 (((nI x10.size) : Int).toNat)).size) + 2) ≤ 9223372036854775807 then (if 2 ≤ (nI (((x10.extract 0 (((nI x10.size) : Int).toNat)) ++ (⟨#[48, 48]⟩ : ByteArray)).size)) then ((vernierref01_Number.f k (((x10.extract 0 (((nI x10.size) : Int).toNat)) ++ (⟨#[48, 48]⟩ : ByteArray)).extract 0 2)).bind fun t106 => (if (nI x10.size) ≤ (nI x10.size) then ((vernierref01_Number.f k (x10.extract (((nI x10.size) : Int).toNat) x10.size)).bind fun t107 => (some (x9000, x9001, x9002, x9003, nI x10.size, wrap64 t106, wrap64 ((nI x10.size) - (nI x10.size)), t107, 0))) else (none))) else (none)) else (none)) else (none))
theorem vernierref06_Split.j2E (k : Nat) (x10 : ByteArray) (x9000 : Bool) (x9001 : Bool) (x9002 : Int) (x9003 : Int) : vernierref06_Split.j2R k x10 x9000 x9001 x9002 x9003 = vernierref06_Split.j2 (k + 1) x10 x9000 x9001 x9002 x9003 := by
  unfold vernierref06_Split.j2R
  rw [vernierref06_Split.j2]
  exact iteC (fun h0 => iteC (fun h1 => iteC (fun h2 => iteC (fun h3 => bindC fun _ => (if_pos h1).trans (bindC fun _ => rfl)) (fun h3 => rfl)) (fun h2 => rfl)) (fun h1 => rfl)) (fun h0 => iteC (fun h1 => iteC (fun h2 => iteC (fun h3 => bindC fun _ => (if_pos h1).trans (bindC fun _ => rfl)) (fun h3 => rfl)) (fun h2 => rfl)) (fun h1 => rfl))
noncomputable def vernierref06_Split.c (k : Nat) : Con := S116.con fun x => vernierref06_Split.f k x.1 x.2
noncomputable def vernierref06_Split.G (k : Nat) : List (Go.FuncId × Con) := [(88, vernierref01_Text.c k), (89, vernierref01_Number.c k), (115, vernierref05_Kind.c k), (147, vernierref06_String.c k), (148, vernierref06_run.c k)]
noncomputable def vernierref06_Split.cuts : List (Cut (TT S116.sb)) := [⟨[1, 0, 1, 1], [.sc 0 (.int .i64), .sc 1 (.int .u64), .sc 7 (.int .i64), .sc 23 (.bool), .box 4 148 [.bool, .bool, .int .i64, .int .i64, .int .i64, .int .i64, .int .i64, .int .u64]], fun k x => vernierref06_Split.j0 k x.1 x.2.1 x.2.2.1 x.2.2.2.1⟩, ⟨[1, 1, 1, 1, 1, 1, 1], [.sc 8 (.str), .box 4 148 [.bool, .bool, .int .i64, .int .i64, .int .i64, .int .i64, .int .i64, .int .u64], .box 9 148 [.bool, .bool, .int .i64, .int .i64, .int .i64, .int .i64, .int .i64, .int .u64]], fun k x => vernierref06_Split.j1 k x.1 x.2.2.1 x.2.2.2.1 x.2.2.2.2.1 x.2.2.2.2.2.1⟩, ⟨[1, 1, 1, 1, 1, 1, 1, 1, 1], [.sc 10 (.str), .box 4 148 [.bool, .bool, .int .i64, .int .i64, .int .i64, .int .i64, .int .i64, .int .u64], .box 9 148 [.bool, .bool, .int .i64, .int .i64, .int .i64, .int .i64, .int .i64, .int .u64]], fun k x => vernierref06_Split.j2 k x.1 x.2.2.1 x.2.2.2.1 x.2.2.2.2.1 x.2.2.2.2.2.1⟩]
theorem vernierref06_Split.w0 (k : Nat) (x : ET [.sc 0 (.int .i64), .sc 1 (.int .u64), .sc 7 (.int .i64), .sc 23 (.bool), .box 4 148 [.bool, .bool, .int .i64, .int .i64, .int .i64, .int .i64, .int .i64, .int .u64]]) : walk E116 (vernierref06_Split.G k) (cutsAt k vernierref06_Split.cuts) (retE E116 Go.Proofs.Try.f116.results.toList S116) 4000 true (stackAt B116 [1, 0, 1, 1]) (mkE [.sc 0 (.int .i64), .sc 1 (.int .u64), .sc 7 (.int .i64), .sc 23 (.bool), .box 4 148 [.bool, .bool, .int .i64, .int .i64, .int .i64, .int .i64, .int .i64, .int .u64]] x St.nil) = vernierref06_Split.j0 (k + 1) x.1 x.2.1 x.2.2.1 x.2.2.2.1 := by kernel_rfl
theorem vernierref06_Split.w1 (k : Nat) (x : ET [.sc 8 (.str), .box 4 148 [.bool, .bool, .int .i64, .int .i64, .int .i64, .int .i64, .int .i64, .int .u64], .box 9 148 [.bool, .bool, .int .i64, .int .i64, .int .i64, .int .i64, .int .i64, .int .u64]]) : walk E116 (vernierref06_Split.G k) (cutsAt k vernierref06_Split.cuts) (retE E116 Go.Proofs.Try.f116.results.toList S116) 4000 true (stackAt B116 [1, 1, 1, 1, 1, 1, 1]) (mkE [.sc 8 (.str), .box 4 148 [.bool, .bool, .int .i64, .int .i64, .int .i64, .int .i64, .int .i64, .int .u64], .box 9 148 [.bool, .bool, .int .i64, .int .i64, .int .i64, .int .i64, .int .i64, .int .u64]] x St.nil) = vernierref06_Split.j1 (k + 1) x.1 x.2.2.1 x.2.2.2.1 x.2.2.2.2.1 x.2.2.2.2.2.1 := by kernel_rfl
theorem vernierref06_Split.w2 (k : Nat) (x : ET [.sc 10 (.str), .box 4 148 [.bool, .bool, .int .i64, .int .i64, .int .i64, .int .i64, .int .i64, .int .u64], .box 9 148 [.bool, .bool, .int .i64, .int .i64, .int .i64, .int .i64, .int .i64, .int .u64]]) : walk E116 (vernierref06_Split.G k) (cutsAt k vernierref06_Split.cuts) (retE E116 Go.Proofs.Try.f116.results.toList S116) 4000 true (stackAt B116 [1, 1, 1, 1, 1, 1, 1, 1, 1]) (mkE [.sc 10 (.str), .box 4 148 [.bool, .bool, .int .i64, .int .i64, .int .i64, .int .i64, .int .i64, .int .u64], .box 9 148 [.bool, .bool, .int .i64, .int .i64, .int .i64, .int .i64, .int .i64, .int .u64]] x St.nil) = vernierref06_Split.j2 (k + 1) x.1 x.2.2.1 x.2.2.2.1 x.2.2.2.2.1 x.2.2.2.2.2.1 := Eq.trans (b := vernierref06_Split.j2R k x.1 x.2.2.1 x.2.2.2.1 x.2.2.2.2.1 x.2.2.2.2.2.1) (by kernel_rfl) (vernierref06_Split.j2E k x.1 x.2.2.1 x.2.2.2.1 x.2.2.2.2.1 x.2.2.2.2.2.1)
theorem vernierref06_Split.w (k : Nat) (x : TT S116.sa) : walk E116 (vernierref06_Split.G k) (cutsAt k vernierref06_Split.cuts) (retE E116 Go.Proofs.Try.f116.results.toList S116) 4000 true [([], .code B116)] (St0 S116 x) = vernierref06_Split.f k x.1 x.2 := by kernel_rfl
theorem vernierref06_Split.ok (k : Nat) : FnOk Go.Proofs.Try.prog E116.eT 116 (vernierref06_Split.c k) := FnOk.walk (E := E116) (body := B116) Go.Proofs.Try.func116 rfl (by rfl) Go.Proofs.Try.ntmps116 S116 rfl (fun k x => vernierref06_Split.f k x.1 x.2) vernierref06_Split.G (fun k => ⟨vernierref01_Text.ok k, vernierref01_Number.ok k, vernierref05_Kind.ok k, vernierref06_String.ok k, vernierref06_run.ok k, trivial⟩) 4000 vernierref06_Split.cuts ⟨⟨fun _ => rfl, fun k x q h => (vernierref06_Split.w0 k x).trans h⟩, ⟨fun _ => rfl, fun k x q h => (vernierref06_Split.w1 k x).trans h⟩, ⟨fun _ => rfl, fun k x q h => (vernierref06_Split.w2 k x).trans h⟩, trivial⟩ (fun k x r h => (vernierref06_Split.w k x).trans h) k
noncomputable def E83 : En := ⟨Go.Proofs.Try.prog, 62, Go.Proofs.Try.f83.ntmps⟩
noncomputable def S83 : Sig := ⟨[.s, .s], [(.int .i64), (.int .u64)], true, [.g 4, .s], [(.int .i64), .bool, (.int .i64), (.int .u64), (.int .i64)], false⟩
noncomputable def B83 : Go.Code := Go.Proofs.Try.f83.body.get!
mutual
def vernierref06_Decodes.j0 : Nat → Int → Int → Int → Int → Bool → Option (Int × Bool × Int × Int × Int)
 | 0, _, _, _, _, _ => none
 | k + 1, x0, x1, x6, x7, x23 => if x23 = true then (some (x6, false, 0, 0, x7)) else ((vernierref06_Split.f k x0 x1).bind fun t101 => ((vernierref01_Text.f k t101.2.2.2.2.2.2.2.1 t101.2.2.2.2.2.2.1).bind fun t102 => (if (1 + t102.size) ≤ 9223372036854775807 then (vernierref06_Decodes.l0 k ((⟨#[49]⟩ : ByteArray) ++ t102) x6 t101.1 (wrap64 ((wrap64 (4 * t101.2.2.2.1)) + t101.2.2.2.2.2.1))) else (none))))
def vernierref06_Decodes.l0 : Nat → ByteArray → Int → Bool → Int → Option (Int × Bool × Int × Int × Int)
 | 0, _, _, _, _ => none
 | k + 1, x11, x10000, x10001, x10002 => if (nI x11.size) < 64 then (if x11.size < 9223372036854775807 then (vernierref06_Decodes.l0 k (x11 ++ (⟨#[48]⟩ : ByteArray)) x10000 x10001 x10002) else (none)) else ((vernierref01_Number.f k x11).bind fun t103 => (some (x10000, x10001, x10002, t103, 0)))
end
def vernierref06_Decodes.f (k : Nat) (a0 : Int) (a1 : Int) : Option (Int × Bool × Int × Int × Int) := (vernierref05_Kind.f k a0 a1).bind fun t100 => (if t100.2 = 0 then (vernierref06_Decodes.j0 k a0 a1 t100.1 t100.2 (t100.1 != 1)) else (vernierref06_Decodes.j0 k a0 a1 t100.1 t100.2 true))
--@ok
noncomputable def vernierref06_Decodes.c (k : Nat) : Con := S83.con fun x => vernierref06_Decodes.f k x.1 x.2
noncomputable def vernierref06_Decodes.G (k : Nat) : List (Go.FuncId × Con) := [(88, vernierref01_Text.c k), (89, vernierref01_Number.c k), (115, vernierref05_Kind.c k), (116, vernierref06_Split.c k)]
noncomputable def vernierref06_Decodes.cuts : List (Cut (TT S83.sb)) := [⟨[1, 0, 1, 1], [.sc 0 (.int .i64), .sc 1 (.int .u64), .sc 6 (.int .i64), .sc 7 (.int .i64), .sc 23 (.bool), .box 4 70 [.int .i64, .bool, .int .i64, .int .u64]], fun k x => vernierref06_Decodes.j0 k x.1 x.2.1 x.2.2.1 x.2.2.2.1 x.2.2.2.2.1⟩, ⟨[6, 4, 0, 1, 1, 1, 1, 1, 1], [.sc 11 (.str), .box 4 70 [.int .i64, .bool, .int .i64, .int .u64], .box 10 70 [.int .i64, .bool, .int .i64, .int .u64]], fun k x => vernierref06_Decodes.l0 k x.1 x.2.2.1 x.2.2.2.1 x.2.2.2.2.1⟩]
theorem vernierref06_Decodes.w0 (k : Nat) (x : ET [.sc 0 (.int .i64), .sc 1 (.int .u64), .sc 6 (.int .i64), .sc 7 (.int .i64), .sc 23 (.bool), .box 4 70 [.int .i64, .bool, .int .i64, .int .u64]]) : walk E83 (vernierref06_Decodes.G k) (cutsAt k vernierref06_Decodes.cuts) (retE E83 Go.Proofs.Try.f83.results.toList S83) 4000 true (stackAt B83 [1, 0, 1, 1]) (mkE [.sc 0 (.int .i64), .sc 1 (.int .u64), .sc 6 (.int .i64), .sc 7 (.int .i64), .sc 23 (.bool), .box 4 70 [.int .i64, .bool, .int .i64, .int .u64]] x St.nil) = vernierref06_Decodes.j0 (k + 1) x.1 x.2.1 x.2.2.1 x.2.2.2.1 x.2.2.2.2.1 := by kernel_rfl
theorem vernierref06_Decodes.w1 (k : Nat) (x : ET [.sc 11 (.str), .box 4 70 [.int .i64, .bool, .int .i64, .int .u64], .box 10 70 [.int .i64, .bool, .int .i64, .int .u64]]) : walk E83 (vernierref06_Decodes.G k) (cutsAt k vernierref06_Decodes.cuts) (retE E83 Go.Proofs.Try.f83.results.toList S83) 4000 true (stackAt B83 [6, 4, 0, 1, 1, 1, 1, 1, 1]) (mkE [.sc 11 (.str), .box 4 70 [.int .i64, .bool, .int .i64, .int .u64], .box 10 70 [.int .i64, .bool, .int .i64, .int .u64]] x St.nil) = vernierref06_Decodes.l0 (k + 1) x.1 x.2.2.1 x.2.2.2.1 x.2.2.2.2.1 := by kernel_rfl
theorem vernierref06_Decodes.w (k : Nat) (x : TT S83.sa) : walk E83 (vernierref06_Decodes.G k) (cutsAt k vernierref06_Decodes.cuts) (retE E83 Go.Proofs.Try.f83.results.toList S83) 4000 true [([], .code B83)] (St0 S83 x) = vernierref06_Decodes.f k x.1 x.2 := by kernel_rfl
theorem vernierref06_Decodes.ok (k : Nat) : FnOk Go.Proofs.Try.prog E83.eT 83 (vernierref06_Decodes.c k) := FnOk.walk (E := E83) (body := B83) Go.Proofs.Try.func83 rfl (by rfl) Go.Proofs.Try.ntmps83 S83 rfl (fun k x => vernierref06_Decodes.f k x.1 x.2) vernierref06_Decodes.G (fun k => ⟨vernierref01_Text.ok k, vernierref01_Number.ok k, vernierref05_Kind.ok k, vernierref06_Split.ok k, trivial⟩) 4000 vernierref06_Decodes.cuts ⟨⟨fun _ => rfl, fun k x q h => (vernierref06_Decodes.w0 k x).trans h⟩, ⟨fun _ => rfl, fun k x q h => (vernierref06_Decodes.w1 k x).trans h⟩, trivial⟩ (fun k x r h => (vernierref06_Decodes.w k x).trans h) k
noncomputable def E40 : En := ⟨Go.Proofs.Try.prog, 62, Go.Proofs.Try.f40.ntmps⟩
noncomputable def S40 : Sig := ⟨[.s, .s], [(.int .i64), (.int .u64)], false, [.g 4], [(.int .i64), .bool, (.int .i64), (.int .u64)], false⟩
noncomputable def B40 : Go.Code := Go.Proofs.Try.f40.body.get!
def vernierref06_Decode.f (k : Nat) (a0 : Int) (a1 : Int) : Option (Int × Bool × Int × Int) := (vernierref06_Decodes.f k a0 a1).bind fun t100 => (some (t100.1, t100.2.1, t100.2.2.1, t100.2.2.2.1))
--@ok
noncomputable def vernierref06_Decode.c (k : Nat) : Con := S40.con fun x => vernierref06_Decode.f k x.1 x.2
noncomputable def vernierref06_Decode.G (k : Nat) : List (Go.FuncId × Con) := [(83, vernierref06_Decodes.c k)]
noncomputable def vernierref06_Decode.cuts : List (Cut (TT S40.sb)) := []
theorem vernierref06_Decode.w (k : Nat) (x : TT S40.sa) : walk E40 (vernierref06_Decode.G k) (cutsAt k vernierref06_Decode.cuts) (retE E40 Go.Proofs.Try.f40.results.toList S40) 4000 true [([], .code B40)] (St0 S40 x) = vernierref06_Decode.f k x.1 x.2 := by kernel_rfl
theorem vernierref06_Decode.ok (k : Nat) : FnOk Go.Proofs.Try.prog E40.eT 40 (vernierref06_Decode.c k) := FnOk.walk (E := E40) (body := B40) Go.Proofs.Try.func40 rfl (by rfl) Go.Proofs.Try.ntmps40 S40 rfl (fun k x => vernierref06_Decode.f k x.1 x.2) vernierref06_Decode.G (fun k => ⟨vernierref06_Decodes.ok k, trivial⟩) 4000 vernierref06_Decode.cuts trivial (fun k x r h => (vernierref06_Decode.w k x).trans h) k
noncomputable def E123 : En := ⟨Go.Proofs.Try.prog, 62, Go.Proofs.Try.f123.ntmps⟩
noncomputable def S123 : Sig := ⟨[.s, .s], [(.rd .i64), (.int .i64)], false, [.s], [(.int .i64)], false⟩
noncomputable def B123 : Go.Code := Go.Proofs.Try.f123.body.get!
def vernierref04_digit.f (l0 : List Int) (a1 : Int) : Option (Int) := if a1 < (nI l0.length) then (if 0 ≤ a1 then (some (rd l0 a1)) else (none)) else (some 0)
--@ok
def vernierref04_digit.fR (l0 : List Int) (a1 : Int) : Option (Int) := if a1 < (nI l0.length) then (if 0 ≤ a1 then (if a1 < (nI l0.length) then (some (rd l0 a1)) else (none)) else (none)) else (some 0)
theorem vernierref04_digit.fE (l0 : List Int) (a1 : Int) : vernierref04_digit.fR l0 a1 = vernierref04_digit.f l0 a1 := by
  unfold vernierref04_digit.fR vernierref04_digit.f
  exact iteC (fun h0 => iteC (fun h1 => (if_pos h0).trans (rfl)) (fun h1 => rfl)) (fun h0 => rfl)
noncomputable def vernierref04_digit.c : Con := S123.con fun x => vernierref04_digit.f x.1 x.2
noncomputable def vernierref04_digit.G (k : Nat) : List (Go.FuncId × Con) := []
noncomputable def vernierref04_digit.cuts : List (Cut (TT S123.sb)) := []
theorem vernierref04_digit.w (k : Nat) (x : TT S123.sa) : walk E123 (vernierref04_digit.G k) (cutsAt k vernierref04_digit.cuts) (retE E123 Go.Proofs.Try.f123.results.toList S123) 4000 true [([], .code B123)] (St0 S123 x) = vernierref04_digit.f x.1 x.2 := Eq.trans (b := vernierref04_digit.fR x.1 x.2) (by kernel_rfl) (vernierref04_digit.fE x.1 x.2)
theorem vernierref04_digit.ok : FnOk Go.Proofs.Try.prog E123.eT 123 (vernierref04_digit.c) := FnOk.walk (E := E123) (body := B123) Go.Proofs.Try.func123 rfl (by rfl) Go.Proofs.Try.ntmps123 S123 rfl (fun k x => vernierref04_digit.f x.1 x.2) vernierref04_digit.G (fun k => trivial) 4000 vernierref04_digit.cuts trivial (fun k x r h => (vernierref04_digit.w k x).trans h) 0
noncomputable def E91 : En := ⟨Go.Proofs.Try.prog, 62, Go.Proofs.Try.f91.ntmps⟩
noncomputable def S91 : Sig := ⟨[.s, .s], [(.rd .i64), (.rd .i64)], false, [.s], [(.rd .i64)], true⟩
noncomputable def B91 : Go.Code := Go.Proofs.Try.f91.body.get!
mutual
def vernierref04_Add.l0 : Nat → List Int → List Int → List Int → Int → Int → Option (List Int)
 | 0, _, _, _, _, _ => none
 | k + 1, x0, x1, x5, x6, x7 => if x7 < (nI x0.length) then (vernierref04_Add.j1 k x0 x1 x5 x6 x7 true) else (if x7 < (nI x1.length) then (vernierref04_Add.j1 k x0 x1 x5 x6 x7 true) else (vernierref04_Add.j1 k x0 x1 x5 x6 x7 (decide (x6 > 0))))
def vernierref04_Add.j1 : Nat → List Int → List Int → List Int → Int → Int → Bool → Option (List Int)
 | 0, _, _, _, _, _, _ => none
 | k + 1, x0, x1, x5, x6, x7, x22 => if x22 = true then ((vernierref04_digit.f x0 x7).bind fun t100 => ((vernierref04_digit.f x1 x7).bind fun t101 => (if x5.length < 17592186044416 then (vernierref04_Add.l0 k x0 x1 (x5 ++ ([Int.tmod (wrap64 ((wrap64 (t100 + t101)) + x6)) 16777216] : List Int)) (wrap64 (Int.tdiv (wrap64 ((wrap64 (t100 + t101)) + x6)) 16777216)) (wrap64 (x7 + 1))) else (none)))) else (some x5)
end
def vernierref04_Add.f (k : Nat) (l0 : List Int) (l1 : List Int) : Option (List Int) := vernierref04_Add.l0 k l0 l1 ([] : List Int) 0 0
--@ok
noncomputable def vernierref04_Add.c (k : Nat) : Con := S91.con fun x => vernierref04_Add.f k x.1 x.2
noncomputable def vernierref04_Add.G (k : Nat) : List (Go.FuncId × Con) := [(123, vernierref04_digit.c)]
noncomputable def vernierref04_Add.cuts : List (Cut (TT S91.sb)) := [⟨[6, 4, 1, 0, 1, 1, 1], [.sc 0 (.rd .i64), .sc 1 (.rd .i64), .lst 5 .i64 3, .sc 6 (.int .i64), .sc 7 (.int .i64)], fun k x => vernierref04_Add.l0 k x.1 x.2.1 x.2.2.1 x.2.2.2.1 x.2.2.2.2⟩, ⟨[1, 0, 6, 4, 1, 0, 1, 1, 1], [.sc 0 (.rd .i64), .sc 1 (.rd .i64), .lst 5 .i64 3, .sc 6 (.int .i64), .sc 7 (.int .i64), .sc 22 (.bool)], fun k x => vernierref04_Add.j1 k x.1 x.2.1 x.2.2.1 x.2.2.2.1 x.2.2.2.2.1 x.2.2.2.2.2⟩]
theorem vernierref04_Add.w0 (k : Nat) (x : ET [.sc 0 (.rd .i64), .sc 1 (.rd .i64), .lst 5 .i64 3, .sc 6 (.int .i64), .sc 7 (.int .i64)]) : walk E91 (vernierref04_Add.G k) (cutsAt k vernierref04_Add.cuts) (retE E91 Go.Proofs.Try.f91.results.toList S91) 4000 true (stackAt B91 [6, 4, 1, 0, 1, 1, 1]) (mkE [.sc 0 (.rd .i64), .sc 1 (.rd .i64), .lst 5 .i64 3, .sc 6 (.int .i64), .sc 7 (.int .i64)] x St.nil) = vernierref04_Add.l0 (k + 1) x.1 x.2.1 x.2.2.1 x.2.2.2.1 x.2.2.2.2 := by kernel_rfl
theorem vernierref04_Add.w1 (k : Nat) (x : ET [.sc 0 (.rd .i64), .sc 1 (.rd .i64), .lst 5 .i64 3, .sc 6 (.int .i64), .sc 7 (.int .i64), .sc 22 (.bool)]) : walk E91 (vernierref04_Add.G k) (cutsAt k vernierref04_Add.cuts) (retE E91 Go.Proofs.Try.f91.results.toList S91) 4000 true (stackAt B91 [1, 0, 6, 4, 1, 0, 1, 1, 1]) (mkE [.sc 0 (.rd .i64), .sc 1 (.rd .i64), .lst 5 .i64 3, .sc 6 (.int .i64), .sc 7 (.int .i64), .sc 22 (.bool)] x St.nil) = vernierref04_Add.j1 (k + 1) x.1 x.2.1 x.2.2.1 x.2.2.2.1 x.2.2.2.2.1 x.2.2.2.2.2 := by kernel_rfl
theorem vernierref04_Add.w (k : Nat) (x : TT S91.sa) : walk E91 (vernierref04_Add.G k) (cutsAt k vernierref04_Add.cuts) (retE E91 Go.Proofs.Try.f91.results.toList S91) 4000 true [([], .code B91)] (St0 S91 x) = vernierref04_Add.f k x.1 x.2 := by kernel_rfl
theorem vernierref04_Add.ok (k : Nat) : FnOk Go.Proofs.Try.prog E91.eT 91 (vernierref04_Add.c k) := FnOk.walk (E := E91) (body := B91) Go.Proofs.Try.func91 rfl (by rfl) Go.Proofs.Try.ntmps91 S91 rfl (fun k x => vernierref04_Add.f k x.1 x.2) vernierref04_Add.G (fun k => ⟨vernierref04_digit.ok, trivial⟩) 4000 vernierref04_Add.cuts ⟨⟨fun _ => rfl, fun k x q h => (vernierref04_Add.w0 k x).trans h⟩, ⟨fun _ => rfl, fun k x q h => (vernierref04_Add.w1 k x).trans h⟩, trivial⟩ (fun k x r h => (vernierref04_Add.w k x).trans h) k
noncomputable def E121 : En := ⟨Go.Proofs.Try.prog, 62, Go.Proofs.Try.f121.ntmps⟩
noncomputable def S121 : Sig := ⟨[.s, .s], [(.rd .i64), (.int .i64)], false, [.s], [(.rd .i64)], true⟩
noncomputable def B121 : Go.Code := Go.Proofs.Try.f121.body.get!
def vernierref04_times.l0 : Nat → List Int → Int → List Int → Int → Int → Option (List Int)
 | 0, _, _, _, _, _ => none
 | k + 1, x0, x1, x5, x6, x7 => if x7 < (nI x0.length) then (if x1 > 0 then ((vernierref04_digit.f x0 x7).bind fun t100 => (if x5.length < 17592186044416 then (vernierref04_times.l0 k x0 x1 (x5 ++ ([Int.tmod (wrap64 ((wrap64 (t100 * x1)) + x6)) 16777216] : List Int)) (wrap64 (Int.tdiv (wrap64 ((wrap64 (t100 * x1)) + x6)) 16777216)) (wrap64 (x7 + 1))) else (none))) else (if x6 > 0 then ((vernierref04_digit.f x0 x7).bind fun t101 => (if x5.length < 17592186044416 then (vernierref04_times.l0 k x0 x1 (x5 ++ ([Int.tmod (wrap64 ((wrap64 (t101 * x1)) + x6)) 16777216] : List Int)) (wrap64 (Int.tdiv (wrap64 ((wrap64 (t101 * x1)) + x6)) 16777216)) (wrap64 (x7 + 1))) else (none))) else (some x5))) else (if x6 > 0 then ((vernierref04_digit.f x0 x7).bind fun t102 => (if x5.length < 17592186044416 then (vernierref04_times.l0 k x0 x1 (x5 ++ ([Int.tmod (wrap64 ((wrap64 (t102 * x1)) + x6)) 16777216] : List Int)) (wrap64 (Int.tdiv (wrap64 ((wrap64 (t102 * x1)) + x6)) 16777216)) (wrap64 (x7 + 1))) else (none))) else (some x5))
def vernierref04_times.f (k : Nat) (l0 : List Int) (a1 : Int) : Option (List Int) := vernierref04_times.l0 k l0 a1 ([] : List Int) 0 0
--@ok
noncomputable def vernierref04_times.c (k : Nat) : Con := S121.con fun x => vernierref04_times.f k x.1 x.2
noncomputable def vernierref04_times.G (k : Nat) : List (Go.FuncId × Con) := [(123, vernierref04_digit.c)]
noncomputable def vernierref04_times.cuts : List (Cut (TT S121.sb)) := [⟨[6, 4, 1, 0, 1, 1, 1], [.sc 0 (.rd .i64), .sc 1 (.int .i64), .lst 5 .i64 3, .sc 6 (.int .i64), .sc 7 (.int .i64)], fun k x => vernierref04_times.l0 k x.1 x.2.1 x.2.2.1 x.2.2.2.1 x.2.2.2.2⟩]
theorem vernierref04_times.w0 (k : Nat) (x : ET [.sc 0 (.rd .i64), .sc 1 (.int .i64), .lst 5 .i64 3, .sc 6 (.int .i64), .sc 7 (.int .i64)]) : walk E121 (vernierref04_times.G k) (cutsAt k vernierref04_times.cuts) (retE E121 Go.Proofs.Try.f121.results.toList S121) 4000 true (stackAt B121 [6, 4, 1, 0, 1, 1, 1]) (mkE [.sc 0 (.rd .i64), .sc 1 (.int .i64), .lst 5 .i64 3, .sc 6 (.int .i64), .sc 7 (.int .i64)] x St.nil) = vernierref04_times.l0 (k + 1) x.1 x.2.1 x.2.2.1 x.2.2.2.1 x.2.2.2.2 := by kernel_rfl
theorem vernierref04_times.w (k : Nat) (x : TT S121.sa) : walk E121 (vernierref04_times.G k) (cutsAt k vernierref04_times.cuts) (retE E121 Go.Proofs.Try.f121.results.toList S121) 4000 true [([], .code B121)] (St0 S121 x) = vernierref04_times.f k x.1 x.2 := by kernel_rfl
theorem vernierref04_times.ok (k : Nat) : FnOk Go.Proofs.Try.prog E121.eT 121 (vernierref04_times.c k) := FnOk.walk (E := E121) (body := B121) Go.Proofs.Try.func121 rfl (by rfl) Go.Proofs.Try.ntmps121 S121 rfl (fun k x => vernierref04_times.f k x.1 x.2) vernierref04_times.G (fun k => ⟨vernierref04_digit.ok, trivial⟩) 4000 vernierref04_times.cuts ⟨⟨fun _ => rfl, fun k x q h => (vernierref04_times.w0 k x).trans h⟩, trivial⟩ (fun k x r h => (vernierref04_times.w k x).trans h) k
noncomputable def E122 : En := ⟨Go.Proofs.Try.prog, 62, Go.Proofs.Try.f122.ntmps⟩
noncomputable def S122 : Sig := ⟨[.s], [(.int .i64)], false, [.s], [(.int .i64)], false⟩
noncomputable def B122 : Go.Code := Go.Proofs.Try.f122.body.get!
def vernierref04_two.l0 : Nat → Int → Int → Int → Option (Int)
 | 0, _, _, _ => none
 | k + 1, x0, x3, x4 => if x4 < x0 then (vernierref04_two.l0 k x0 (wrap64 (2 * x3)) (wrap64 (x4 + 1))) else (some x3)
def vernierref04_two.f (k : Nat) (a0 : Int) : Option (Int) := vernierref04_two.l0 k a0 1 0
--@ok
noncomputable def vernierref04_two.c (k : Nat) : Con := S122.con fun x => vernierref04_two.f k x
noncomputable def vernierref04_two.G (k : Nat) : List (Go.FuncId × Con) := []
noncomputable def vernierref04_two.cuts : List (Cut (TT S122.sb)) := [⟨[6, 4, 1, 0, 1, 1], [.sc 0 (.int .i64), .sc 3 (.int .i64), .sc 4 (.int .i64)], fun k x => vernierref04_two.l0 k x.1 x.2.1 x.2.2⟩]
theorem vernierref04_two.w0 (k : Nat) (x : ET [.sc 0 (.int .i64), .sc 3 (.int .i64), .sc 4 (.int .i64)]) : walk E122 (vernierref04_two.G k) (cutsAt k vernierref04_two.cuts) (retE E122 Go.Proofs.Try.f122.results.toList S122) 4000 true (stackAt B122 [6, 4, 1, 0, 1, 1]) (mkE [.sc 0 (.int .i64), .sc 3 (.int .i64), .sc 4 (.int .i64)] x St.nil) = vernierref04_two.l0 (k + 1) x.1 x.2.1 x.2.2 := by kernel_rfl
theorem vernierref04_two.w (k : Nat) (x : TT S122.sa) : walk E122 (vernierref04_two.G k) (cutsAt k vernierref04_two.cuts) (retE E122 Go.Proofs.Try.f122.results.toList S122) 4000 true [([], .code B122)] (St0 S122 x) = vernierref04_two.f k x := by kernel_rfl
theorem vernierref04_two.ok (k : Nat) : FnOk Go.Proofs.Try.prog E122.eT 122 (vernierref04_two.c k) := FnOk.walk (E := E122) (body := B122) Go.Proofs.Try.func122 rfl (by rfl) Go.Proofs.Try.ntmps122 S122 rfl (fun k x => vernierref04_two.f k x) vernierref04_two.G (fun k => trivial) 4000 vernierref04_two.cuts ⟨⟨fun _ => rfl, fun k x q h => (vernierref04_two.w0 k x).trans h⟩, trivial⟩ (fun k x r h => (vernierref04_two.w k x).trans h) k
noncomputable def E90 : En := ⟨Go.Proofs.Try.prog, 62, Go.Proofs.Try.f90.ntmps⟩
noncomputable def S90 : Sig := ⟨[.s, .s], [(.rd .i64), (.int .i64)], false, [.s], [(.rd .i64)], true⟩
noncomputable def B90 : Go.Code := Go.Proofs.Try.f90.body.get!
def vernierref04_Shl.f (k : Nat) (l0 : List Int) (a1 : Int) : Option (List Int) := if (nI l0.length) = 0 then (some ([] : List Int)) else (if 0 ≤ (wrap64 (Int.tdiv a1 24)) then (if (((wrap64 (Int.tdiv a1 24)) : Int).toNat) ≤ 35184372088832 then ((vernierref04_two.f k (Int.tmod a1 24)).bind fun t100 => ((vernierref04_times.f k l0 t100).bind fun t101 => (if (((List.replicate (((wrap64 (Int.tdiv a1 24)) : Int).toNat) 0 : List Int).length) + t101.length) ≤ 17592186044416 then (some ((List.replicate (((wrap64 (Int.tdiv a1 24)) : Int).toNat) 0 : List Int) ++ t101)) else (none)))) else (none)) else (none))
--@ok
noncomputable def vernierref04_Shl.c (k : Nat) : Con := S90.con fun x => vernierref04_Shl.f k x.1 x.2
noncomputable def vernierref04_Shl.G (k : Nat) : List (Go.FuncId × Con) := [(121, vernierref04_times.c k), (122, vernierref04_two.c k)]
noncomputable def vernierref04_Shl.cuts : List (Cut (TT S90.sb)) := []
theorem vernierref04_Shl.w (k : Nat) (x : TT S90.sa) : walk E90 (vernierref04_Shl.G k) (cutsAt k vernierref04_Shl.cuts) (retE E90 Go.Proofs.Try.f90.results.toList S90) 4000 true [([], .code B90)] (St0 S90 x) = vernierref04_Shl.f k x.1 x.2 := by kernel_rfl
theorem vernierref04_Shl.ok (k : Nat) : FnOk Go.Proofs.Try.prog E90.eT 90 (vernierref04_Shl.c k) := FnOk.walk (E := E90) (body := B90) Go.Proofs.Try.func90 rfl (by rfl) Go.Proofs.Try.ntmps90 S90 rfl (fun k x => vernierref04_Shl.f k x.1 x.2) vernierref04_Shl.G (fun k => ⟨vernierref04_times.ok k, vernierref04_two.ok k, trivial⟩) 4000 vernierref04_Shl.cuts trivial (fun k x r h => (vernierref04_Shl.w k x).trans h) k
noncomputable def E117 : En := ⟨Go.Proofs.Try.prog, 62, Go.Proofs.Try.f117.ntmps⟩
noncomputable def S117 : Sig := ⟨[.g 3, .g 3], [.bool, (.rd .i64), (.int .i64), .bool, (.rd .i64), (.int .i64)], true, [.s, .s, .s], [(.rd .i64), (.rd .i64), (.int .i64)], true⟩
noncomputable def B117 : Go.Code := Go.Proofs.Try.f117.body.get!
def verniertop_down.f (k : Nat) (a0_0 : Bool) (a0_1 : List Int) (a0_2 : Int) (a1_0 : Bool) (a1_1 : List Int) (a1_2 : Int) : Option (List Int × List Int × Int) := if a0_2 ≥ a1_2 then ((vernierref04_Shl.f k a0_1 (wrap64 (a0_2 - a1_2))).bind fun t100 => (some (t100, a1_1, a1_2))) else ((vernierref04_Shl.f k a1_1 (wrap64 (a1_2 - a0_2))).bind fun t101 => (some (a0_1, t101, a0_2)))
--@ok
noncomputable def verniertop_down.c (k : Nat) : Con := S117.con fun x => verniertop_down.f k x.1 x.2.1 x.2.2.1 x.2.2.2.1 x.2.2.2.2.1 x.2.2.2.2.2
noncomputable def verniertop_down.G (k : Nat) : List (Go.FuncId × Con) := [(90, vernierref04_Shl.c k)]
noncomputable def verniertop_down.cuts : List (Cut (TT S117.sb)) := []
theorem verniertop_down.w (k : Nat) (x : TT S117.sa) : walk E117 (verniertop_down.G k) (cutsAt k verniertop_down.cuts) (retE E117 Go.Proofs.Try.f117.results.toList S117) 4000 true [([], .code B117)] (St0 S117 x) = verniertop_down.f k x.1 x.2.1 x.2.2.1 x.2.2.2.1 x.2.2.2.2.1 x.2.2.2.2.2 := by kernel_rfl
theorem verniertop_down.ok (k : Nat) : FnOk Go.Proofs.Try.prog E117.eT 117 (verniertop_down.c k) := FnOk.walk (E := E117) (body := B117) Go.Proofs.Try.func117 rfl (by rfl) Go.Proofs.Try.ntmps117 S117 rfl (fun k x => verniertop_down.f k x.1 x.2.1 x.2.2.1 x.2.2.2.1 x.2.2.2.2.1 x.2.2.2.2.2) verniertop_down.G (fun k => ⟨vernierref04_Shl.ok k, trivial⟩) 4000 verniertop_down.cuts trivial (fun k x r h => (verniertop_down.w k x).trans h) k
end Go.Proofs.Ythofoolgbngobaa.Fn
set_option maxRecDepth 100000
set_option linter.unusedVariables false
noncomputable section
namespace Go.Proofs.Ythofoolgbngobaa.Fn
open Go Go.RowKit Go.Proofs.Ythofoolgbngobaa.Ab
noncomputable def E118 : En := ⟨Go.Proofs.Try.prog, 62, Go.Proofs.Try.f118.ntmps⟩
noncomputable def S118 : Sig := ⟨[.s, .s], [(.rd .i64), (.rd .i64)], false, [.s], [(.int .i64)], false⟩
noncomputable def B118 : Go.Code := Go.Proofs.Try.f118.body.get!
def vernierref04_Cmp.l0 : Nat → List Int → List Int → Int → Option (Int)
 | 0, _, _, _ => none
 | k + 1, x0, x1, x5 => if x5 ≥ 0 then (if 0 ≤ x5 then (if x5 < (nI x0.length) then (if x5 < (nI x1.length) then (if (rd x0 x5) < (rd x1 x5) then (some (-1)) else (if (rd x0 x5) > (rd x1 x5) then (some 1) else (vernierref04_Cmp.l0 k x0 x1 (wrap64 (x5 - 1))))) else (none)) else (none)) else (none)) else (some 0)
def vernierref04_Cmp.f (k : Nat) (l0 : List Int) (l1 : List Int) : Option (Int) := if (nI l0.length) = (nI l1.length) then (vernierref04_Cmp.l0 k l0 l1 (wrap64 ((nI l0.length) - 1))) else (if (nI l0.length) < (nI l1.length) then (some (-1)) else (some 1))
--@ok
def vernierref04_Cmp.l0R (k : Nat) (x0 : List Int) (x1 : List Int) (x5 : Int) : Option (Int) := if x5 ≥ 0 then (if 0 ≤ x5 then (if x5 < (nI x0.length) then (if 0 ≤ x5 then (if x5 < (nI x1.length) then (if (rd x0 x5) < (rd x1 x5) then (some (-1)) else (if 0 ≤ x5 then (if x5 < (nI x0.length) then (if 0 ≤ x5 then (if x5 < (nI x1.length) then (if (rd x0 x5) > (rd x1 x5) then (some 1) else (vernierref04_Cmp.l0 k x0 x1 (wrap64 (x5 - 1)))) else (none)) else (none)) else (none)) else (none))) else (none)) else (none)) else (none)) else (none)) else (some 0)
theorem vernierref04_Cmp.l0E (k : Nat) (x0 : List Int) (x1 : List Int) (x5 : Int) : vernierref04_Cmp.l0R k x0 x1 x5 = vernierref04_Cmp.l0 (k + 1) x0 x1 x5 := by
  unfold vernierref04_Cmp.l0R
  rw [vernierref04_Cmp.l0]
  exact iteC (fun h0 => iteC (fun h1 => iteC (fun h2 => (if_pos h1).trans (iteC (fun h3 => iteC (fun h4 => rfl) (fun h4 => (if_pos h1).trans ((if_pos h2).trans ((if_pos h1).trans ((if_pos h3).trans (iteC (fun h5 => rfl) (fun h5 => rfl))))))) (fun h3 => rfl))) (fun h2 => rfl)) (fun h1 => rfl)) (fun h0 => rfl)
noncomputable def vernierref04_Cmp.c (k : Nat) : Con := S118.con fun x => vernierref04_Cmp.f k x.1 x.2
noncomputable def vernierref04_Cmp.G (k : Nat) : List (Go.FuncId × Con) := []
noncomputable def vernierref04_Cmp.cuts : List (Cut (TT S118.sb)) := [⟨[6, 4, 1, 0, 1, 1], [.sc 0 (.rd .i64), .sc 1 (.rd .i64), .sc 5 (.int .i64)], fun k x => vernierref04_Cmp.l0 k x.1 x.2.1 x.2.2⟩]
theorem vernierref04_Cmp.w0 (k : Nat) (x : ET [.sc 0 (.rd .i64), .sc 1 (.rd .i64), .sc 5 (.int .i64)]) : walk E118 (vernierref04_Cmp.G k) (cutsAt k vernierref04_Cmp.cuts) (retE E118 Go.Proofs.Try.f118.results.toList S118) 4000 true (stackAt B118 [6, 4, 1, 0, 1, 1]) (mkE [.sc 0 (.rd .i64), .sc 1 (.rd .i64), .sc 5 (.int .i64)] x St.nil) = vernierref04_Cmp.l0 (k + 1) x.1 x.2.1 x.2.2 := Eq.trans (b := vernierref04_Cmp.l0R k x.1 x.2.1 x.2.2) (by kernel_rfl) (vernierref04_Cmp.l0E k x.1 x.2.1 x.2.2)
theorem vernierref04_Cmp.w (k : Nat) (x : TT S118.sa) : walk E118 (vernierref04_Cmp.G k) (cutsAt k vernierref04_Cmp.cuts) (retE E118 Go.Proofs.Try.f118.results.toList S118) 4000 true [([], .code B118)] (St0 S118 x) = vernierref04_Cmp.f k x.1 x.2 := by kernel_rfl
theorem vernierref04_Cmp.ok (k : Nat) : FnOk Go.Proofs.Try.prog E118.eT 118 (vernierref04_Cmp.c k) := FnOk.walk (E := E118) (body := B118) Go.Proofs.Try.func118 rfl (by rfl) Go.Proofs.Try.ntmps118 S118 rfl (fun k x => vernierref04_Cmp.f k x.1 x.2) vernierref04_Cmp.G (fun k => trivial) 4000 vernierref04_Cmp.cuts ⟨⟨fun _ => rfl, fun k x q h => (vernierref04_Cmp.w0 k x).trans h⟩, trivial⟩ (fun k x r h => (vernierref04_Cmp.w k x).trans h) k
noncomputable def E149 : En := ⟨Go.Proofs.Try.prog, 62, Go.Proofs.Try.f149.ntmps⟩
noncomputable def S149 : Sig := ⟨[.s], [(.rd .i64)], false, [.s], [(.rd .i64)], true⟩
noncomputable def B149 : Go.Code := Go.Proofs.Try.f149.body.get!
def vernierref04_Cut.l0 : Nat → List Int → Int → Option (List Int)
 | 0, _, _ => none
 | k + 1, x0, x3 => if x3 > 0 then (if 0 ≤ (wrap64 (x3 - 1)) then (if (wrap64 (x3 - 1)) < (nI x0.length) then (if (rd x0 (wrap64 (x3 - 1))) = 0 then (vernierref04_Cut.l0 k x0 (wrap64 (x3 - 1))) else (if 0 ≤ x3 then (if x3 ≤ (nI x0.length) then (some (x0.take ((x3 : Int).toNat))) else (none)) else (none))) else (none)) else (none)) else (if 0 ≤ x3 then (if x3 ≤ (nI x0.length) then (some (x0.take ((x3 : Int).toNat))) else (none)) else (none))
def vernierref04_Cut.f (k : Nat) (l0 : List Int) : Option (List Int) := vernierref04_Cut.l0 k l0 (nI l0.length)
--@ok
noncomputable def vernierref04_Cut.c (k : Nat) : Con := S149.con fun x => vernierref04_Cut.f k x
noncomputable def vernierref04_Cut.G (k : Nat) : List (Go.FuncId × Con) := []
noncomputable def vernierref04_Cut.cuts : List (Cut (TT S149.sb)) := [⟨[6, 4, 0, 1, 1], [.sc 0 (.rd .i64), .sc 3 (.int .i64)], fun k x => vernierref04_Cut.l0 k x.1 x.2⟩]
theorem vernierref04_Cut.w0 (k : Nat) (x : ET [.sc 0 (.rd .i64), .sc 3 (.int .i64)]) : walk E149 (vernierref04_Cut.G k) (cutsAt k vernierref04_Cut.cuts) (retE E149 Go.Proofs.Try.f149.results.toList S149) 4000 true (stackAt B149 [6, 4, 0, 1, 1]) (mkE [.sc 0 (.rd .i64), .sc 3 (.int .i64)] x St.nil) = vernierref04_Cut.l0 (k + 1) x.1 x.2 := by kernel_rfl
theorem vernierref04_Cut.w (k : Nat) (x : TT S149.sa) : walk E149 (vernierref04_Cut.G k) (cutsAt k vernierref04_Cut.cuts) (retE E149 Go.Proofs.Try.f149.results.toList S149) 4000 true [([], .code B149)] (St0 S149 x) = vernierref04_Cut.f k x := by kernel_rfl
theorem vernierref04_Cut.ok (k : Nat) : FnOk Go.Proofs.Try.prog E149.eT 149 (vernierref04_Cut.c k) := FnOk.walk (E := E149) (body := B149) Go.Proofs.Try.func149 rfl (by rfl) Go.Proofs.Try.ntmps149 S149 rfl (fun k x => vernierref04_Cut.f k x) vernierref04_Cut.G (fun k => trivial) 4000 vernierref04_Cut.cuts ⟨⟨fun _ => rfl, fun k x q h => (vernierref04_Cut.w0 k x).trans h⟩, trivial⟩ (fun k x r h => (vernierref04_Cut.w k x).trans h) k
noncomputable def E119 : En := ⟨Go.Proofs.Try.prog, 62, Go.Proofs.Try.f119.ntmps⟩
noncomputable def S119 : Sig := ⟨[.s, .s], [(.rd .i64), (.rd .i64)], false, [.s], [(.rd .i64)], true⟩
noncomputable def B119 : Go.Code := Go.Proofs.Try.f119.body.get!
def vernierref04_Sub.l0 : Nat → List Int → List Int → List Int → Int → Int → Option (List Int)
 | 0, _, _, _, _, _ => none
 | k + 1, x0, x1, x5, x6, x7 => if x7 < (nI x0.length) then (if 0 ≤ x7 then ((vernierref04_digit.f x1 x7).bind fun t100 => (if (wrap64 ((wrap64 ((rd x0 x7) - t100)) - x6)) < 0 then (if x5.length < 17592186044416 then (vernierref04_Sub.l0 k x0 x1 (x5 ++ ([wrap64 ((wrap64 ((wrap64 ((rd x0 x7) - t100)) - x6)) + 16777216)] : List Int)) 1 (wrap64 (x7 + 1))) else (none)) else (if x5.length < 17592186044416 then (vernierref04_Sub.l0 k x0 x1 (x5 ++ ([wrap64 ((wrap64 ((rd x0 x7) - t100)) - x6)] : List Int)) 0 (wrap64 (x7 + 1))) else (none)))) else (none)) else ((vernierref04_Cut.f k x5).bind fun t101 => (some t101))
def vernierref04_Sub.f (k : Nat) (l0 : List Int) (l1 : List Int) : Option (List Int) := vernierref04_Sub.l0 k l0 l1 ([] : List Int) 0 0
--@ok
def vernierref04_Sub.l0R (k : Nat) (x0 : List Int) (x1 : List Int) (x5 : List Int) (x6 : Int) (x7 : Int) : Option (List Int) := if x7 < (nI x0.length) then (if 0 ≤ x7 then (if x7 < (nI x0.length) then ((vernierref04_digit.f x1 x7).bind fun t100 => (if (wrap64 ((wrap64 ((rd x0 x7) - t100)) - x6)) < 0 then (if x5.length < 17592186044416 then (vernierref04_Sub.l0 k x0 x1 (x5 ++ ([wrap64 ((wrap64 ((wrap64 ((rd x0 x7) - t100)) - x6)) + 16777216)] : List Int)) 1 (wrap64 (x7 + 1))) else (none)) else (if x5.length < 17592186044416 then (vernierref04_Sub.l0 k x0 x1 (x5 ++ ([wrap64 ((wrap64 ((rd x0 x7) - t100)) - x6)] : List Int)) 0 (wrap64 (x7 + 1))) else (none)))) else (none)) else (none)) else ((vernierref04_Cut.f k x5).bind fun t101 => (some t101))
theorem vernierref04_Sub.l0E (k : Nat) (x0 : List Int) (x1 : List Int) (x5 : List Int) (x6 : Int) (x7 : Int) : vernierref04_Sub.l0R k x0 x1 x5 x6 x7 = vernierref04_Sub.l0 (k + 1) x0 x1 x5 x6 x7 := by
  unfold vernierref04_Sub.l0R
  rw [vernierref04_Sub.l0]
  exact iteC (fun h0 => iteC (fun h1 => (if_pos h0).trans (bindC fun _ => iteC (fun h2 => iteC (fun h3 => rfl) (fun h3 => rfl)) (fun h2 => iteC (fun h3 => rfl) (fun h3 => rfl)))) (fun h1 => rfl)) (fun h0 => bindC fun _ => rfl)
noncomputable def vernierref04_Sub.c (k : Nat) : Con := S119.con fun x => vernierref04_Sub.f k x.1 x.2
noncomputable def vernierref04_Sub.G (k : Nat) : List (Go.FuncId × Con) := [(123, vernierref04_digit.c), (149, vernierref04_Cut.c k)]
noncomputable def vernierref04_Sub.cuts : List (Cut (TT S119.sb)) := [⟨[6, 4, 1, 0, 1, 1, 1], [.sc 0 (.rd .i64), .sc 1 (.rd .i64), .lst 5 .i64 3, .sc 6 (.int .i64), .sc 7 (.int .i64)], fun k x => vernierref04_Sub.l0 k x.1 x.2.1 x.2.2.1 x.2.2.2.1 x.2.2.2.2⟩]
theorem vernierref04_Sub.w0 (k : Nat) (x : ET [.sc 0 (.rd .i64), .sc 1 (.rd .i64), .lst 5 .i64 3, .sc 6 (.int .i64), .sc 7 (.int .i64)]) : walk E119 (vernierref04_Sub.G k) (cutsAt k vernierref04_Sub.cuts) (retE E119 Go.Proofs.Try.f119.results.toList S119) 4000 true (stackAt B119 [6, 4, 1, 0, 1, 1, 1]) (mkE [.sc 0 (.rd .i64), .sc 1 (.rd .i64), .lst 5 .i64 3, .sc 6 (.int .i64), .sc 7 (.int .i64)] x St.nil) = vernierref04_Sub.l0 (k + 1) x.1 x.2.1 x.2.2.1 x.2.2.2.1 x.2.2.2.2 := Eq.trans (b := vernierref04_Sub.l0R k x.1 x.2.1 x.2.2.1 x.2.2.2.1 x.2.2.2.2) (by kernel_rfl) (vernierref04_Sub.l0E k x.1 x.2.1 x.2.2.1 x.2.2.2.1 x.2.2.2.2)
theorem vernierref04_Sub.w (k : Nat) (x : TT S119.sa) : walk E119 (vernierref04_Sub.G k) (cutsAt k vernierref04_Sub.cuts) (retE E119 Go.Proofs.Try.f119.results.toList S119) 4000 true [([], .code B119)] (St0 S119 x) = vernierref04_Sub.f k x.1 x.2 := by kernel_rfl
theorem vernierref04_Sub.ok (k : Nat) : FnOk Go.Proofs.Try.prog E119.eT 119 (vernierref04_Sub.c k) := FnOk.walk (E := E119) (body := B119) Go.Proofs.Try.func119 rfl (by rfl) Go.Proofs.Try.ntmps119 S119 rfl (fun k x => vernierref04_Sub.f k x.1 x.2) vernierref04_Sub.G (fun k => ⟨vernierref04_digit.ok, vernierref04_Cut.ok k, trivial⟩) 4000 vernierref04_Sub.cuts ⟨⟨fun _ => rfl, fun k x q h => (vernierref04_Sub.w0 k x).trans h⟩, trivial⟩ (fun k x r h => (vernierref04_Sub.w k x).trans h) k
noncomputable def E84 : En := ⟨Go.Proofs.Try.prog, 62, Go.Proofs.Try.f84.ntmps⟩
noncomputable def S84 : Sig := ⟨[.g 3, .g 3], [.bool, (.rd .i64), (.int .i64), .bool, (.rd .i64), (.int .i64)], false, [.g 3], [.bool, (.rd .i64), (.int .i64)], true⟩
noncomputable def B84 : Go.Code := Go.Proofs.Try.f84.body.get!
def verniertop_plus.f (k : Nat) (a0_0 : Bool) (a0_1 : List Int) (a0_2 : Int) (a1_0 : Bool) (a1_1 : List Int) (a1_2 : Int) : Option (Bool × List Int × Int) := (verniertop_down.f k a0_0 a0_1 a0_2 a1_0 a1_1 a1_2).bind fun t100 => (if (a0_0 == a1_0) = true then ((vernierref04_Add.f k t100.1 t100.2.1).bind fun t101 => (some (a0_0, t101, t100.2.2))) else ((vernierref04_Cmp.f k t100.1 t100.2.1).bind fun t102 => (if t102 ≥ 0 then ((vernierref04_Sub.f k t100.1 t100.2.1).bind fun t103 => (some (a0_0, t103, t100.2.2))) else ((vernierref04_Sub.f k t100.2.1 t100.1).bind fun t104 => (some (a1_0, t104, t100.2.2))))))
--@ok
noncomputable def verniertop_plus.c (k : Nat) : Con := S84.con fun x => verniertop_plus.f k x.1 x.2.1 x.2.2.1 x.2.2.2.1 x.2.2.2.2.1 x.2.2.2.2.2
noncomputable def verniertop_plus.G (k : Nat) : List (Go.FuncId × Con) := [(91, vernierref04_Add.c k), (117, verniertop_down.c k), (118, vernierref04_Cmp.c k), (119, vernierref04_Sub.c k)]
noncomputable def verniertop_plus.cuts : List (Cut (TT S84.sb)) := []
theorem verniertop_plus.w (k : Nat) (x : TT S84.sa) : walk E84 (verniertop_plus.G k) (cutsAt k verniertop_plus.cuts) (retE E84 Go.Proofs.Try.f84.results.toList S84) 4000 true [([], .code B84)] (St0 S84 x) = verniertop_plus.f k x.1 x.2.1 x.2.2.1 x.2.2.2.1 x.2.2.2.2.1 x.2.2.2.2.2 := by kernel_rfl
theorem verniertop_plus.ok (k : Nat) : FnOk Go.Proofs.Try.prog E84.eT 84 (verniertop_plus.c k) := FnOk.walk (E := E84) (body := B84) Go.Proofs.Try.func84 rfl (by rfl) Go.Proofs.Try.ntmps84 S84 rfl (fun k x => verniertop_plus.f k x.1 x.2.1 x.2.2.1 x.2.2.2.1 x.2.2.2.2.1 x.2.2.2.2.2) verniertop_plus.G (fun k => ⟨vernierref04_Add.ok k, verniertop_down.ok k, vernierref04_Cmp.ok k, vernierref04_Sub.ok k, trivial⟩) 4000 verniertop_plus.cuts trivial (fun k x r h => (verniertop_plus.w k x).trans h) k
noncomputable def E120 : En := ⟨Go.Proofs.Try.prog, 62, Go.Proofs.Try.f120.ntmps⟩
noncomputable def S120 : Sig := ⟨[.s, .s], [(.rd .i64), (.rd .i64)], false, [.s], [(.rd .i64)], true⟩
noncomputable def B120 : Go.Code := Go.Proofs.Try.f120.body.get!
mutual
def vernierref04_Mul.j0 : Nat → List Int → List Int → Bool → Option (List Int)
 | 0, _, _, _ => none
 | k + 1, x0, x1, x17 => if x17 = true then (some ([] : List Int)) else (if 0 ≤ (wrap64 ((nI x0.length) + (nI x1.length))) then (if (((wrap64 ((nI x0.length) + (nI x1.length))) : Int).toNat) ≤ 35184372088832 then (vernierref04_Mul.l0 k x0 x1 (List.replicate (((wrap64 ((nI x0.length) + (nI x1.length))) : Int).toNat) 0 : List Int) 0) else (none)) else (none))
def vernierref04_Mul.l0 : Nat → List Int → List Int → List Int → Int → Option (List Int)
 | 0, _, _, _, _ => none
 | k + 1, x0, x1, x5, x6 => if x6 < (nI x0.length) then (vernierref04_Mul.l1 k x0 x1 x5 x6 0 0) else ((vernierref04_Cut.f k x5).bind fun t100 => (some t100))
def vernierref04_Mul.l1 : Nat → List Int → List Int → List Int → Int → Int → Int → Option (List Int)
 | 0, _, _, _, _, _, _ => none
 | k + 1, x0, x1, x5, x6, x7, x8 => if x8 < (nI x1.length) then (if 0 ≤ (wrap64 (x6 + x8)) then (if (wrap64 (x6 + x8)) < (nI x5.length) then (if 0 ≤ x6 then (if x6 < (nI x0.length) then (if 0 ≤ x8 then (vernierref04_Mul.l1 k x0 x1 (x5.set (((wrap64 (x6 + x8)) : Int).toNat) (Int.tmod (wrap64 ((wrap64 ((rd x5 (wrap64 (x6 + x8))) + (wrap64 ((rd x0 x6) * (rd x1 x8))))) + x7)) 16777216)) x6 (wrap64 (Int.tdiv (wrap64 ((wrap64 ((rd x5 (wrap64 (x6 + x8))) + (wrap64 ((rd x0 x6) * (rd x1 x8))))) + x7)) 16777216)) (wrap64 (x8 + 1))) else (none)) else (none)) else (none)) else (none)) else (none)) else (if 0 ≤ (wrap64 (x6 + (nI x1.length))) then (if (wrap64 (x6 + (nI x1.length))) < (nI x5.length) then (vernierref04_Mul.l0 k x0 x1 (x5.set (((wrap64 (x6 + (nI x1.length))) : Int).toNat) x7) (wrap64 (x6 + 1))) else (none)) else (none))
end
def vernierref04_Mul.f (k : Nat) (l0 : List Int) (l1 : List Int) : Option (List Int) := if (nI l0.length) = 0 then (vernierref04_Mul.j0 k l0 l1 true) else (vernierref04_Mul.j0 k l0 l1 ((nI l1.length) == 0))
--@ok
def vernierref04_Mul.l1R (k : Nat) (x0 : List Int) (x1 : List Int) (x5 : List Int) (x6 : Int) (x7 : Int) (x8 : Int) : Option (List Int) := if x8 < (nI x1.length) then (if 0 ≤ (wrap64 (x6 + x8)) then (if (wrap64 (x6 + x8)) < (nI x5.length) then (if 0 ≤ x6 then (if x6 < (nI x0.length) then (if 0 ≤ x8 then (if x8 < (nI x1.length) then (if 0 ≤ (wrap64 (x6 + x8)) then (if (wrap64 (x6 + x8)) < (nI x5.length) then (vernierref04_Mul.l1 k x0 x1 (x5.set (((wrap64 (x6 + x8)) : Int).toNat) (Int.tmod (wrap64 ((wrap64 ((rd x5 (wrap64 (x6 + x8))) + (wrap64 ((rd x0 x6) * (rd x1 x8))))) + x7)) 16777216)) x6 (wrap64 (Int.tdiv (wrap64 ((wrap64 ((rd x5 (wrap64 (x6 + x8))) + (wrap64 ((rd x0 x6) * (rd x1 x8))))) + x7)) 16777216)) (wrap64 (x8 + 1))) else (none)) else (none)) else (none)) else (none)) else (none)) else (none)) else (none)) else (none)) else (if 0 ≤ (wrap64 (x6 + (nI x1.length))) then (if (wrap64 (x6 + (nI x1.length))) < (nI x5.length) then (vernierref04_Mul.l0 k x0 x1 (x5.set (((wrap64 (x6 + (nI x1.length))) : Int).toNat) x7) (wrap64 (x6 + 1))) else (none)) else (none))
theorem vernierref04_Mul.l1E (k : Nat) (x0 : List Int) (x1 : List Int) (x5 : List Int) (x6 : Int) (x7 : Int) (x8 : Int) : vernierref04_Mul.l1R k x0 x1 x5 x6 x7 x8 = vernierref04_Mul.l1 (k + 1) x0 x1 x5 x6 x7 x8 := by
  unfold vernierref04_Mul.l1R
  rw [vernierref04_Mul.l1]
  exact iteC (fun h0 => iteC (fun h1 => iteC (fun h2 => iteC (fun h3 => iteC (fun h4 => iteC (fun h5 => (if_pos h0).trans ((if_pos h1).trans ((if_pos h2).trans (rfl)))) (fun h5 => rfl)) (fun h4 => rfl)) (fun h3 => rfl)) (fun h2 => rfl)) (fun h1 => rfl)) (fun h0 => iteC (fun h1 => iteC (fun h2 => rfl) (fun h2 => rfl)) (fun h1 => rfl))
noncomputable def vernierref04_Mul.c (k : Nat) : Con := S120.con fun x => vernierref04_Mul.f k x.1 x.2
noncomputable def vernierref04_Mul.G (k : Nat) : List (Go.FuncId × Con) := [(149, vernierref04_Cut.c k)]
noncomputable def vernierref04_Mul.cuts : List (Cut (TT S120.sb)) := [⟨[1, 0, 1], [.sc 0 (.rd .i64), .sc 1 (.rd .i64), .sc 17 (.bool)], fun k x => vernierref04_Mul.j0 k x.1 x.2.1 x.2.2⟩, ⟨[6, 4, 1, 0, 1, 1, 1], [.sc 0 (.rd .i64), .sc 1 (.rd .i64), .lst 5 .i64 3, .sc 6 (.int .i64)], fun k x => vernierref04_Mul.l0 k x.1 x.2.1 x.2.2.1 x.2.2.2⟩, ⟨[6, 4, 1, 0, 1, 4, 0, 1, 6, 4, 1, 0, 1, 1, 1], [.sc 0 (.rd .i64), .sc 1 (.rd .i64), .lst 5 .i64 3, .sc 6 (.int .i64), .sc 7 (.int .i64), .sc 8 (.int .i64)], fun k x => vernierref04_Mul.l1 k x.1 x.2.1 x.2.2.1 x.2.2.2.1 x.2.2.2.2.1 x.2.2.2.2.2⟩]
theorem vernierref04_Mul.w0 (k : Nat) (x : ET [.sc 0 (.rd .i64), .sc 1 (.rd .i64), .sc 17 (.bool)]) : walk E120 (vernierref04_Mul.G k) (cutsAt k vernierref04_Mul.cuts) (retE E120 Go.Proofs.Try.f120.results.toList S120) 4000 true (stackAt B120 [1, 0, 1]) (mkE [.sc 0 (.rd .i64), .sc 1 (.rd .i64), .sc 17 (.bool)] x St.nil) = vernierref04_Mul.j0 (k + 1) x.1 x.2.1 x.2.2 := by kernel_rfl
theorem vernierref04_Mul.w1 (k : Nat) (x : ET [.sc 0 (.rd .i64), .sc 1 (.rd .i64), .lst 5 .i64 3, .sc 6 (.int .i64)]) : walk E120 (vernierref04_Mul.G k) (cutsAt k vernierref04_Mul.cuts) (retE E120 Go.Proofs.Try.f120.results.toList S120) 4000 true (stackAt B120 [6, 4, 1, 0, 1, 1, 1]) (mkE [.sc 0 (.rd .i64), .sc 1 (.rd .i64), .lst 5 .i64 3, .sc 6 (.int .i64)] x St.nil) = vernierref04_Mul.l0 (k + 1) x.1 x.2.1 x.2.2.1 x.2.2.2 := by kernel_rfl
theorem vernierref04_Mul.w2 (k : Nat) (x : ET [.sc 0 (.rd .i64), .sc 1 (.rd .i64), .lst 5 .i64 3, .sc 6 (.int .i64), .sc 7 (.int .i64), .sc 8 (.int .i64)]) : walk E120 (vernierref04_Mul.G k) (cutsAt k vernierref04_Mul.cuts) (retE E120 Go.Proofs.Try.f120.results.toList S120) 4000 true (stackAt B120 [6, 4, 1, 0, 1, 4, 0, 1, 6, 4, 1, 0, 1, 1, 1]) (mkE [.sc 0 (.rd .i64), .sc 1 (.rd .i64), .lst 5 .i64 3, .sc 6 (.int .i64), .sc 7 (.int .i64), .sc 8 (.int .i64)] x St.nil) = vernierref04_Mul.l1 (k + 1) x.1 x.2.1 x.2.2.1 x.2.2.2.1 x.2.2.2.2.1 x.2.2.2.2.2 := Eq.trans (b := vernierref04_Mul.l1R k x.1 x.2.1 x.2.2.1 x.2.2.2.1 x.2.2.2.2.1 x.2.2.2.2.2) (by kernel_rfl) (vernierref04_Mul.l1E k x.1 x.2.1 x.2.2.1 x.2.2.2.1 x.2.2.2.2.1 x.2.2.2.2.2)
theorem vernierref04_Mul.w (k : Nat) (x : TT S120.sa) : walk E120 (vernierref04_Mul.G k) (cutsAt k vernierref04_Mul.cuts) (retE E120 Go.Proofs.Try.f120.results.toList S120) 4000 true [([], .code B120)] (St0 S120 x) = vernierref04_Mul.f k x.1 x.2 := by kernel_rfl
theorem vernierref04_Mul.ok (k : Nat) : FnOk Go.Proofs.Try.prog E120.eT 120 (vernierref04_Mul.c k) := FnOk.walk (E := E120) (body := B120) Go.Proofs.Try.func120 rfl (by rfl) Go.Proofs.Try.ntmps120 S120 rfl (fun k x => vernierref04_Mul.f k x.1 x.2) vernierref04_Mul.G (fun k => ⟨vernierref04_Cut.ok k, trivial⟩) 4000 vernierref04_Mul.cuts ⟨⟨fun _ => rfl, fun k x q h => (vernierref04_Mul.w0 k x).trans h⟩, ⟨fun _ => rfl, fun k x q h => (vernierref04_Mul.w1 k x).trans h⟩, ⟨fun _ => rfl, fun k x q h => (vernierref04_Mul.w2 k x).trans h⟩, trivial⟩ (fun k x r h => (vernierref04_Mul.w k x).trans h) k
noncomputable def E85 : En := ⟨Go.Proofs.Try.prog, 62, Go.Proofs.Try.f85.ntmps⟩
noncomputable def S85 : Sig := ⟨[.g 3, .g 3], [.bool, (.rd .i64), (.int .i64), .bool, (.rd .i64), (.int .i64)], false, [.g 3], [.bool, (.rd .i64), (.int .i64)], true⟩
noncomputable def B85 : Go.Code := Go.Proofs.Try.f85.body.get!
def verniertop_times.f (k : Nat) (a0_0 : Bool) (a0_1 : List Int) (a0_2 : Int) (a1_0 : Bool) (a1_1 : List Int) (a1_2 : Int) : Option (Bool × List Int × Int) := (vernierref04_Mul.f k a0_1 a1_1).bind fun t100 => (some (!(a0_0 == a1_0), t100, wrap64 (a0_2 + a1_2)))
--@ok
noncomputable def verniertop_times.c (k : Nat) : Con := S85.con fun x => verniertop_times.f k x.1 x.2.1 x.2.2.1 x.2.2.2.1 x.2.2.2.2.1 x.2.2.2.2.2
noncomputable def verniertop_times.G (k : Nat) : List (Go.FuncId × Con) := [(120, vernierref04_Mul.c k)]
noncomputable def verniertop_times.cuts : List (Cut (TT S85.sb)) := []
theorem verniertop_times.w (k : Nat) (x : TT S85.sa) : walk E85 (verniertop_times.G k) (cutsAt k verniertop_times.cuts) (retE E85 Go.Proofs.Try.f85.results.toList S85) 4000 true [([], .code B85)] (St0 S85 x) = verniertop_times.f k x.1 x.2.1 x.2.2.1 x.2.2.2.1 x.2.2.2.2.1 x.2.2.2.2.2 := by kernel_rfl
theorem verniertop_times.ok (k : Nat) : FnOk Go.Proofs.Try.prog E85.eT 85 (verniertop_times.c k) := FnOk.walk (E := E85) (body := B85) Go.Proofs.Try.func85 rfl (by rfl) Go.Proofs.Try.ntmps85 S85 rfl (fun k x => verniertop_times.f k x.1 x.2.1 x.2.2.1 x.2.2.2.1 x.2.2.2.2.1 x.2.2.2.2.2) verniertop_times.G (fun k => ⟨vernierref04_Mul.ok k, trivial⟩) 4000 verniertop_times.cuts trivial (fun k x r h => (verniertop_times.w k x).trans h) k
noncomputable def E41 : En := ⟨Go.Proofs.Try.prog, 62, Go.Proofs.Try.f41.ntmps⟩
noncomputable def S41 : Sig := ⟨[.s, .g 3, .g 3, .g 3], [(.int .i64), .bool, (.rd .i64), (.int .i64), .bool, (.rd .i64), (.int .i64), .bool, (.rd .i64), (.int .i64)], false, [.g 3], [.bool, (.rd .i64), (.int .i64)], true⟩
noncomputable def B41 : Go.Code := Go.Proofs.Try.f41.body.get!
def verniertop_exact.f (k : Nat) (a0 : Int) (a1_0 : Bool) (a1_1 : List Int) (a1_2 : Int) (a2_0 : Bool) (a2_1 : List Int) (a2_2 : Int) (a3_0 : Bool) (a3_1 : List Int) (a3_2 : Int) : Option (Bool × List Int × Int) := if a0 = 0 then ((verniertop_plus.f k a1_0 a1_1 a1_2 a2_0 a2_1 a2_2).bind fun t100 => (some (t100.1, t100.2.1, t100.2.2))) else (if a0 = 1 then ((verniertop_plus.f k a1_0 a1_1 a1_2 (!a2_0) a2_1 a2_2).bind fun t101 => (some (t101.1, t101.2.1, t101.2.2))) else (if a0 = 2 then ((verniertop_times.f k a1_0 a1_1 a1_2 a2_0 a2_1 a2_2).bind fun t102 => (some (t102.1, t102.2.1, t102.2.2))) else (if a0 = 5 then ((verniertop_times.f k a1_0 a1_1 a1_2 a2_0 a2_1 a2_2).bind fun t103 => ((verniertop_plus.f k t103.1 t103.2.1 t103.2.2 a3_0 a3_1 a3_2).bind fun t104 => (some (t104.1, t104.2.1, t104.2.2)))) else (some (a1_0, a1_1, a1_2)))))
--@ok
noncomputable def verniertop_exact.c (k : Nat) : Con := S41.con fun x => verniertop_exact.f k x.1 x.2.1 x.2.2.1 x.2.2.2.1 x.2.2.2.2.1 x.2.2.2.2.2.1 x.2.2.2.2.2.2.1 x.2.2.2.2.2.2.2.1 x.2.2.2.2.2.2.2.2.1 x.2.2.2.2.2.2.2.2.2
noncomputable def verniertop_exact.G (k : Nat) : List (Go.FuncId × Con) := [(84, verniertop_plus.c k), (85, verniertop_times.c k)]
noncomputable def verniertop_exact.cuts : List (Cut (TT S41.sb)) := []
theorem verniertop_exact.w (k : Nat) (x : TT S41.sa) : walk E41 (verniertop_exact.G k) (cutsAt k verniertop_exact.cuts) (retE E41 Go.Proofs.Try.f41.results.toList S41) 4000 true [([], .code B41)] (St0 S41 x) = verniertop_exact.f k x.1 x.2.1 x.2.2.1 x.2.2.2.1 x.2.2.2.2.1 x.2.2.2.2.2.1 x.2.2.2.2.2.2.1 x.2.2.2.2.2.2.2.1 x.2.2.2.2.2.2.2.2.1 x.2.2.2.2.2.2.2.2.2 := by kernel_rfl
theorem verniertop_exact.ok (k : Nat) : FnOk Go.Proofs.Try.prog E41.eT 41 (verniertop_exact.c k) := FnOk.walk (E := E41) (body := B41) Go.Proofs.Try.func41 rfl (by rfl) Go.Proofs.Try.ntmps41 S41 rfl (fun k x => verniertop_exact.f k x.1 x.2.1 x.2.2.1 x.2.2.2.1 x.2.2.2.2.1 x.2.2.2.2.2.1 x.2.2.2.2.2.2.1 x.2.2.2.2.2.2.2.1 x.2.2.2.2.2.2.2.2.1 x.2.2.2.2.2.2.2.2.2) verniertop_exact.G (fun k => ⟨verniertop_plus.ok k, verniertop_times.ok k, trivial⟩) 4000 verniertop_exact.cuts trivial (fun k x r h => (verniertop_exact.w k x).trans h) k
noncomputable def E86 : En := ⟨Go.Proofs.Try.prog, 62, Go.Proofs.Try.f86.ntmps⟩
noncomputable def S86 : Sig := ⟨[.s], [(.int .u64)], false, [.s], [(.rd .i64)], true⟩
noncomputable def B86 : Go.Code := Go.Proofs.Try.f86.body.get!
def vernierref04_Of.l0 : Nat → Int → List Int → Option (List Int)
 | 0, _, _ => none
 | k + 1, x0, x3 => if x0 > 0 then (if x3.length < 17592186044416 then (vernierref04_Of.l0 k (IntKind.u64.wrap (Int.tdiv x0 16777216)) (x3 ++ ([wrap64 (Int.tmod x0 16777216)] : List Int))) else (none)) else (some x3)
def vernierref04_Of.f (k : Nat) (a0 : Int) : Option (List Int) := vernierref04_Of.l0 k a0 ([] : List Int)
--@ok
noncomputable def vernierref04_Of.c (k : Nat) : Con := S86.con fun x => vernierref04_Of.f k x
noncomputable def vernierref04_Of.G (k : Nat) : List (Go.FuncId × Con) := []
noncomputable def vernierref04_Of.cuts : List (Cut (TT S86.sb)) := [⟨[6, 4, 0, 1, 1], [.sc 0 (.int .u64), .lst 3 .i64 3], fun k x => vernierref04_Of.l0 k x.1 x.2⟩]
theorem vernierref04_Of.w0 (k : Nat) (x : ET [.sc 0 (.int .u64), .lst 3 .i64 3]) : walk E86 (vernierref04_Of.G k) (cutsAt k vernierref04_Of.cuts) (retE E86 Go.Proofs.Try.f86.results.toList S86) 4000 true (stackAt B86 [6, 4, 0, 1, 1]) (mkE [.sc 0 (.int .u64), .lst 3 .i64 3] x St.nil) = vernierref04_Of.l0 (k + 1) x.1 x.2 := by kernel_rfl
theorem vernierref04_Of.w (k : Nat) (x : TT S86.sa) : walk E86 (vernierref04_Of.G k) (cutsAt k vernierref04_Of.cuts) (retE E86 Go.Proofs.Try.f86.results.toList S86) 4000 true [([], .code B86)] (St0 S86 x) = vernierref04_Of.f k x := by kernel_rfl
theorem vernierref04_Of.ok (k : Nat) : FnOk Go.Proofs.Try.prog E86.eT 86 (vernierref04_Of.c k) := FnOk.walk (E := E86) (body := B86) Go.Proofs.Try.func86 rfl (by rfl) Go.Proofs.Try.ntmps86 S86 rfl (fun k x => vernierref04_Of.f k x) vernierref04_Of.G (fun k => trivial) 4000 vernierref04_Of.cuts ⟨⟨fun _ => rfl, fun k x q h => (vernierref04_Of.w0 k x).trans h⟩, trivial⟩ (fun k x r h => (vernierref04_Of.w k x).trans h) k
noncomputable def E42 : En := ⟨Go.Proofs.Try.prog, 62, Go.Proofs.Try.f42.ntmps⟩
noncomputable def S42 : Sig := ⟨[.g 4], [(.int .i64), .bool, (.int .i64), (.int .u64)], false, [.g 3], [.bool, (.rd .i64), (.int .i64)], true⟩
noncomputable def B42 : Go.Code := Go.Proofs.Try.f42.body.get!
def verniertop_valOf.f (k : Nat) (a0_0 : Int) (a0_1 : Bool) (a0_2 : Int) (a0_3 : Int) : Option (Bool × List Int × Int) := if a0_0 = 1 then ((vernierref04_Of.f k a0_3).bind fun t100 => (some (a0_1, t100, wrap64 (a0_2 - 63)))) else (some (false, ([] : List Int), 0))
--@ok
noncomputable def verniertop_valOf.c (k : Nat) : Con := S42.con fun x => verniertop_valOf.f k x.1 x.2.1 x.2.2.1 x.2.2.2
noncomputable def verniertop_valOf.G (k : Nat) : List (Go.FuncId × Con) := [(86, vernierref04_Of.c k)]
noncomputable def verniertop_valOf.cuts : List (Cut (TT S42.sb)) := []
theorem verniertop_valOf.w (k : Nat) (x : TT S42.sa) : walk E42 (verniertop_valOf.G k) (cutsAt k verniertop_valOf.cuts) (retE E42 Go.Proofs.Try.f42.results.toList S42) 4000 true [([], .code B42)] (St0 S42 x) = verniertop_valOf.f k x.1 x.2.1 x.2.2.1 x.2.2.2 := by kernel_rfl
theorem verniertop_valOf.ok (k : Nat) : FnOk Go.Proofs.Try.prog E42.eT 42 (verniertop_valOf.c k) := FnOk.walk (E := E42) (body := B42) Go.Proofs.Try.func42 rfl (by rfl) Go.Proofs.Try.ntmps42 S42 rfl (fun k x => verniertop_valOf.f k x.1 x.2.1 x.2.2.1 x.2.2.2) verniertop_valOf.G (fun k => ⟨vernierref04_Of.ok k, trivial⟩) 4000 verniertop_valOf.cuts trivial (fun k x r h => (verniertop_valOf.w k x).trans h) k
noncomputable def E43 : En := ⟨Go.Proofs.Try.prog, 62, Go.Proofs.Try.f43.ntmps⟩
noncomputable def S43 : Sig := ⟨[.g 3], [.bool, (.rd .i64), (.int .i64)], false, [.s], [(.int .i64)], false⟩
noncomputable def B43 : Go.Code := Go.Proofs.Try.f43.body.get!
def verniertop_sign.f (a0_0 : Bool) (a0_1 : List Int) (a0_2 : Int) : Option (Int) := if (nI a0_1.length) = 0 then (some 0) else (if a0_0 = true then (some (-1)) else (some 1))
--@ok
noncomputable def verniertop_sign.c : Con := S43.con fun x => verniertop_sign.f x.1 x.2.1 x.2.2
noncomputable def verniertop_sign.G (k : Nat) : List (Go.FuncId × Con) := []
noncomputable def verniertop_sign.cuts : List (Cut (TT S43.sb)) := []
theorem verniertop_sign.w (k : Nat) (x : TT S43.sa) : walk E43 (verniertop_sign.G k) (cutsAt k verniertop_sign.cuts) (retE E43 Go.Proofs.Try.f43.results.toList S43) 4000 true [([], .code B43)] (St0 S43 x) = verniertop_sign.f x.1 x.2.1 x.2.2 := by kernel_rfl
theorem verniertop_sign.ok : FnOk Go.Proofs.Try.prog E43.eT 43 (verniertop_sign.c) := FnOk.walk (E := E43) (body := B43) Go.Proofs.Try.func43 rfl (by rfl) Go.Proofs.Try.ntmps43 S43 rfl (fun k x => verniertop_sign.f x.1 x.2.1 x.2.2) verniertop_sign.G (fun k => trivial) 4000 verniertop_sign.cuts trivial (fun k x r h => (verniertop_sign.w k x).trans h) 0
noncomputable def E44 : En := ⟨Go.Proofs.Try.prog, 62, Go.Proofs.Try.f44.ntmps⟩
noncomputable def S44 : Sig := ⟨[.s, .s], [(.int .i64), (.int .u64)], false, [.s], [(.int .u64)], false⟩
noncomputable def B44 : Go.Code := Go.Proofs.Try.f44.body.get!
def vernierref06_Neg.f (k : Nat) (a0 : Int) (a1 : Int) : Option (Int) := (vernierref06_Fold.f k a0 (IntKind.u64.wrap (-a1))).bind fun t100 => (some t100)
--@ok
noncomputable def vernierref06_Neg.c (k : Nat) : Con := S44.con fun x => vernierref06_Neg.f k x.1 x.2
noncomputable def vernierref06_Neg.G (k : Nat) : List (Go.FuncId × Con) := [(36, vernierref06_Fold.c k)]
noncomputable def vernierref06_Neg.cuts : List (Cut (TT S44.sb)) := []
theorem vernierref06_Neg.w (k : Nat) (x : TT S44.sa) : walk E44 (vernierref06_Neg.G k) (cutsAt k vernierref06_Neg.cuts) (retE E44 Go.Proofs.Try.f44.results.toList S44) 4000 true [([], .code B44)] (St0 S44 x) = vernierref06_Neg.f k x.1 x.2 := by kernel_rfl
theorem vernierref06_Neg.ok (k : Nat) : FnOk Go.Proofs.Try.prog E44.eT 44 (vernierref06_Neg.c k) := FnOk.walk (E := E44) (body := B44) Go.Proofs.Try.func44 rfl (by rfl) Go.Proofs.Try.ntmps44 S44 rfl (fun k x => vernierref06_Neg.f k x.1 x.2) vernierref06_Neg.G (fun k => ⟨vernierref06_Fold.ok k, trivial⟩) 4000 vernierref06_Neg.cuts trivial (fun k x r h => (vernierref06_Neg.w k x).trans h) k
noncomputable def E87 : En := ⟨Go.Proofs.Try.prog, 62, Go.Proofs.Try.f87.ntmps⟩
noncomputable def S87 : Sig := ⟨[.g 3, .g 3], [.bool, (.rd .i64), (.int .i64), .bool, (.rd .i64), (.int .i64)], false, [.s], [(.int .i64)], false⟩
noncomputable def B87 : Go.Code := Go.Proofs.Try.f87.body.get!
def verniertop_size.f (k : Nat) (a0_0 : Bool) (a0_1 : List Int) (a0_2 : Int) (a1_0 : Bool) (a1_1 : List Int) (a1_2 : Int) : Option (Int) := (verniertop_down.f k a0_0 a0_1 a0_2 a1_0 a1_1 a1_2).bind fun t100 => ((vernierref04_Cmp.f k t100.1 t100.2.1).bind fun t101 => (some t101))
--@ok
noncomputable def verniertop_size.c (k : Nat) : Con := S87.con fun x => verniertop_size.f k x.1 x.2.1 x.2.2.1 x.2.2.2.1 x.2.2.2.2.1 x.2.2.2.2.2
noncomputable def verniertop_size.G (k : Nat) : List (Go.FuncId × Con) := [(117, verniertop_down.c k), (118, vernierref04_Cmp.c k)]
noncomputable def verniertop_size.cuts : List (Cut (TT S87.sb)) := []
theorem verniertop_size.w (k : Nat) (x : TT S87.sa) : walk E87 (verniertop_size.G k) (cutsAt k verniertop_size.cuts) (retE E87 Go.Proofs.Try.f87.results.toList S87) 4000 true [([], .code B87)] (St0 S87 x) = verniertop_size.f k x.1 x.2.1 x.2.2.1 x.2.2.2.1 x.2.2.2.2.1 x.2.2.2.2.2 := by kernel_rfl
theorem verniertop_size.ok (k : Nat) : FnOk Go.Proofs.Try.prog E87.eT 87 (verniertop_size.c k) := FnOk.walk (E := E87) (body := B87) Go.Proofs.Try.func87 rfl (by rfl) Go.Proofs.Try.ntmps87 S87 rfl (fun k x => verniertop_size.f k x.1 x.2.1 x.2.2.1 x.2.2.2.1 x.2.2.2.2.1 x.2.2.2.2.2) verniertop_size.G (fun k => ⟨verniertop_down.ok k, vernierref04_Cmp.ok k, trivial⟩) 4000 verniertop_size.cuts trivial (fun k x r h => (verniertop_size.w k x).trans h) k
end Go.Proofs.Ythofoolgbngobaa.Fn
set_option maxRecDepth 100000
set_option linter.unusedVariables false
noncomputable section
namespace Go.Proofs.Ythofoolgbngobaa.Fn
open Go Go.RowKit Go.Proofs.Ythofoolgbngobaa.Ab
noncomputable def E45 : En := ⟨Go.Proofs.Try.prog, 62, Go.Proofs.Try.f45.ntmps⟩
noncomputable def S45 : Sig := ⟨[.s, .g 3, .g 3, .g 3], [(.int .i64), .bool, (.rd .i64), (.int .i64), .bool, (.rd .i64), (.int .i64), .bool, (.rd .i64), (.int .i64)], false, [.s], [(.int .i64)], false⟩
noncomputable def B45 : Go.Code := Go.Proofs.Try.f45.body.get!
def verniertop_beside.f (k : Nat) (a0 : Int) (a1_0 : Bool) (a1_1 : List Int) (a1_2 : Int) (a2_0 : Bool) (a2_1 : List Int) (a2_2 : Int) (a3_0 : Bool) (a3_1 : List Int) (a3_2 : Int) : Option (Int) := if a0 = 3 then ((verniertop_times.f k a3_0 a3_1 a3_2 a2_0 a2_1 a2_2).bind fun t100 => ((verniertop_size.f k a1_0 a1_1 a1_2 t100.1 t100.2.1 t100.2.2).bind fun t101 => (some t101))) else (if a0 = 4 then ((verniertop_times.f k a3_0 a3_1 a3_2 a3_0 a3_1 a3_2).bind fun t102 => ((verniertop_size.f k a1_0 a1_1 a1_2 t102.1 t102.2.1 t102.2.2).bind fun t103 => (some t103))) else ((verniertop_size.f k a1_0 a1_1 a1_2 a3_0 a3_1 a3_2).bind fun t104 => (some t104)))
--@ok
noncomputable def verniertop_beside.c (k : Nat) : Con := S45.con fun x => verniertop_beside.f k x.1 x.2.1 x.2.2.1 x.2.2.2.1 x.2.2.2.2.1 x.2.2.2.2.2.1 x.2.2.2.2.2.2.1 x.2.2.2.2.2.2.2.1 x.2.2.2.2.2.2.2.2.1 x.2.2.2.2.2.2.2.2.2
noncomputable def verniertop_beside.G (k : Nat) : List (Go.FuncId × Con) := [(85, verniertop_times.c k), (87, verniertop_size.c k)]
noncomputable def verniertop_beside.cuts : List (Cut (TT S45.sb)) := []
theorem verniertop_beside.w (k : Nat) (x : TT S45.sa) : walk E45 (verniertop_beside.G k) (cutsAt k verniertop_beside.cuts) (retE E45 Go.Proofs.Try.f45.results.toList S45) 4000 true [([], .code B45)] (St0 S45 x) = verniertop_beside.f k x.1 x.2.1 x.2.2.1 x.2.2.2.1 x.2.2.2.2.1 x.2.2.2.2.2.1 x.2.2.2.2.2.2.1 x.2.2.2.2.2.2.2.1 x.2.2.2.2.2.2.2.2.1 x.2.2.2.2.2.2.2.2.2 := by kernel_rfl
theorem verniertop_beside.ok (k : Nat) : FnOk Go.Proofs.Try.prog E45.eT 45 (verniertop_beside.c k) := FnOk.walk (E := E45) (body := B45) Go.Proofs.Try.func45 rfl (by rfl) Go.Proofs.Try.ntmps45 S45 rfl (fun k x => verniertop_beside.f k x.1 x.2.1 x.2.2.1 x.2.2.2.1 x.2.2.2.2.1 x.2.2.2.2.2.1 x.2.2.2.2.2.2.1 x.2.2.2.2.2.2.2.1 x.2.2.2.2.2.2.2.2.1 x.2.2.2.2.2.2.2.2.2) verniertop_beside.G (fun k => ⟨verniertop_times.ok k, verniertop_size.ok k, trivial⟩) 4000 verniertop_beside.cuts trivial (fun k x r h => (verniertop_beside.w k x).trans h) k
noncomputable def E46 : En := ⟨Go.Proofs.Try.prog, 62, Go.Proofs.Try.f46.ntmps⟩
noncomputable def S46 : Sig := ⟨[.s, .s], [(.int .i64), (.int .u64)], false, [.g 3], [.bool, (.rd .i64), (.int .i64)], true⟩
noncomputable def B46 : Go.Code := Go.Proofs.Try.f46.body.get!
mutual
def verniertop_tie.l0 : Nat → ByteArray → Int → Option (Bool × List Int × Int)
 | 0, _, _ => none
 | k + 1, x5, x6 => if x6 < (nI x5.size) then (if 0 ≤ x6 then (if 0 < (nI x5.size) then (if (bt x5 x6) = (bt x5 0) then (verniertop_tie.l0 k x5 (wrap64 (x6 + 1))) else (verniertop_tie.j1 k x5 x6)) else (none)) else (none)) else (verniertop_tie.j1 k x5 x6)
def verniertop_tie.j1 : Nat → ByteArray → Int → Option (Bool × List Int × Int)
 | 0, _, _ => none
 | k + 1, x5, x6 => if 0 < (nI x5.size) then (if (bt x5 0) = 49 then (verniertop_tie.j2 k x5 x6 (wrap64 (x6 - 1))) else (verniertop_tie.j2 k x5 x6 (wrap64 (-x6)))) else (none)
def verniertop_tie.j2 : Nat → ByteArray → Int → Int → Option (Bool × List Int × Int)
 | 0, _, _, _ => none
 | k + 1, x5, x6, x7 => if x6 < (nI x5.size) then (if 0 ≤ (wrap64 (x6 + 1)) then (if (wrap64 (x6 + 1)) ≤ (nI x5.size) then (verniertop_tie.j3 k x7 (x5.extract (((wrap64 (x6 + 1)) : Int).toNat) x5.size)) else (none)) else (none)) else (verniertop_tie.j3 k x7 (⟨#[]⟩ : ByteArray))
def verniertop_tie.j3 : Nat → Int → ByteArray → Option (Bool × List Int × Int)
 | 0, _, _ => none
 | k + 1, x7, x8 => if (x8.size + 2) ≤ 9223372036854775807 then (if 2 ≤ (nI ((x8 ++ (⟨#[48, 48]⟩ : ByteArray)).size)) then ((vernierref01_Number.f k ((x8 ++ (⟨#[48, 48]⟩ : ByteArray)).extract 0 2)).bind fun t101 => (verniertop_tie.l1 k x8 (wrap64 ((wrap64 (4 * x7)) + (wrap64 t101))) ([1] : List Int) 2)) else (none)) else (none)
def verniertop_tie.l1 : Nat → ByteArray → Int → List Int → Int → Option (Bool × List Int × Int)
 | 0, _, _, _, _ => none
 | k + 1, x8, x10, x11, x12 => if x12 < (nI x8.size) then ((vernierref04_Shl.f k x11 1).bind fun t102 => (if 0 ≤ x12 then (if (bt x8 x12) = 49 then ((vernierref04_Add.f k t102 ([1] : List Int)).bind fun t103 => (verniertop_tie.l1 k x8 (wrap64 (x10 - 1)) t103 (wrap64 (x12 + 1)))) else (verniertop_tie.l1 k x8 (wrap64 (x10 - 1)) t102 (wrap64 (x12 + 1)))) else (none))) else (some (false, x11, x10))
end
def verniertop_tie.f (k : Nat) (a0 : Int) (a1 : Int) : Option (Bool × List Int × Int) := (vernierref01_Text.f k a1 (wrap64 (a0 - 1))).bind fun t100 => (if t100.size < 9223372036854775807 then (verniertop_tie.l0 k (t100 ++ (⟨#[49]⟩ : ByteArray)) 0) else (none))
--@ok
def verniertop_tie.l0R (k : Nat) (x5 : ByteArray) (x6 : Int) : Option (Bool × List Int × Int) := if x6 < (nI x5.size) then (if 0 ≤ x6 then (if x6 < (nI x5.size) then (if 0 < (nI x5.size) then (if (bt x5 x6) = (bt x5 0) then (verniertop_tie.l0 k x5 (wrap64 (x6 + 1))) else (verniertop_tie.j1 k x5 x6)) else (none)) else (none)) else (none)) else (verniertop_tie.j1 k x5 x6)
theorem verniertop_tie.l0E (k : Nat) (x5 : ByteArray) (x6 : Int) : verniertop_tie.l0R k x5 x6 = verniertop_tie.l0 (k + 1) x5 x6 := by
  unfold verniertop_tie.l0R
  rw [verniertop_tie.l0]
  exact iteC (fun h0 => iteC (fun h1 => (if_pos h0).trans (iteC (fun h2 => iteC (fun h3 => rfl) (fun h3 => rfl)) (fun h2 => rfl))) (fun h1 => rfl)) (fun h0 => rfl)
def verniertop_tie.l1R (k : Nat) (x8 : ByteArray) (x10 : Int) (x11 : List Int) (x12 : Int) : Option (Bool × List Int × Int) := if x12 < (nI x8.size) then ((vernierref04_Shl.f k x11 1).bind fun t102 => (if 0 ≤ x12 then (if x12 < (nI x8.size) then (if (bt x8 x12) = 49 then ((vernierref04_Add.f k t102 ([1] : List Int)).bind fun t103 => (verniertop_tie.l1 k x8 (wrap64 (x10 - 1)) t103 (wrap64 (x12 + 1)))) else (verniertop_tie.l1 k x8 (wrap64 (x10 - 1)) t102 (wrap64 (x12 + 1)))) else (none)) else (none))) else (some (false, x11, x10))
theorem verniertop_tie.l1E (k : Nat) (x8 : ByteArray) (x10 : Int) (x11 : List Int) (x12 : Int) : verniertop_tie.l1R k x8 x10 x11 x12 = verniertop_tie.l1 (k + 1) x8 x10 x11 x12 := by
  unfold verniertop_tie.l1R
  rw [verniertop_tie.l1]
  exact iteC (fun h0 => bindC fun _ => iteC (fun h1 => (if_pos h0).trans (iteC (fun h2 => bindC fun _ => rfl) (fun h2 => rfl))) (fun h1 => rfl)) (fun h0 => rfl)
noncomputable def verniertop_tie.c (k : Nat) : Con := S46.con fun x => verniertop_tie.f k x.1 x.2
noncomputable def verniertop_tie.G (k : Nat) : List (Go.FuncId × Con) := [(88, vernierref01_Text.c k), (89, vernierref01_Number.c k), (90, vernierref04_Shl.c k), (91, vernierref04_Add.c k)]
noncomputable def verniertop_tie.cuts : List (Cut (TT S46.sb)) := [⟨[6, 4, 0, 1, 1, 1], [.sc 5 (.str), .sc 6 (.int .i64), .box 4 74 [.bool, .rd .i64, .int .i64]], fun k x => verniertop_tie.l0 k x.1 x.2.1⟩, ⟨[1, 1, 1, 1], [.sc 5 (.str), .sc 6 (.int .i64), .box 4 74 [.bool, .rd .i64, .int .i64]], fun k x => verniertop_tie.j1 k x.1 x.2.1⟩, ⟨[1, 1, 1, 1, 1, 1], [.sc 5 (.str), .sc 6 (.int .i64), .sc 7 (.int .i64), .box 4 74 [.bool, .rd .i64, .int .i64]], fun k x => verniertop_tie.j2 k x.1 x.2.1 x.2.2.1⟩, ⟨[1, 1, 1, 1, 1, 1, 1, 1], [.sc 7 (.int .i64), .sc 8 (.str), .box 4 74 [.bool, .rd .i64, .int .i64]], fun k x => verniertop_tie.j3 k x.1 x.2.1⟩, ⟨[6, 4, 1, 0, 1, 1, 1, 1, 1, 1, 1, 1, 1, 1, 1], [.sc 8 (.str), .sc 10 (.int .i64), .sc 11 (.rd .i64), .sc 12 (.int .i64), .box 4 74 [.bool, .rd .i64, .int .i64]], fun k x => verniertop_tie.l1 k x.1 x.2.1 x.2.2.1 x.2.2.2.1⟩]
theorem verniertop_tie.w0 (k : Nat) (x : ET [.sc 5 (.str), .sc 6 (.int .i64), .box 4 74 [.bool, .rd .i64, .int .i64]]) : walk E46 (verniertop_tie.G k) (cutsAt k verniertop_tie.cuts) (retE E46 Go.Proofs.Try.f46.results.toList S46) 4000 true (stackAt B46 [6, 4, 0, 1, 1, 1]) (mkE [.sc 5 (.str), .sc 6 (.int .i64), .box 4 74 [.bool, .rd .i64, .int .i64]] x St.nil) = verniertop_tie.l0 (k + 1) x.1 x.2.1 := Eq.trans (b := verniertop_tie.l0R k x.1 x.2.1) (by kernel_rfl) (verniertop_tie.l0E k x.1 x.2.1)
theorem verniertop_tie.w1 (k : Nat) (x : ET [.sc 5 (.str), .sc 6 (.int .i64), .box 4 74 [.bool, .rd .i64, .int .i64]]) : walk E46 (verniertop_tie.G k) (cutsAt k verniertop_tie.cuts) (retE E46 Go.Proofs.Try.f46.results.toList S46) 4000 true (stackAt B46 [1, 1, 1, 1]) (mkE [.sc 5 (.str), .sc 6 (.int .i64), .box 4 74 [.bool, .rd .i64, .int .i64]] x St.nil) = verniertop_tie.j1 (k + 1) x.1 x.2.1 := by kernel_rfl
theorem verniertop_tie.w2 (k : Nat) (x : ET [.sc 5 (.str), .sc 6 (.int .i64), .sc 7 (.int .i64), .box 4 74 [.bool, .rd .i64, .int .i64]]) : walk E46 (verniertop_tie.G k) (cutsAt k verniertop_tie.cuts) (retE E46 Go.Proofs.Try.f46.results.toList S46) 4000 true (stackAt B46 [1, 1, 1, 1, 1, 1]) (mkE [.sc 5 (.str), .sc 6 (.int .i64), .sc 7 (.int .i64), .box 4 74 [.bool, .rd .i64, .int .i64]] x St.nil) = verniertop_tie.j2 (k + 1) x.1 x.2.1 x.2.2.1 := by kernel_rfl
theorem verniertop_tie.w3 (k : Nat) (x : ET [.sc 7 (.int .i64), .sc 8 (.str), .box 4 74 [.bool, .rd .i64, .int .i64]]) : walk E46 (verniertop_tie.G k) (cutsAt k verniertop_tie.cuts) (retE E46 Go.Proofs.Try.f46.results.toList S46) 4000 true (stackAt B46 [1, 1, 1, 1, 1, 1, 1, 1]) (mkE [.sc 7 (.int .i64), .sc 8 (.str), .box 4 74 [.bool, .rd .i64, .int .i64]] x St.nil) = verniertop_tie.j3 (k + 1) x.1 x.2.1 := by kernel_rfl
theorem verniertop_tie.w4 (k : Nat) (x : ET [.sc 8 (.str), .sc 10 (.int .i64), .sc 11 (.rd .i64), .sc 12 (.int .i64), .box 4 74 [.bool, .rd .i64, .int .i64]]) : walk E46 (verniertop_tie.G k) (cutsAt k verniertop_tie.cuts) (retE E46 Go.Proofs.Try.f46.results.toList S46) 4000 true (stackAt B46 [6, 4, 1, 0, 1, 1, 1, 1, 1, 1, 1, 1, 1, 1, 1]) (mkE [.sc 8 (.str), .sc 10 (.int .i64), .sc 11 (.rd .i64), .sc 12 (.int .i64), .box 4 74 [.bool, .rd .i64, .int .i64]] x St.nil) = verniertop_tie.l1 (k + 1) x.1 x.2.1 x.2.2.1 x.2.2.2.1 := Eq.trans (b := verniertop_tie.l1R k x.1 x.2.1 x.2.2.1 x.2.2.2.1) (by kernel_rfl) (verniertop_tie.l1E k x.1 x.2.1 x.2.2.1 x.2.2.2.1)
theorem verniertop_tie.w (k : Nat) (x : TT S46.sa) : walk E46 (verniertop_tie.G k) (cutsAt k verniertop_tie.cuts) (retE E46 Go.Proofs.Try.f46.results.toList S46) 4000 true [([], .code B46)] (St0 S46 x) = verniertop_tie.f k x.1 x.2 := by kernel_rfl
theorem verniertop_tie.ok (k : Nat) : FnOk Go.Proofs.Try.prog E46.eT 46 (verniertop_tie.c k) := FnOk.walk (E := E46) (body := B46) Go.Proofs.Try.func46 rfl (by rfl) Go.Proofs.Try.ntmps46 S46 rfl (fun k x => verniertop_tie.f k x.1 x.2) verniertop_tie.G (fun k => ⟨vernierref01_Text.ok k, vernierref01_Number.ok k, vernierref04_Shl.ok k, vernierref04_Add.ok k, trivial⟩) 4000 verniertop_tie.cuts ⟨⟨fun _ => rfl, fun k x q h => (verniertop_tie.w0 k x).trans h⟩, ⟨fun _ => rfl, fun k x q h => (verniertop_tie.w1 k x).trans h⟩, ⟨fun _ => rfl, fun k x q h => (verniertop_tie.w2 k x).trans h⟩, ⟨fun _ => rfl, fun k x q h => (verniertop_tie.w3 k x).trans h⟩, ⟨fun _ => rfl, fun k x q h => (verniertop_tie.w4 k x).trans h⟩, trivial⟩ (fun k x r h => (verniertop_tie.w k x).trans h) k
noncomputable def E6 : En := ⟨Go.Proofs.Try.prog, 62, Go.Proofs.Try.f6.ntmps⟩
noncomputable def S6 : Sig := ⟨[.s, .s, .s, .s, .s], [(.int .i64), (.int .i64), (.int .u64), (.int .u64), (.int .u64)], false, [.s], [.bool], false⟩
noncomputable def B6 : Go.Code := Go.Proofs.Try.f6.body.get!
mutual
def verniertop_TopNearest.j0 : Nat → Bool → Option (Bool)
 | 0, _ => none
 | k + 1, x10 => some x10
def verniertop_TopNearest.j1 : Nat → Int → Int → Int → Int → Bool → Int → Int → Int → Bool → Int → Int → Int → Bool → Int → Int → Option (Bool)
 | 0, _, _, _, _, _, _, _, _, _, _, _, _, _, _, _ => none
 | k + 1, x0, x11, x12, x15000, x15001, x15002, x15003, x16000, x16001, x16002, x16003, x17000, x17001, x17002, x17003 => if x11 = 5 then (verniertop_TopNearest.j2 k x0 x11 x12 x15000 x15001 x15002 x15003 x16000 x16001 x16002 x16003 x17000 x17001 x17002 x17003) else (verniertop_TopNearest.j2 k x0 x11 x12 x15000 x15001 x15002 x15003 x16000 x16001 x16002 x16003 0 false 0 0)
def verniertop_TopNearest.j2 : Nat → Int → Int → Int → Int → Bool → Int → Int → Int → Bool → Int → Int → Int → Bool → Int → Int → Option (Bool)
 | 0, _, _, _, _, _, _, _, _, _, _, _, _, _, _, _ => none
 | k + 1, x0, x11, x12, x15000, x15001, x15002, x15003, x16000, x16001, x16002, x16003, x17000, x17001, x17002, x17003 => (vernierref05_Power.f k (wrap64 (x0 - 1))).bind fun t106 => (if x15000 = 2 then (verniertop_TopNearest.j3 k x0 x11 x12 t106 true x15000 x15001 x15002 x15003 x16000 x16001 x16002 x16003 x17000 x17001 x17002 x17003) else (if x16000 = 2 then (verniertop_TopNearest.j3 k x0 x11 x12 t106 true x15000 x15001 x15002 x15003 x16000 x16001 x16002 x16003 x17000 x17001 x17002 x17003) else (if x17000 = 2 then (verniertop_TopNearest.j3 k x0 x11 x12 t106 true x15000 x15001 x15002 x15003 x16000 x16001 x16002 x16003 x17000 x17001 x17002 x17003) else (if x11 = 3 then (if x16000 = 0 then (verniertop_TopNearest.j3 k x0 x11 x12 t106 true x15000 x15001 x15002 x15003 x16000 x16001 x16002 x16003 x17000 x17001 x17002 x17003) else (if x11 = 4 then (verniertop_TopNearest.j3 k x0 x11 x12 t106 x15001 x15000 x15001 x15002 x15003 x16000 x16001 x16002 x16003 x17000 x17001 x17002 x17003) else (verniertop_TopNearest.j3 k x0 x11 x12 t106 false x15000 x15001 x15002 x15003 x16000 x16001 x16002 x16003 x17000 x17001 x17002 x17003))) else (if x11 = 4 then (verniertop_TopNearest.j3 k x0 x11 x12 t106 x15001 x15000 x15001 x15002 x15003 x16000 x16001 x16002 x16003 x17000 x17001 x17002 x17003) else (verniertop_TopNearest.j3 k x0 x11 x12 t106 false x15000 x15001 x15002 x15003 x16000 x16001 x16002 x16003 x17000 x17001 x17002 x17003))))))
def verniertop_TopNearest.j3 : Nat → Int → Int → Int → Int → Bool → Int → Bool → Int → Int → Int → Bool → Int → Int → Int → Bool → Int → Int → Option (Bool)
 | 0, _, _, _, _, _, _, _, _, _, _, _, _, _, _, _, _, _ => none
 | k + 1, x0, x11, x12, x18, x96, x15000, x15001, x15002, x15003, x16000, x16001, x16002, x16003, x17000, x17001, x17002, x17003 => if x96 = true then (some (x12 == x18)) else ((verniertop_valOf.f k x15000 x15001 x15002 x15003).bind fun t107 => ((verniertop_valOf.f k x16000 x16001 x16002 x16003).bind fun t108 => ((verniertop_valOf.f k x17000 x17001 x17002 x17003).bind fun t109 => ((verniertop_exact.f k x11 t107.1 t107.2.1 t107.2.2 t108.1 t108.2.1 t108.2.2 t109.1 t109.2.1 t109.2.2).bind fun t110 => ((verniertop_valOf.f k x16000 x16001 x16002 x16003).bind fun t111 => ((verniertop_sign.f t110.1 t110.2.1 t110.2.2).bind fun t112 => (if x11 = 3 then ((verniertop_sign.f t111.1 t111.2.1 t111.2.2).bind fun t113 => (verniertop_TopNearest.j4 k x0 x11 x12 x18 (wrap64 (t112 * t113)) t110.1 t110.2.1 t110.2.2 t111.1 t111.2.1 t111.2.2)) else (verniertop_TopNearest.j4 k x0 x11 x12 x18 t112 t110.1 t110.2.1 t110.2.2 t111.1 t111.2.1 t111.2.2))))))))
def verniertop_TopNearest.j4 : Nat → Int → Int → Int → Int → Int → Bool → List Int → Int → Bool → List Int → Int → Option (Bool)
 | 0, _, _, _, _, _, _, _, _, _, _, _ => none
 | k + 1, x0, x11, x12, x18, x21, x19000, x19001, x19002, x20000, x20001, x20002 => if x21 = 0 then (some (x12 == 0)) else (if x12 = 0 then (verniertop_TopNearest.j5 k x0 x11 x12 x18 x21 true x19000 x19001 x19002 x20000 x20001 x20002) else (if x12 = x18 then (verniertop_TopNearest.j5 k x0 x11 x12 x18 x21 true x19000 x19001 x19002 x20000 x20001 x20002) else (verniertop_TopNearest.j5 k x0 x11 x12 x18 x21 (!((decide (x12 > x18)) == (decide (x21 < 0)))) x19000 x19001 x19002 x20000 x20001 x20002)))
def verniertop_TopNearest.j5 : Nat → Int → Int → Int → Int → Int → Bool → Bool → List Int → Int → Bool → List Int → Int → Option (Bool)
 | 0, _, _, _, _, _, _, _, _, _, _, _, _ => none
 | k + 1, x0, x11, x12, x18, x21, x136, x19000, x19001, x19002, x20000, x20001, x20002 => if x136 = true then (some false) else (if x21 < 0 then ((vernierref06_Neg.f k x0 x12).bind fun t114 => (verniertop_TopNearest.j6 k x0 x11 t114 x18 x19000 x19001 x19002 x20000 x20001 x20002)) else (verniertop_TopNearest.j6 k x0 x11 x12 x18 x19000 x19001 x19002 x20000 x20001 x20002))
def verniertop_TopNearest.j6 : Nat → Int → Int → Int → Int → Bool → List Int → Int → Bool → List Int → Int → Option (Bool)
 | 0, _, _, _, _, _, _, _, _, _, _ => none
 | k + 1, x0, x11, x12, x18, x19000, x19001, x19002, x20000, x20001, x20002 => if x12 < (IntKind.u64.wrap (x18 - 1)) then ((verniertop_tie.f k x0 x12).bind fun t115 => ((verniertop_beside.f k x11 x19000 x19001 x19002 x20000 x20001 x20002 t115.1 t115.2.1 t115.2.2).bind fun t116 => (if t116 > 0 then (some false) else (if t116 = 0 then (if (Int.tmod x12 2) = 0 then (verniertop_TopNearest.j7 k x0 x11 x12 ((Int.tmod x12 2) == 0) x19000 x19001 x19002 x20000 x20001 x20002) else (some false)) else (verniertop_TopNearest.j7 k x0 x11 x12 ((Int.tmod x12 2) == 0) x19000 x19001 x19002 x20000 x20001 x20002))))) else (verniertop_TopNearest.j7 k x0 x11 x12 ((Int.tmod x12 2) == 0) x19000 x19001 x19002 x20000 x20001 x20002)
def verniertop_TopNearest.j7 : Nat → Int → Int → Int → Bool → Bool → List Int → Int → Bool → List Int → Int → Option (Bool)
 | 0, _, _, _, _, _, _, _, _, _, _ => none
 | k + 1, x0, x11, x12, x22, x19000, x19001, x19002, x20000, x20001, x20002 => if x12 > 1 then ((verniertop_tie.f k x0 (IntKind.u64.wrap (x12 - 1))).bind fun t117 => ((verniertop_beside.f k x11 x19000 x19001 x19002 x20000 x20001 x20002 t117.1 t117.2.1 t117.2.2).bind fun t118 => (if t118 > 0 then (some true) else (if t118 = 0 then (some x22) else (some false))))) else (some true)
end
def verniertop_TopNearest.f (k : Nat) (a0 : Int) (a1 : Int) (a2 : Int) (a3 : Int) (a4 : Int) : Option (Bool) := (verniertop_pick.f a1 6).bind fun t100 => ((verniertop_done.f k a0 t100 a2 a3 a4).bind fun t101 => ((vernierref05_Is.f a0).bind fun t102 => (if t102 = true then (if t101.2.isNone = true then ((vernierref06_Decode.f k a0 a2).bind fun t103 => ((vernierref06_Decode.f k a0 a3).bind fun t104 => ((vernierref06_Decode.f k a0 a4).bind fun t105 => (if t100 = 4 then (verniertop_TopNearest.j1 k a0 t100 t101.1 t103.1 t103.2.1 t103.2.2.1 t103.2.2.2 0 false 0 0 t105.1 t105.2.1 t105.2.2.1 t105.2.2.2) else (verniertop_TopNearest.j1 k a0 t100 t101.1 t103.1 t103.2.1 t103.2.2.1 t103.2.2.2 t104.1 t104.2.1 t104.2.2.1 t104.2.2.2 t105.1 t105.2.1 t105.2.2.1 t105.2.2.2))))) else (some false)) else (if t101.2.isNone = true then (verniertop_TopNearest.j0 k false) else (if (t101.2.getD 0) = 2 then (verniertop_TopNearest.j0 k (t101.1 == 0)) else (verniertop_TopNearest.j0 k false))))))
--@ok
noncomputable def verniertop_TopNearest.c (k : Nat) : Con := S6.con fun x => verniertop_TopNearest.f k x.1 x.2.1 x.2.2.1 x.2.2.2.1 x.2.2.2.2
noncomputable def verniertop_TopNearest.G (k : Nat) : List (Go.FuncId × Con) := [(32, vernierref05_Is.c), (35, vernierref05_Power.c k), (38, verniertop_pick.c), (39, verniertop_done.c k), (40, vernierref06_Decode.c k), (41, verniertop_exact.c k), (42, verniertop_valOf.c k), (43, verniertop_sign.c), (44, vernierref06_Neg.c k), (45, verniertop_beside.c k), (46, verniertop_tie.c k)]
noncomputable def verniertop_TopNearest.cuts : List (Cut (TT S6.sb)) := [⟨[1, 2, 1, 0, 1, 1, 1, 1], [.sc 10 (.bool)], fun k x => verniertop_TopNearest.j0 k x⟩, ⟨[1, 1, 1, 1, 1, 1, 1, 1, 1, 1], [.sc 0 (.int .i64), .sc 11 (.int .i64), .sc 12 (.int .u64), .box 15 70 [.int .i64, .bool, .int .i64, .int .u64], .box 16 70 [.int .i64, .bool, .int .i64, .int .u64], .box 17 70 [.int .i64, .bool, .int .i64, .int .u64]], fun k x => verniertop_TopNearest.j1 k x.1 x.2.1 x.2.2.1 x.2.2.2.1.1 x.2.2.2.1.2.1 x.2.2.2.1.2.2.1 x.2.2.2.1.2.2.2 x.2.2.2.2.1.1 x.2.2.2.2.1.2.1 x.2.2.2.2.1.2.2.1 x.2.2.2.2.1.2.2.2 x.2.2.2.2.2.1 x.2.2.2.2.2.2.1 x.2.2.2.2.2.2.2.1 x.2.2.2.2.2.2.2.2⟩, ⟨[1, 1, 1, 1, 1, 1, 1, 1, 1, 1, 1], [.sc 0 (.int .i64), .sc 11 (.int .i64), .sc 12 (.int .u64), .box 15 70 [.int .i64, .bool, .int .i64, .int .u64], .box 16 70 [.int .i64, .bool, .int .i64, .int .u64], .box 17 70 [.int .i64, .bool, .int .i64, .int .u64]], fun k x => verniertop_TopNearest.j2 k x.1 x.2.1 x.2.2.1 x.2.2.2.1.1 x.2.2.2.1.2.1 x.2.2.2.1.2.2.1 x.2.2.2.1.2.2.2 x.2.2.2.2.1.1 x.2.2.2.2.1.2.1 x.2.2.2.2.1.2.2.1 x.2.2.2.2.1.2.2.2 x.2.2.2.2.2.1 x.2.2.2.2.2.2.1 x.2.2.2.2.2.2.2.1 x.2.2.2.2.2.2.2.2⟩, ⟨[1, 0, 1, 1, 1, 1, 1, 1, 1, 1, 1, 1, 1, 1], [.sc 0 (.int .i64), .sc 11 (.int .i64), .sc 12 (.int .u64), .sc 18 (.int .u64), .sc 96 (.bool), .box 15 70 [.int .i64, .bool, .int .i64, .int .u64], .box 16 70 [.int .i64, .bool, .int .i64, .int .u64], .box 17 70 [.int .i64, .bool, .int .i64, .int .u64]], fun k x => verniertop_TopNearest.j3 k x.1 x.2.1 x.2.2.1 x.2.2.2.1 x.2.2.2.2.1 x.2.2.2.2.2.1.1 x.2.2.2.2.2.1.2.1 x.2.2.2.2.2.1.2.2.1 x.2.2.2.2.2.1.2.2.2 x.2.2.2.2.2.2.1.1 x.2.2.2.2.2.2.1.2.1 x.2.2.2.2.2.2.1.2.2.1 x.2.2.2.2.2.2.1.2.2.2 x.2.2.2.2.2.2.2.1 x.2.2.2.2.2.2.2.2.1 x.2.2.2.2.2.2.2.2.2.1 x.2.2.2.2.2.2.2.2.2.2⟩, ⟨[1, 1, 1, 1, 1, 1, 1, 1, 1, 1, 1, 1, 1, 1, 1, 1, 1], [.sc 0 (.int .i64), .sc 11 (.int .i64), .sc 12 (.int .u64), .sc 18 (.int .u64), .sc 21 (.int .i64), .box 19 74 [.bool, .rd .i64, .int .i64], .box 20 74 [.bool, .rd .i64, .int .i64]], fun k x => verniertop_TopNearest.j4 k x.1 x.2.1 x.2.2.1 x.2.2.2.1 x.2.2.2.2.1 x.2.2.2.2.2.1.1 x.2.2.2.2.2.1.2.1 x.2.2.2.2.2.1.2.2 x.2.2.2.2.2.2.1 x.2.2.2.2.2.2.2.1 x.2.2.2.2.2.2.2.2⟩, ⟨[1, 0, 1, 1, 1, 1, 1, 1, 1, 1, 1, 1, 1, 1, 1, 1, 1, 1, 1, 1], [.sc 0 (.int .i64), .sc 11 (.int .i64), .sc 12 (.int .u64), .sc 18 (.int .u64), .sc 21 (.int .i64), .sc 136 (.bool), .box 19 74 [.bool, .rd .i64, .int .i64], .box 20 74 [.bool, .rd .i64, .int .i64]], fun k x => verniertop_TopNearest.j5 k x.1 x.2.1 x.2.2.1 x.2.2.2.1 x.2.2.2.2.1 x.2.2.2.2.2.1 x.2.2.2.2.2.2.1.1 x.2.2.2.2.2.2.1.2.1 x.2.2.2.2.2.2.1.2.2 x.2.2.2.2.2.2.2.1 x.2.2.2.2.2.2.2.2.1 x.2.2.2.2.2.2.2.2.2⟩, ⟨[1, 1, 1, 1, 1, 1, 1, 1, 1, 1, 1, 1, 1, 1, 1, 1, 1, 1, 1, 1], [.sc 0 (.int .i64), .sc 11 (.int .i64), .sc 12 (.int .u64), .sc 18 (.int .u64), .box 19 74 [.bool, .rd .i64, .int .i64], .box 20 74 [.bool, .rd .i64, .int .i64]], fun k x => verniertop_TopNearest.j6 k x.1 x.2.1 x.2.2.1 x.2.2.2.1 x.2.2.2.2.1.1 x.2.2.2.2.1.2.1 x.2.2.2.2.1.2.2 x.2.2.2.2.2.1 x.2.2.2.2.2.2.1 x.2.2.2.2.2.2.2⟩, ⟨[1, 1, 1, 1, 1, 1, 1, 1, 1, 1, 1, 1, 1, 1, 1, 1, 1, 1, 1, 1, 1, 1], [.sc 0 (.int .i64), .sc 11 (.int .i64), .sc 12 (.int .u64), .sc 22 (.bool), .box 19 74 [.bool, .rd .i64, .int .i64], .box 20 74 [.bool, .rd .i64, .int .i64]], fun k x => verniertop_TopNearest.j7 k x.1 x.2.1 x.2.2.1 x.2.2.2.1 x.2.2.2.2.1.1 x.2.2.2.2.1.2.1 x.2.2.2.2.1.2.2 x.2.2.2.2.2.1 x.2.2.2.2.2.2.1 x.2.2.2.2.2.2.2⟩]
theorem verniertop_TopNearest.w0 (k : Nat) (x : ET [.sc 10 (.bool)]) : walk E6 (verniertop_TopNearest.G k) (cutsAt k verniertop_TopNearest.cuts) (retE E6 Go.Proofs.Try.f6.results.toList S6) 4000 true (stackAt B6 [1, 2, 1, 0, 1, 1, 1, 1]) (mkE [.sc 10 (.bool)] x St.nil) = verniertop_TopNearest.j0 (k + 1) x := by kernel_rfl
theorem verniertop_TopNearest.w1 (k : Nat) (x : ET [.sc 0 (.int .i64), .sc 11 (.int .i64), .sc 12 (.int .u64), .box 15 70 [.int .i64, .bool, .int .i64, .int .u64], .box 16 70 [.int .i64, .bool, .int .i64, .int .u64], .box 17 70 [.int .i64, .bool, .int .i64, .int .u64]]) : walk E6 (verniertop_TopNearest.G k) (cutsAt k verniertop_TopNearest.cuts) (retE E6 Go.Proofs.Try.f6.results.toList S6) 4000 true (stackAt B6 [1, 1, 1, 1, 1, 1, 1, 1, 1, 1]) (mkE [.sc 0 (.int .i64), .sc 11 (.int .i64), .sc 12 (.int .u64), .box 15 70 [.int .i64, .bool, .int .i64, .int .u64], .box 16 70 [.int .i64, .bool, .int .i64, .int .u64], .box 17 70 [.int .i64, .bool, .int .i64, .int .u64]] x St.nil) = verniertop_TopNearest.j1 (k + 1) x.1 x.2.1 x.2.2.1 x.2.2.2.1.1 x.2.2.2.1.2.1 x.2.2.2.1.2.2.1 x.2.2.2.1.2.2.2 x.2.2.2.2.1.1 x.2.2.2.2.1.2.1 x.2.2.2.2.1.2.2.1 x.2.2.2.2.1.2.2.2 x.2.2.2.2.2.1 x.2.2.2.2.2.2.1 x.2.2.2.2.2.2.2.1 x.2.2.2.2.2.2.2.2 := by kernel_rfl
theorem verniertop_TopNearest.w2 (k : Nat) (x : ET [.sc 0 (.int .i64), .sc 11 (.int .i64), .sc 12 (.int .u64), .box 15 70 [.int .i64, .bool, .int .i64, .int .u64], .box 16 70 [.int .i64, .bool, .int .i64, .int .u64], .box 17 70 [.int .i64, .bool, .int .i64, .int .u64]]) : walk E6 (verniertop_TopNearest.G k) (cutsAt k verniertop_TopNearest.cuts) (retE E6 Go.Proofs.Try.f6.results.toList S6) 4000 true (stackAt B6 [1, 1, 1, 1, 1, 1, 1, 1, 1, 1, 1]) (mkE [.sc 0 (.int .i64), .sc 11 (.int .i64), .sc 12 (.int .u64), .box 15 70 [.int .i64, .bool, .int .i64, .int .u64], .box 16 70 [.int .i64, .bool, .int .i64, .int .u64], .box 17 70 [.int .i64, .bool, .int .i64, .int .u64]] x St.nil) = verniertop_TopNearest.j2 (k + 1) x.1 x.2.1 x.2.2.1 x.2.2.2.1.1 x.2.2.2.1.2.1 x.2.2.2.1.2.2.1 x.2.2.2.1.2.2.2 x.2.2.2.2.1.1 x.2.2.2.2.1.2.1 x.2.2.2.2.1.2.2.1 x.2.2.2.2.1.2.2.2 x.2.2.2.2.2.1 x.2.2.2.2.2.2.1 x.2.2.2.2.2.2.2.1 x.2.2.2.2.2.2.2.2 := by kernel_rfl
theorem verniertop_TopNearest.w3 (k : Nat) (x : ET [.sc 0 (.int .i64), .sc 11 (.int .i64), .sc 12 (.int .u64), .sc 18 (.int .u64), .sc 96 (.bool), .box 15 70 [.int .i64, .bool, .int .i64, .int .u64], .box 16 70 [.int .i64, .bool, .int .i64, .int .u64], .box 17 70 [.int .i64, .bool, .int .i64, .int .u64]]) : walk E6 (verniertop_TopNearest.G k) (cutsAt k verniertop_TopNearest.cuts) (retE E6 Go.Proofs.Try.f6.results.toList S6) 4000 true (stackAt B6 [1, 0, 1, 1, 1, 1, 1, 1, 1, 1, 1, 1, 1, 1]) (mkE [.sc 0 (.int .i64), .sc 11 (.int .i64), .sc 12 (.int .u64), .sc 18 (.int .u64), .sc 96 (.bool), .box 15 70 [.int .i64, .bool, .int .i64, .int .u64], .box 16 70 [.int .i64, .bool, .int .i64, .int .u64], .box 17 70 [.int .i64, .bool, .int .i64, .int .u64]] x St.nil) = verniertop_TopNearest.j3 (k + 1) x.1 x.2.1 x.2.2.1 x.2.2.2.1 x.2.2.2.2.1 x.2.2.2.2.2.1.1 x.2.2.2.2.2.1.2.1 x.2.2.2.2.2.1.2.2.1 x.2.2.2.2.2.1.2.2.2 x.2.2.2.2.2.2.1.1 x.2.2.2.2.2.2.1.2.1 x.2.2.2.2.2.2.1.2.2.1 x.2.2.2.2.2.2.1.2.2.2 x.2.2.2.2.2.2.2.1 x.2.2.2.2.2.2.2.2.1 x.2.2.2.2.2.2.2.2.2.1 x.2.2.2.2.2.2.2.2.2.2 := by kernel_rfl
theorem verniertop_TopNearest.w4 (k : Nat) (x : ET [.sc 0 (.int .i64), .sc 11 (.int .i64), .sc 12 (.int .u64), .sc 18 (.int .u64), .sc 21 (.int .i64), .box 19 74 [.bool, .rd .i64, .int .i64], .box 20 74 [.bool, .rd .i64, .int .i64]]) : walk E6 (verniertop_TopNearest.G k) (cutsAt k verniertop_TopNearest.cuts) (retE E6 Go.Proofs.Try.f6.results.toList S6) 4000 true (stackAt B6 [1, 1, 1, 1, 1, 1, 1, 1, 1, 1, 1, 1, 1, 1, 1, 1, 1]) (mkE [.sc 0 (.int .i64), .sc 11 (.int .i64), .sc 12 (.int .u64), .sc 18 (.int .u64), .sc 21 (.int .i64), .box 19 74 [.bool, .rd .i64, .int .i64], .box 20 74 [.bool, .rd .i64, .int .i64]] x St.nil) = verniertop_TopNearest.j4 (k + 1) x.1 x.2.1 x.2.2.1 x.2.2.2.1 x.2.2.2.2.1 x.2.2.2.2.2.1.1 x.2.2.2.2.2.1.2.1 x.2.2.2.2.2.1.2.2 x.2.2.2.2.2.2.1 x.2.2.2.2.2.2.2.1 x.2.2.2.2.2.2.2.2 := by kernel_rfl
theorem verniertop_TopNearest.w5 (k : Nat) (x : ET [.sc 0 (.int .i64), .sc 11 (.int .i64), .sc 12 (.int .u64), .sc 18 (.int .u64), .sc 21 (.int .i64), .sc 136 (.bool), .box 19 74 [.bool, .rd .i64, .int .i64], .box 20 74 [.bool, .rd .i64, .int .i64]]) : walk E6 (verniertop_TopNearest.G k) (cutsAt k verniertop_TopNearest.cuts) (retE E6 Go.Proofs.Try.f6.results.toList S6) 4000 true (stackAt B6 [1, 0, 1, 1, 1, 1, 1, 1, 1, 1, 1, 1, 1, 1, 1, 1, 1, 1, 1, 1]) (mkE [.sc 0 (.int .i64), .sc 11 (.int .i64), .sc 12 (.int .u64), .sc 18 (.int .u64), .sc 21 (.int .i64), .sc 136 (.bool), .box 19 74 [.bool, .rd .i64, .int .i64], .box 20 74 [.bool, .rd .i64, .int .i64]] x St.nil) = verniertop_TopNearest.j5 (k + 1) x.1 x.2.1 x.2.2.1 x.2.2.2.1 x.2.2.2.2.1 x.2.2.2.2.2.1 x.2.2.2.2.2.2.1.1 x.2.2.2.2.2.2.1.2.1 x.2.2.2.2.2.2.1.2.2 x.2.2.2.2.2.2.2.1 x.2.2.2.2.2.2.2.2.1 x.2.2.2.2.2.2.2.2.2 := by kernel_rfl
theorem verniertop_TopNearest.w6 (k : Nat) (x : ET [.sc 0 (.int .i64), .sc 11 (.int .i64), .sc 12 (.int .u64), .sc 18 (.int .u64), .box 19 74 [.bool, .rd .i64, .int .i64], .box 20 74 [.bool, .rd .i64, .int .i64]]) : walk E6 (verniertop_TopNearest.G k) (cutsAt k verniertop_TopNearest.cuts) (retE E6 Go.Proofs.Try.f6.results.toList S6) 4000 true (stackAt B6 [1, 1, 1, 1, 1, 1, 1, 1, 1, 1, 1, 1, 1, 1, 1, 1, 1, 1, 1, 1]) (mkE [.sc 0 (.int .i64), .sc 11 (.int .i64), .sc 12 (.int .u64), .sc 18 (.int .u64), .box 19 74 [.bool, .rd .i64, .int .i64], .box 20 74 [.bool, .rd .i64, .int .i64]] x St.nil) = verniertop_TopNearest.j6 (k + 1) x.1 x.2.1 x.2.2.1 x.2.2.2.1 x.2.2.2.2.1.1 x.2.2.2.2.1.2.1 x.2.2.2.2.1.2.2 x.2.2.2.2.2.1 x.2.2.2.2.2.2.1 x.2.2.2.2.2.2.2 := by kernel_rfl
theorem verniertop_TopNearest.w7 (k : Nat) (x : ET [.sc 0 (.int .i64), .sc 11 (.int .i64), .sc 12 (.int .u64), .sc 22 (.bool), .box 19 74 [.bool, .rd .i64, .int .i64], .box 20 74 [.bool, .rd .i64, .int .i64]]) : walk E6 (verniertop_TopNearest.G k) (cutsAt k verniertop_TopNearest.cuts) (retE E6 Go.Proofs.Try.f6.results.toList S6) 4000 true (stackAt B6 [1, 1, 1, 1, 1, 1, 1, 1, 1, 1, 1, 1, 1, 1, 1, 1, 1, 1, 1, 1, 1, 1]) (mkE [.sc 0 (.int .i64), .sc 11 (.int .i64), .sc 12 (.int .u64), .sc 22 (.bool), .box 19 74 [.bool, .rd .i64, .int .i64], .box 20 74 [.bool, .rd .i64, .int .i64]] x St.nil) = verniertop_TopNearest.j7 (k + 1) x.1 x.2.1 x.2.2.1 x.2.2.2.1 x.2.2.2.2.1.1 x.2.2.2.2.1.2.1 x.2.2.2.2.1.2.2 x.2.2.2.2.2.1 x.2.2.2.2.2.2.1 x.2.2.2.2.2.2.2 := by kernel_rfl
theorem verniertop_TopNearest.w (k : Nat) (x : TT S6.sa) : walk E6 (verniertop_TopNearest.G k) (cutsAt k verniertop_TopNearest.cuts) (retE E6 Go.Proofs.Try.f6.results.toList S6) 4000 true [([], .code B6)] (St0 S6 x) = verniertop_TopNearest.f k x.1 x.2.1 x.2.2.1 x.2.2.2.1 x.2.2.2.2 := by kernel_rfl
theorem verniertop_TopNearest.ok (k : Nat) : FnOk Go.Proofs.Try.prog E6.eT 6 (verniertop_TopNearest.c k) := FnOk.walk (E := E6) (body := B6) Go.Proofs.Try.func6 rfl (by rfl) Go.Proofs.Try.ntmps6 S6 rfl (fun k x => verniertop_TopNearest.f k x.1 x.2.1 x.2.2.1 x.2.2.2.1 x.2.2.2.2) verniertop_TopNearest.G (fun k => ⟨vernierref05_Is.ok, vernierref05_Power.ok k, verniertop_pick.ok, verniertop_done.ok k, vernierref06_Decode.ok k, verniertop_exact.ok k, verniertop_valOf.ok k, verniertop_sign.ok, vernierref06_Neg.ok k, verniertop_beside.ok k, verniertop_tie.ok k, trivial⟩) 4000 verniertop_TopNearest.cuts ⟨⟨fun _ => rfl, fun k x q h => (verniertop_TopNearest.w0 k x).trans h⟩, ⟨fun _ => rfl, fun k x q h => (verniertop_TopNearest.w1 k x).trans h⟩, ⟨fun _ => rfl, fun k x q h => (verniertop_TopNearest.w2 k x).trans h⟩, ⟨fun _ => rfl, fun k x q h => (verniertop_TopNearest.w3 k x).trans h⟩, ⟨fun _ => rfl, fun k x q h => (verniertop_TopNearest.w4 k x).trans h⟩, ⟨fun _ => rfl, fun k x q h => (verniertop_TopNearest.w5 k x).trans h⟩, ⟨fun _ => rfl, fun k x q h => (verniertop_TopNearest.w6 k x).trans h⟩, ⟨fun _ => rfl, fun k x q h => (verniertop_TopNearest.w7 k x).trans h⟩, trivial⟩ (fun k x r h => (verniertop_TopNearest.w k x).trans h) k
def verniertop_TopNearest.Pure : Prop := ∀ (a0 : Int) (a1 : Int) (a2 : Int) (a3 : Int) (a4 : Int), (Lit.int .i64 a0).wf = true → (Lit.int .i64 a1).wf = true → (Lit.int .u64 a2).wf = true → (Lit.int .u64 a3).wf = true → (Lit.int .u64 a4).wf = true → ∃ k, verniertop_TopNearest.f k a0 a1 a2 a3 a4 = some true
end Go.Proofs.Ythofoolgbngobaa.Fn
namespace Go.Proofs.Ythofoolgbngobaa.V
open Go Go.RowKit Go.Proofs.Ythofoolgbngobaa.Ab Go.Proofs.Ythofoolgbngobaa.Fn
set_option linter.unusedVariables false
set_option linter.unusedSimpArgs false
theorem shl_hi (V k : Nat) (h : V < 2 ^ 128) (hk : k ≤ 64) :
  V * 2 ^ k % 2 ^ 128 / 2 ^ 64 = V / 2 ^ 64 * 2 ^ k % 2 ^ 64 + V % 2 ^ 64 / 2 ^ (64 - k) := by
 have s := pow_split hk
 have p1 := two_pos k
 have p2 := two_pos (64 - k)
 rw [show (2:Nat)^128 = 2^64 * 2^64 by decide, Nat.mod_mul_right_div_self]
 generalize hq : V / 2 ^ 64 = q
 generalize hr : V % 2 ^ 64 = r
 have hV : V = q * 2 ^ 64 + r := by subst hq hr; have := Nat.div_add_mod V (2^64); omega
 have hr' : r < 2 ^ 64 := by subst hr; exact Nat.mod_lt _ (two_pos 64)
 generalize hb : r / 2 ^ (64 - k) = b
 generalize hc : r % 2 ^ (64 - k) = c
 have hr2 : r = 2 ^ (64 - k) * b + c := by subst hb hc; exact (Nat.div_add_mod _ _).symm
 have hc' : c < 2 ^ (64 - k) := by subst hc; exact Nat.mod_lt _ p2
 have hb' : b < 2 ^ k := by subst hb; rw [Nat.div_lt_iff_lt_mul p2]; rw [s]; exact hr'
 have e : V * 2 ^ k = (q * 2 ^ k + b) * 2 ^ 64 + c * 2 ^ k := by
  rw [hV, hr2, ← s]; grind
 have hc2 : c * 2 ^ k < 2 ^ 64 := by
  rw [← s, Nat.mul_comm]; exact Nat.mul_lt_mul_of_pos_left hc' p1
 have d : V * 2 ^ k / 2 ^ 64 = q * 2 ^ k + b := by
  rw [e, Nat.add_comm, Nat.add_mul_div_right _ _ (two_pos 64), Nat.div_eq_of_lt hc2]; omega
 rw [d]
 have m1 : q * 2 ^ k % 2 ^ 64 = q % 2 ^ (64 - k) * 2 ^ k := by
  rw [← s, Nat.mul_comm (2 ^ k), Nat.mul_mod_mul_right]
 have m2 : q % 2 ^ (64 - k) * 2 ^ k + b < 2 ^ 64 := by
  have : q % 2 ^ (64 - k) + 1 ≤ 2 ^ (64 - k) := Nat.mod_lt _ p2
  have := Nat.mul_le_mul_right (2 ^ k) this
  rw [Nat.mul_comm (2 ^ (64 - k)), s, Nat.add_mul] at this
  omega
 rw [Nat.add_mod, m1, Nat.mod_eq_of_lt (Nat.lt_of_lt_of_le hb' (pow_le hk)), Nat.mod_eq_of_lt m2]
theorem twin_shl_eq (V k : Nat) (h : V < 2 ^ 128) (hk : k ≤ 128) :
  twin_shl.f (TH V) (TL V) (k : Int) = some (TH (V * 2 ^ k % 2 ^ 128), TL (V * 2 ^ k % 2 ^ 128)) := by
 unfold twin_shl.f
 have hT : V / 18446744073709551616 < 18446744073709551616 := by rw [p128] at h; omega
 have hL : V % 18446744073709551616 < 18446744073709551616 := by omega
 by_cases h64 : 64 ≤ k
 ·rw [if_pos (by omega), w64 (by omega) (by omega), if_pos (by omega)]
  have e : ((k : Int) - 64) = ((k - 64 : Nat) : Int) := by omega
  rw [e]
  unfold TL TH
  rw [shl_nat _ _ (by omega)]
  have s : (2 : Nat) ^ k = 2 ^ 64 * 2 ^ (k - 64) := by rw [← Nat.pow_add]; congr 1; omega
  have g : V * 2 ^ k = V * 2 ^ (k - 64) * 18446744073709551616 := by rw [s, p64]; grind
  have g1 : V % 18446744073709551616 * 2 ^ (k - 64) % 18446744073709551616 = V * 2 ^ k % 2 ^ 128 / 18446744073709551616 := by
   rw [p128, mod128_hi, g, Nat.mul_div_cancel _ (by decide), Nat.mod_mul_mod]
  have g2 : V * 2 ^ k % 2 ^ 128 % 18446744073709551616 = 0 := by rw [g, p128]; omega
  rw [g1, g2]
  rfl
 ·rw [if_neg (by omega), if_pos (by omega), w64 (by omega) (by omega), if_pos (by omega)]
  have e : (64 - (k : Int)) = ((64 - k : Nat) : Int) := by omega
  rw [e]
  unfold TL TH
  rw [shl_nat _ _ (by omega), shl_nat _ _ (by omega), shr_nat _ _ (by omega)]
  have hh := shl_hi V k h (by omega)
  have p2 := two_pos (64 - k)
  have s := pow_split (show k ≤ 64 by omega)
  rw [or_add _ _ k (Nat.mod_lt _ (by decide)) ?_ ?_ ?_]
  ·congr 3
   ·rw [← p64, hh]
   ·rw [Nat.mod_mul_mod, p128]; omega
  ·rw [← p64, ← s, Nat.mod_mul_right_mod, Nat.mul_mod_left]
  ·rw [Nat.div_lt_iff_lt_mul p2, s, p64]; exact hL
  ·exact Nat.lt_of_le_of_lt (Nat.div_le_self _ _) hL
theorem shr_lo (V k : Nat) (hk : k ≤ 64) : V / 2 ^ k % 2 ^ 64 = V % 2 ^ 64 / 2 ^ k + V / 2 ^ 64 * 2 ^ (64 - k) % 2 ^ 64 := by
 have s := pow_split hk
 have p1 := two_pos k
 have p2 := two_pos (64 - k)
 generalize hq : V / 2 ^ 64 = q
 generalize hr : V % 2 ^ 64 = r
 have hV : V = q * 2 ^ 64 + r := by subst hq hr; have := Nat.div_add_mod V (2^64); omega
 have hr' : r < 2 ^ 64 := by subst hr; exact Nat.mod_lt _ (two_pos 64)
 have e : V / 2 ^ k = r / 2 ^ k + q * 2 ^ (64 - k) := by
  rw [hV, ← s, show q * (2 ^ k * 2 ^ (64 - k)) + r = r + q * 2 ^ (64 - k) * 2 ^ k by grind, Nat.add_mul_div_right _ _ p1]
 have hb : r / 2 ^ k < 2 ^ (64 - k) := by rw [Nat.div_lt_iff_lt_mul p1, Nat.mul_comm, s]; exact hr'
 have m1 : q * 2 ^ (64 - k) % 2 ^ 64 = q % 2 ^ k * 2 ^ (64 - k) := by
  rw [← s, Nat.mul_mod_mul_right]
 have m2 : r / 2 ^ k + q % 2 ^ k * 2 ^ (64 - k) < 2 ^ 64 := by
  have : q % 2 ^ k + 1 ≤ 2 ^ k := Nat.mod_lt _ p1
  have := Nat.mul_le_mul_right (2 ^ (64 - k)) this
  rw [s, Nat.add_mul] at this
  omega
 rw [e, Nat.add_mod, m1, Nat.mod_eq_of_lt (Nat.lt_of_lt_of_le hb (pow_le (by omega))), Nat.mod_eq_of_lt m2]
theorem twin_shr_eq (V k : Nat) (h : V < 2 ^ 128) (hk : k ≤ 128) :
  twin_shr.f (TH V) (TL V) (k : Int) = some (TH (V / 2 ^ k), TL (V / 2 ^ k)) := by
 unfold twin_shr.f
 have hT : V / 18446744073709551616 < 18446744073709551616 := by rw [p128] at h; omega
 have hL : V % 18446744073709551616 < 18446744073709551616 := by omega
 by_cases h64 : 64 ≤ k
 ·rw [if_pos (by omega), w64 (by omega) (by omega), if_pos (by omega)]
  have e : ((k : Int) - 64) = ((k - 64 : Nat) : Int) := by omega
  rw [e]
  unfold TL TH
  rw [shr_nat _ _ (by omega)]
  have s : (2 : Nat) ^ k = 2 ^ 64 * 2 ^ (k - 64) := by rw [← Nat.pow_add]; congr 1; omega
  have lt : V / 2 ^ k < 2 ^ 64 := by
   rw [s, ← Nat.div_div_eq_div_mul, p64]
   exact Nat.lt_of_le_of_lt (Nat.div_le_self _ _) hT
  rw [Nat.div_eq_of_lt (show V / 2 ^ k < 18446744073709551616 by rw [← p64]; exact lt), Nat.mod_eq_of_lt (show V / 2 ^ k < 18446744073709551616 by rw [← p64]; exact lt), s, ← Nat.div_div_eq_div_mul, p64]
  rfl
 ·rw [if_neg (by omega), if_pos (by omega), w64 (by omega) (by omega), if_pos (by omega)]
  have e : (64 - (k : Int)) = ((64 - k : Nat) : Int) := by omega
  rw [e]
  unfold TL TH
  rw [shr_nat _ _ (by omega), shr_nat _ _ (by omega), shl_nat _ _ (by omega)]
  have hh := shr_lo V k (by omega)
  have p1 := two_pos k
  have s := pow_split (show k ≤ 64 by omega)
  have hs : V % 18446744073709551616 / 2 ^ k < 2 ^ (64 - k) := by rw [Nat.div_lt_iff_lt_mul p1, Nat.mul_comm, s, p64]; exact hL
  have oc : Go.bits .or .u64 ((V % 18446744073709551616 / 2 ^ k : Nat) : Int) ((V / 18446744073709551616 * 2 ^ (64 - k) % 18446744073709551616 : Nat) : Int) = ((V % 18446744073709551616 / 2 ^ k + V / 18446744073709551616 * 2 ^ (64 - k) % 18446744073709551616 : Nat) : Int) := by
   rw [or_nat _ _ (Nat.lt_of_le_of_lt (Nat.div_le_self _ _) hL) (Nat.mod_lt _ (by decide)), Nat.or_comm]
   have e2 : V / 18446744073709551616 * 2 ^ (64 - k) % 18446744073709551616 = V / 18446744073709551616 % 2 ^ k * 2 ^ (64 - k) := by
    rw [← p64, ← s, Nat.mul_mod_mul_right]
   rw [e2, or_parts hs, Nat.add_comm]
  have g1 : V / 18446744073709551616 / 2 ^ k = V / 2 ^ k / 18446744073709551616 := by rw [Nat.div_div_eq_div_mul, Nat.div_div_eq_div_mul, Nat.mul_comm]
  rw [oc, g1, ← p64, hh]
theorem twin_Len_eq (V : Nat) (h : V < 2 ^ 128) : twin_Len.f (TH V) (TL V) = some ((bl V : Nat) : Int) := by
 unfold twin_Len.f bits_Len64.f TH TL
 have hT : V / 18446744073709551616 < 18446744073709551616 := by rw [p128] at h; omega
 have hL : V % 18446744073709551616 < 18446744073709551616 := by omega
 have c1 := bl_le_of_lt h
 by_cases h0 : 0 < V / 18446744073709551616
 ·rw [if_pos (by omega), if_pos ⟨by omega, by omega⟩]
  simp only [Option.bind_some]
  have e : Lib.bitLen (V / 18446744073709551616) = bl (V / 18446744073709551616) := bitLen_bl (by rw [p64]; exact hT)
  have c2 := bl_le_of_lt (show V / 18446744073709551616 < 2 ^ 64 by rw [p64]; exact hT)
  have a := bl_lt (V / 18446744073709551616)
  have b := bl_le h0
  have c := bl_pos h0
  have l : bl V = 64 + bl (V / 18446744073709551616) := by
   refine bl_unique (by omega) ?_ ?_
   ·rw [show 64 + bl (V / 18446744073709551616) - 1 = 64 + (bl (V / 18446744073709551616) - 1) by omega, Nat.pow_add, p64]
    have := Nat.div_mul_le_self V 18446744073709551616
    have := Nat.mul_le_mul_left 18446744073709551616 b
    omega
   ·rw [Nat.pow_add, p64]
    have e := Nat.div_add_mod V 18446744073709551616
    have := Nat.mul_le_mul_left 18446744073709551616 a
    omega
  rw [Int.toNat_natCast, e, w64 (by omega) (by omega), l]
  congr 1
 ·rw [if_neg (by omega), if_pos ⟨by omega, by omega⟩]
  simp only [Option.bind_some]
  rw [Int.toNat_natCast, bitLen_bl (by rw [p64]; exact hL)]
  have : V % 18446744073709551616 = V := by omega
  rw [this]
theorem twin_Shl_eq (V k : Nat) (h : V < 2 ^ 128) (hk : k ≤ 128) :
  twin_Shl.f (TH V) (TL V) (k : Int) = some (TH (V * 2 ^ k % 2 ^ 128), TL (V * 2 ^ k % 2 ^ 128), decide (128 < bl V + k), none) := by
 unfold twin_Shl.f
 rw [if_neg (by omega)]
 have e : mn (k : Int) 128 = k := by unfold mn; rw [if_neg (by omega)]
 rw [e, twin_shl_eq V k h hk]
 simp only [Option.bind_some]
 rw [twin_Len_eq V h]
 simp only [Option.bind_some]
 have c1 := bl_le_of_lt h
 rw [w64 (by omega) (by omega)]
 congr 4
 rw [decide_eq_decide]
 omega
theorem twin_Shr_eq (V k : Nat) (h : V < 2 ^ 128) (hk : k ≤ 128) :
  twin_Shr.f (TH V) (TL V) (k : Int) = some (TH (V / 2 ^ k), TL (V / 2 ^ k), decide (V % 2 ^ k ≠ 0), none) := by
 unfold twin_Shr.f
 rw [if_neg (by omega)]
 have e : mn (k : Int) 128 = k := by unfold mn; rw [if_neg (by omega)]
 rw [e, twin_shr_eq V k h hk]
 simp only [Option.bind_some]
 have h2 : V / 2 ^ k < 2 ^ 128 := Nat.lt_of_le_of_lt (Nat.div_le_self _ _) h
 rw [twin_shl_eq _ k h2 hk]
 simp only [Option.bind_some]
 have hm : V / 2 ^ k * 2 ^ k % 2 ^ 128 = V / 2 ^ k * 2 ^ k := Nat.mod_eq_of_lt (Nat.lt_of_le_of_lt (Nat.div_mul_le_self _ _) h)
 rw [hm]
 have hd := Nat.div_add_mod V (2 ^ k)
 rw [Nat.mul_comm] at hd
 have key : (!(TH (V / 2 ^ k * 2 ^ k) == TH V) || !(TL (V / 2 ^ k * 2 ^ k) == TL V)) = decide (V % 2 ^ k ≠ 0) := by
  by_cases hz : V % 2 ^ k = 0
  ·have : V / 2 ^ k * 2 ^ k = V := by omega
   rw [this]; simp [hz]
  ·have : V / 2 ^ k * 2 ^ k ≠ V := by omega
   have hne : ¬ (TH (V / 2 ^ k * 2 ^ k) = TH V ∧ TL (V / 2 ^ k * 2 ^ k) = TL V) := fun ⟨h1, h2⟩ => this (T_eq h1 h2)
   rw [decide_eq_true hz]
   by_cases h1 : TH (V / 2 ^ k * 2 ^ k) = TH V
   ·have h2 : TL (V / 2 ^ k * 2 ^ k) ≠ TL V := fun h2 => hne ⟨h1, h2⟩
    simp [h1, h2]
   ·simp [h1]
 rw [Bool.not_and, key]
theorem twin_Norm_zero : twin_Norm.f 0 0 = some (0, 0, 0) := by unfold twin_Norm.f; rfl
theorem twin_Norm_eq (V : Nat) (h : V < 2 ^ 128) (h0 : 0 < V) :
  twin_Norm.f (TH V) (TL V) = some (TH (V * 2 ^ (128 - bl V)), TL (V * 2 ^ (128 - bl V)), ((128 - bl V : Nat) : Int)) := by
 unfold twin_Norm.f
 have c1 := bl_le_of_lt h
 have hz : ¬ (TH V == 0 && TL V == 0) = true := by
  intro hc
  simp only [Bool.and_eq_true, beq_iff_eq] at hc
  unfold TH TL at hc; omega
 rw [if_neg hz, twin_Len_eq V h]
 simp only [Option.bind_some]
 rw [w64 (by omega) (by omega)]
 have e : (128 - (bl V : Int)) = ((128 - bl V : Nat) : Int) := by omega
 rw [e, twin_shl_eq V _ h (by omega)]
 simp only [Option.bind_some]
 have hm : V * 2 ^ (128 - bl V) % 2 ^ 128 = V * 2 ^ (128 - bl V) := by
  refine Nat.mod_eq_of_lt ?_
  rw [← pow_split c1]
  exact Nat.mul_lt_mul_of_pos_right (bl_lt V) (two_pos _)
 rw [hm]
end Go.Proofs.Ythofoolgbngobaa.V
