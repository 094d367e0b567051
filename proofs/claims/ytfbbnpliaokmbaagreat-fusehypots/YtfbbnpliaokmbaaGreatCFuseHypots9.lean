-- Written by a program of this session out of its own texts (wip/tools/link.py).
import Derived.Below
import Derived.ChangeKeysEq
import Derived.Deep.MidRow
import Derived.Deep.RegionHeld3
import Derived.Great.BuildSlice
import Derived.IntWalk
import Derived.KernelRfl
import Derived.LaidEql
import Derived.Laws.Bits64
import Derived.Laws.BitsLemmas
import Derived.Laws.BytesArg
import Derived.Laws.IdiomCopy
import Derived.Laws.OwnMore
import Derived.Laws.Rows
import Derived.Laws.Slices
import Derived.Laws.StructEq
import Derived.Laws.Tables
import Derived.Lib.BitFns
import Derived.Lib.Slices
import Derived.Lib.Small
import Derived.Lib.Strings
import Derived.Lib.Walk
import Derived.Maps.AppendAt
import Derived.OrdersHeld
import Derived.RowKit
import Derived.Shelf.Spec.BitsCarry
import Derived.Test.YtfbbnpliaokmbaaGreatProg
import Derived.Test.YtfbbnpliaokmbaaGreatCFuseHypots1
import Derived.Test.YtfbbnpliaokmbaaGreatCFuseHypots3
import Derived.Test.YtfbbnpliaokmbaaGreatCFuseHypots7
set_option maxRecDepth 100000
set_option linter.unusedVariables false
noncomputable section
namespace Go.Proofs.YtfbbnpliaokmbaaGreat.Fn
open Go Go.RowKit Go.Proofs.YtfbbnpliaokmbaaGreat.Ab
noncomputable def E59 : En := ⟨Go.Proofs.Tryz.prog, 45, Go.Proofs.Tryz.f59.ntmps⟩
noncomputable def S59 : Sig := ⟨[.s], [(.int .i64)], false, [.s], [.bool], false⟩
noncomputable def B59 : Go.Code := Go.Proofs.Tryz.f59.body.get!
def shape_is.f (a0 : Int) : Option (Bool) := if a0 = 8 then (some true) else (if a0 = 16 then (some true) else (if a0 = 32 then (some true) else (if a0 = 64 then (some true) else (some false))))
--@ok
def shape_is.fR (a0 : Int) : Option (Bool) := if a0 = 8 then (if a0 = 8 then (some true) else (some false)) else (if a0 = 16 then (if a0 = 16 then (some true) else (some false)) else (if a0 = 32 then (if a0 = 32 then (some true) else (some false)) else (if a0 = 64 then (some true) else (some false))))
theorem shape_is.fE (a0 : Int) : shape_is.fR a0 = shape_is.f a0 := by
  unfold shape_is.fR shape_is.f
  exact iteC (fun h0 => (if_pos h0).trans (rfl)) (fun h0 => iteC (fun h1 => (if_pos h1).trans (rfl)) (fun h1 => iteC (fun h2 => (if_pos h2).trans (rfl)) (fun h2 => iteC (fun h3 => rfl) (fun h3 => rfl))))
noncomputable def shape_is.c : Con := S59.con fun x => shape_is.f x
noncomputable def shape_is.G (k : Nat) : List (Go.FuncId × Con) := []
noncomputable def shape_is.cuts : List (Cut (TT S59.sb)) := []
theorem shape_is.w (k : Nat) (x : TT S59.sa) : walk E59 (shape_is.G k) (cutsAt k shape_is.cuts) (retE E59 Go.Proofs.Tryz.f59.results.toList S59) 4000 true [([], .code B59)] (St0 S59 x) = shape_is.f x := Eq.trans (b := shape_is.fR x) (by kernel_rfl) (shape_is.fE x)
theorem shape_is.ok : FnOk Go.Proofs.Tryz.prog E59.eT 59 (shape_is.c) := FnOk.walk (E := E59) (body := B59) Go.Proofs.Tryz.func59 rfl (by rfl) Go.Proofs.Tryz.ntmps59 S59 rfl (fun k x => shape_is.f x) shape_is.G (fun k => trivial) 4000 shape_is.cuts trivial (fun k x r h => (shape_is.w k x).trans h) 0
noncomputable def E86 : En := ⟨Go.Proofs.Tryz.prog, 45, Go.Proofs.Tryz.f86.ntmps⟩
noncomputable def S86 : Sig := ⟨[.s], [(.int .i64)], false, [.s], [(.int .u64)], false⟩
noncomputable def B86 : Go.Code := Go.Proofs.Tryz.f86.body.get!
def lead_ones.f (a0 : Int) : Option (Int) := if a0 = 64 then (some 18446744073709551615) else (if 0 ≤ a0 then (some (IntKind.u64.wrap ((shl .u64 1 a0) - 1))) else (none))
--@ok
noncomputable def lead_ones.c : Con := S86.con fun x => lead_ones.f x
noncomputable def lead_ones.G (k : Nat) : List (Go.FuncId × Con) := []
noncomputable def lead_ones.cuts : List (Cut (TT S86.sb)) := []
theorem lead_ones.w (k : Nat) (x : TT S86.sa) : walk E86 (lead_ones.G k) (cutsAt k lead_ones.cuts) (retE E86 Go.Proofs.Tryz.f86.results.toList S86) 4000 true [([], .code B86)] (St0 S86 x) = lead_ones.f x := by kernel_rfl
theorem lead_ones.ok : FnOk Go.Proofs.Tryz.prog E86.eT 86 (lead_ones.c) := FnOk.walk (E := E86) (body := B86) Go.Proofs.Tryz.func86 rfl (by rfl) Go.Proofs.Tryz.ntmps86 S86 rfl (fun k x => lead_ones.f x) lead_ones.G (fun k => trivial) 4000 lead_ones.cuts trivial (fun k x r h => (lead_ones.w k x).trans h) 0
noncomputable def E60 : En := ⟨Go.Proofs.Tryz.prog, 45, Go.Proofs.Tryz.f60.ntmps⟩
noncomputable def S60 : Sig := ⟨[.s], [(.int .i64)], true, [.s, .s], [(.int .u64), .err], false⟩
noncomputable def B60 : Go.Code := Go.Proofs.Tryz.f60.body.get!
def lead_Mask.f (a0 : Int) : Option (Int × Option Int) := if a0 < 0 then (some (0, some 1)) else (if a0 > 64 then (some (0, some 1)) else ((lead_ones.f a0).bind fun t100 => (some (t100, none))))
--@ok
noncomputable def lead_Mask.c : Con := S60.con fun x => lead_Mask.f x
noncomputable def lead_Mask.G (k : Nat) : List (Go.FuncId × Con) := [(86, lead_ones.c)]
noncomputable def lead_Mask.cuts : List (Cut (TT S60.sb)) := []
theorem lead_Mask.w (k : Nat) (x : TT S60.sa) : walk E60 (lead_Mask.G k) (cutsAt k lead_Mask.cuts) (retE E60 Go.Proofs.Tryz.f60.results.toList S60) 4000 true [([], .code B60)] (St0 S60 x) = lead_Mask.f x := by kernel_rfl
theorem lead_Mask.ok : FnOk Go.Proofs.Tryz.prog E60.eT 60 (lead_Mask.c) := FnOk.walk (E := E60) (body := B60) Go.Proofs.Tryz.func60 rfl (by rfl) Go.Proofs.Tryz.ntmps60 S60 rfl (fun k x => lead_Mask.f x) lead_Mask.G (fun k => ⟨lead_ones.ok, trivial⟩) 4000 lead_Mask.cuts trivial (fun k x r h => (lead_Mask.w k x).trans h) 0
noncomputable def E29 : En := ⟨Go.Proofs.Tryz.prog, 45, Go.Proofs.Tryz.f29.ntmps⟩
noncomputable def S29 : Sig := ⟨[.s, .s], [(.int .i64), (.int .u64)], true, [.s, .s], [(.int .u64), .err], false⟩
noncomputable def B29 : Go.Code := Go.Proofs.Tryz.f29.body.get!
def shape_Fold.f (a0 : Int) (a1 : Int) : Option (Int × Option Int) := (shape_is.f a0).bind fun t100 => (if t100 = true then ((lead_Mask.f a0).bind fun t101 => (some (Go.bits .and .u64 a1 t101.1, t101.2))) else (some (0, some 2)))
--@ok
noncomputable def shape_Fold.c : Con := S29.con fun x => shape_Fold.f x.1 x.2
noncomputable def shape_Fold.G (k : Nat) : List (Go.FuncId × Con) := [(59, shape_is.c), (60, lead_Mask.c)]
noncomputable def shape_Fold.cuts : List (Cut (TT S29.sb)) := []
theorem shape_Fold.w (k : Nat) (x : TT S29.sa) : walk E29 (shape_Fold.G k) (cutsAt k shape_Fold.cuts) (retE E29 Go.Proofs.Tryz.f29.results.toList S29) 4000 true [([], .code B29)] (St0 S29 x) = shape_Fold.f x.1 x.2 := by kernel_rfl
theorem shape_Fold.ok : FnOk Go.Proofs.Tryz.prog E29.eT 29 (shape_Fold.c) := FnOk.walk (E := E29) (body := B29) Go.Proofs.Tryz.func29 rfl (by rfl) Go.Proofs.Tryz.ntmps29 S29 rfl (fun k x => shape_Fold.f x.1 x.2) shape_Fold.G (fun k => ⟨shape_is.ok, lead_Mask.ok, trivial⟩) 4000 shape_Fold.cuts trivial (fun k x r h => (shape_Fold.w k x).trans h) 0
noncomputable def E43 : En := ⟨Go.Proofs.Tryz.prog, 45, Go.Proofs.Tryz.f43.ntmps⟩
noncomputable def S43 : Sig := ⟨[.s, .s], [(.int .i64), (.int .u64)], true, [.s, .s], [(.int .i64), .err], false⟩
noncomputable def B43 : Go.Code := Go.Proofs.Tryz.f43.body.get!
def shape_Kind.f (a0 : Int) (a1 : Int) : Option (Int × Option Int) := (shape_Fold.f a0 a1).bind fun t100 => (if t100.2.isNone = true then (if t100.1 = 0 then (some (0, none)) else (if 0 ≤ (wrap64 (a0 - 1)) then (if t100.1 = (shl .u64 1 (wrap64 (a0 - 1))) then (some (2, none)) else (some (1, none))) else (none))) else (some (0, some (t100.2.getD 0))))
--@ok
noncomputable def shape_Kind.c : Con := S43.con fun x => shape_Kind.f x.1 x.2
noncomputable def shape_Kind.G (k : Nat) : List (Go.FuncId × Con) := [(29, shape_Fold.c)]
noncomputable def shape_Kind.cuts : List (Cut (TT S43.sb)) := []
theorem shape_Kind.w (k : Nat) (x : TT S43.sa) : walk E43 (shape_Kind.G k) (cutsAt k shape_Kind.cuts) (retE E43 Go.Proofs.Tryz.f43.results.toList S43) 4000 true [([], .code B43)] (St0 S43 x) = shape_Kind.f x.1 x.2 := by kernel_rfl
theorem shape_Kind.ok : FnOk Go.Proofs.Tryz.prog E43.eT 43 (shape_Kind.c) := FnOk.walk (E := E43) (body := B43) Go.Proofs.Tryz.func43 rfl (by rfl) Go.Proofs.Tryz.ntmps43 S43 rfl (fun k x => shape_Kind.f x.1 x.2) shape_Kind.G (fun k => ⟨shape_Fold.ok, trivial⟩) 4000 shape_Kind.cuts trivial (fun k x r h => (shape_Kind.w k x).trans h) 0
noncomputable def E99 : En := ⟨Go.Proofs.Tryz.prog, 45, Go.Proofs.Tryz.f99.ntmps⟩
noncomputable def S99 : Sig := ⟨[.s, .s], [(.int .u64), (.int .i64)], true, [.s, .s], [(.int .i64), .err], false⟩
noncomputable def B99 : Go.Code := Go.Proofs.Tryz.f99.body.get!
def lead_Extend.f (a0 : Int) (a1 : Int) : Option (Int × Option Int) := if a1 < 1 then (some (0, some 1)) else (if a1 > 64 then (some (0, some 1)) else (if 0 ≤ (wrap64 (64 - a1)) then (some (shr .i64 (wrap64 (shl .u64 a0 (wrap64 (64 - a1)))) (wrap64 (64 - a1)), none)) else (none)))
--@ok
def lead_Extend.fR (a0 : Int) (a1 : Int) : Option (Int × Option Int) := if a1 < 1 then (some (0, some 1)) else (if a1 > 64 then (some (0, some 1)) else (if 0 ≤ (wrap64 (64 - a1)) then (if 0 ≤ (wrap64 (64 - a1)) then (some (shr .i64 (wrap64 (shl .u64 a0 (wrap64 (64 - a1)))) (wrap64 (64 - a1)), none)) else (none)) else (none)))
theorem lead_Extend.fE (a0 : Int) (a1 : Int) : lead_Extend.fR a0 a1 = lead_Extend.f a0 a1 := by
  unfold lead_Extend.fR lead_Extend.f
  exact iteC (fun h0 => rfl) (fun h0 => iteC (fun h1 => rfl) (fun h1 => iteC (fun h2 => (if_pos h2).trans (rfl)) (fun h2 => rfl)))
noncomputable def lead_Extend.c : Con := S99.con fun x => lead_Extend.f x.1 x.2
noncomputable def lead_Extend.G (k : Nat) : List (Go.FuncId × Con) := []
noncomputable def lead_Extend.cuts : List (Cut (TT S99.sb)) := []
theorem lead_Extend.w (k : Nat) (x : TT S99.sa) : walk E99 (lead_Extend.G k) (cutsAt k lead_Extend.cuts) (retE E99 Go.Proofs.Tryz.f99.results.toList S99) 4000 true [([], .code B99)] (St0 S99 x) = lead_Extend.f x.1 x.2 := Eq.trans (b := lead_Extend.fR x.1 x.2) (by kernel_rfl) (lead_Extend.fE x.1 x.2)
theorem lead_Extend.ok : FnOk Go.Proofs.Tryz.prog E99.eT 99 (lead_Extend.c) := FnOk.walk (E := E99) (body := B99) Go.Proofs.Tryz.func99 rfl (by rfl) Go.Proofs.Tryz.ntmps99 S99 rfl (fun k x => lead_Extend.f x.1 x.2) lead_Extend.G (fun k => trivial) 4000 lead_Extend.cuts trivial (fun k x r h => (lead_Extend.w k x).trans h) 0
noncomputable def E78 : En := ⟨Go.Proofs.Tryz.prog, 45, Go.Proofs.Tryz.f78.ntmps⟩
noncomputable def S78 : Sig := ⟨[.s, .s], [(.int .i64), (.int .u64)], true, [.s, .s], [(.int .i64), .err], false⟩
noncomputable def B78 : Go.Code := Go.Proofs.Tryz.f78.body.get!
def shape_Rank.f (a0 : Int) (a1 : Int) : Option (Int × Option Int) := (shape_is.f a0).bind fun t100 => (if t100 = true then ((lead_Extend.f a1 a0).bind fun t101 => (some (t101.1, t101.2))) else (some (0, some 2)))
--@ok
noncomputable def shape_Rank.c : Con := S78.con fun x => shape_Rank.f x.1 x.2
noncomputable def shape_Rank.G (k : Nat) : List (Go.FuncId × Con) := [(59, shape_is.c), (99, lead_Extend.c)]
noncomputable def shape_Rank.cuts : List (Cut (TT S78.sb)) := []
theorem shape_Rank.w (k : Nat) (x : TT S78.sa) : walk E78 (shape_Rank.G k) (cutsAt k shape_Rank.cuts) (retE E78 Go.Proofs.Tryz.f78.results.toList S78) 4000 true [([], .code B78)] (St0 S78 x) = shape_Rank.f x.1 x.2 := by kernel_rfl
theorem shape_Rank.ok : FnOk Go.Proofs.Tryz.prog E78.eT 78 (shape_Rank.c) := FnOk.walk (E := E78) (body := B78) Go.Proofs.Tryz.func78 rfl (by rfl) Go.Proofs.Tryz.ntmps78 S78 rfl (fun k x => shape_Rank.f x.1 x.2) shape_Rank.G (fun k => ⟨shape_is.ok, lead_Extend.ok, trivial⟩) 4000 shape_Rank.cuts trivial (fun k x r h => (shape_Rank.w k x).trans h) 0
noncomputable def S84 : Sig := ⟨[.s], [(.int .u64)], false, [.s], [(.int .i64)], false⟩
def bits_Len64.f (a0 : Int) : Option (Int) := if 0 ≤ a0 ∧ a0 ≤ 18446744073709551615 then some (Lib.bitLen a0.toNat : Int) else none
--@ok
noncomputable def bits_Len64.c : Con := S84.con fun x => bits_Len64.f x
theorem bits_Len64.ok : FnOk Go.Proofs.Tryz.prog 45 84 bits_Len64.c := by
  intro (x : Int) (r : Int) w ok vs hF hv
  refine .inl ⟨enters Go.Proofs.Tryz.func84 rfl rfl vs w, ?_⟩
  have hF' : bits_Len64.f x = some r := hF
  unfold bits_Len64.f at hF'
  split at hF'
  · rename_i hx
    injection hF' with hF'
    subst hF'
    obtain ⟨l⟩ := vs
    match l, hv with
    | [], h => exact h.elim
    | [v], h =>
      obtain ⟨⟨rfl, -⟩, -⟩ := h
      refine (GLen.len64 x w hx.1 hx.2).mono ?_
      rintro e w' ⟨rfl, rfl⟩
      refine ⟨_, rfl, ⟨_, rfl, rfl, ?_, by simp, by simp⟩, .refl _ _⟩
      have h64 : (2 : Nat) ^ 64 = 18446744073709551616 := by decide
      have := Lib.bitLen_le x.toNat 64 (Nat.le_refl _) (by rw [h64]; have := hx.2; have := hx.1; generalize (show Int from x) = y at *; omega)
      constructor <;> simp only [kLo, kHi] <;> omega
    | _ :: _ :: _, h => exact h.2.elim
  · cases hF'
noncomputable def E54 : En := ⟨Go.Proofs.Tryz.prog, 45, Go.Proofs.Tryz.f54.ntmps⟩
noncomputable def S54 : Sig := ⟨[.s], [(.int .u64)], false, [.s], [(.int .i64)], false⟩
noncomputable def B54 : Go.Code := Go.Proofs.Tryz.f54.body.get!
def bits_LeadingZeros64.f (a0 : Int) : Option (Int) := (bits_Len64.f a0).bind fun t100 => (some (wrap64 (64 - t100)))
--@ok
noncomputable def bits_LeadingZeros64.c : Con := S54.con fun x => bits_LeadingZeros64.f x
noncomputable def bits_LeadingZeros64.G (k : Nat) : List (Go.FuncId × Con) := [(84, bits_Len64.c)]
noncomputable def bits_LeadingZeros64.cuts : List (Cut (TT S54.sb)) := []
theorem bits_LeadingZeros64.w (k : Nat) (x : TT S54.sa) : walk E54 (bits_LeadingZeros64.G k) (cutsAt k bits_LeadingZeros64.cuts) (retE E54 Go.Proofs.Tryz.f54.results.toList S54) 4000 true [([], .code B54)] (St0 S54 x) = bits_LeadingZeros64.f x := by kernel_rfl
theorem bits_LeadingZeros64.ok : FnOk Go.Proofs.Tryz.prog E54.eT 54 (bits_LeadingZeros64.c) := FnOk.walk (E := E54) (body := B54) Go.Proofs.Tryz.func54 rfl (by rfl) Go.Proofs.Tryz.ntmps54 S54 rfl (fun k x => bits_LeadingZeros64.f x) bits_LeadingZeros64.G (fun k => ⟨bits_Len64.ok, trivial⟩) 4000 bits_LeadingZeros64.cuts trivial (fun k x r h => (bits_LeadingZeros64.w k x).trans h) 0
noncomputable def E79 : En := ⟨Go.Proofs.Tryz.prog, 45, Go.Proofs.Tryz.f79.ntmps⟩
noncomputable def S79 : Sig := ⟨[.s, .s], [(.int .u64), (.int .i64)], true, [.s, .s, .s], [.bool, (.int .i64), .err], false⟩
noncomputable def B79 : Go.Code := Go.Proofs.Tryz.f79.body.get!
def lead_Run.j0 : Nat → Int → Int → Bool → Option (Bool × Int × Option Int)
 | 0, _, _, _ => none
 | k + 1, x0, x1, x13 => if x13 = true then (some (false, 0, some 1)) else (if 0 ≤ (wrap64 (64 - x1)) then (if ((shl .u64 x0 (wrap64 (64 - x1))) / 9223372036854775808) = 1 then ((bits_LeadingZeros64.f (Go.bits .xor .u64 18446744073709551615 (shl .u64 x0 (wrap64 (64 - x1))))).bind fun t100 => (some (((shl .u64 x0 (wrap64 (64 - x1))) / 9223372036854775808) == 1, mn t100 x1, none))) else ((bits_LeadingZeros64.f (shl .u64 x0 (wrap64 (64 - x1)))).bind fun t101 => (some (((shl .u64 x0 (wrap64 (64 - x1))) / 9223372036854775808) == 1, mn t101 x1, none)))) else (none))
def lead_Run.f (k : Nat) (a0 : Int) (a1 : Int) : Option (Bool × Int × Option Int) := if a1 < 1 then (lead_Run.j0 k a0 a1 true) else (lead_Run.j0 k a0 a1 (decide (a1 > 64)))
--@ok
noncomputable def lead_Run.c (k : Nat) : Con := S79.con fun x => lead_Run.f k x.1 x.2
noncomputable def lead_Run.G (k : Nat) : List (Go.FuncId × Con) := [(54, bits_LeadingZeros64.c)]
noncomputable def lead_Run.cuts : List (Cut (TT S79.sb)) := [⟨[1, 0, 1], [.sc 0 (.int .u64), .sc 1 (.int .i64), .sc 13 (.bool)], fun k x => lead_Run.j0 k x.1 x.2.1 x.2.2⟩]
theorem lead_Run.w0 (k : Nat) (x : ET [.sc 0 (.int .u64), .sc 1 (.int .i64), .sc 13 (.bool)]) : walk E79 (lead_Run.G k) (cutsAt k lead_Run.cuts) (retE E79 Go.Proofs.Tryz.f79.results.toList S79) 4000 true (stackAt B79 [1, 0, 1]) (mkE [.sc 0 (.int .u64), .sc 1 (.int .i64), .sc 13 (.bool)] x St.nil) = lead_Run.j0 (k + 1) x.1 x.2.1 x.2.2 := by kernel_rfl
theorem lead_Run.w (k : Nat) (x : TT S79.sa) : walk E79 (lead_Run.G k) (cutsAt k lead_Run.cuts) (retE E79 Go.Proofs.Tryz.f79.results.toList S79) 4000 true [([], .code B79)] (St0 S79 x) = lead_Run.f k x.1 x.2 := by kernel_rfl
theorem lead_Run.ok (k : Nat) : FnOk Go.Proofs.Tryz.prog E79.eT 79 (lead_Run.c k) := FnOk.walk (E := E79) (body := B79) Go.Proofs.Tryz.func79 rfl (by rfl) Go.Proofs.Tryz.ntmps79 S79 rfl (fun k x => lead_Run.f k x.1 x.2) lead_Run.G (fun k => ⟨bits_LeadingZeros64.ok, trivial⟩) 4000 lead_Run.cuts ⟨⟨fun _ => rfl, fun k x q h => (lead_Run.w0 k x).trans h⟩, trivial⟩ (fun k x r h => (lead_Run.w k x).trans h) k
noncomputable def E100 : En := ⟨Go.Proofs.Tryz.prog, 45, Go.Proofs.Tryz.f100.ntmps⟩
noncomputable def S100 : Sig := ⟨[.s, .s], [(.int .i64), (.int .i64)], false, [.s], [.bool], false⟩
noncomputable def B100 : Go.Code := Go.Proofs.Tryz.f100.body.get!
def lead_field.f (a0 : Int) (a1 : Int) : Option (Bool) := if a0 ≥ 0 then (if a0 ≤ 64 then (if a1 ≥ 0 then (some (decide (a1 ≤ (wrap64 (64 - a0))))) else (some false)) else (some false)) else (some false)
--@ok
noncomputable def lead_field.c : Con := S100.con fun x => lead_field.f x.1 x.2
noncomputable def lead_field.G (k : Nat) : List (Go.FuncId × Con) := []
noncomputable def lead_field.cuts : List (Cut (TT S100.sb)) := []
theorem lead_field.w (k : Nat) (x : TT S100.sa) : walk E100 (lead_field.G k) (cutsAt k lead_field.cuts) (retE E100 Go.Proofs.Tryz.f100.results.toList S100) 4000 true [([], .code B100)] (St0 S100 x) = lead_field.f x.1 x.2 := by kernel_rfl
theorem lead_field.ok : FnOk Go.Proofs.Tryz.prog E100.eT 100 (lead_field.c) := FnOk.walk (E := E100) (body := B100) Go.Proofs.Tryz.func100 rfl (by rfl) Go.Proofs.Tryz.ntmps100 S100 rfl (fun k x => lead_field.f x.1 x.2) lead_field.G (fun k => trivial) 4000 lead_field.cuts trivial (fun k x r h => (lead_field.w k x).trans h) 0
noncomputable def E80 : En := ⟨Go.Proofs.Tryz.prog, 45, Go.Proofs.Tryz.f80.ntmps⟩
noncomputable def S80 : Sig := ⟨[.s, .s, .s], [(.int .u64), (.int .i64), (.int .i64)], true, [.s, .s], [(.int .u64), .err], false⟩
noncomputable def B80 : Go.Code := Go.Proofs.Tryz.f80.body.get!
def lead_Field.f (a0 : Int) (a1 : Int) (a2 : Int) : Option (Int × Option Int) := (lead_field.f a1 a2).bind fun t100 => (if t100 = true then (if 0 ≤ a1 then ((lead_ones.f a2).bind fun t101 => (some (Go.bits .and .u64 (shr .u64 a0 a1) t101, none))) else (none)) else (some (0, some 1)))
--@ok
noncomputable def lead_Field.c : Con := S80.con fun x => lead_Field.f x.1 x.2.1 x.2.2
noncomputable def lead_Field.G (k : Nat) : List (Go.FuncId × Con) := [(86, lead_ones.c), (100, lead_field.c)]
noncomputable def lead_Field.cuts : List (Cut (TT S80.sb)) := []
theorem lead_Field.w (k : Nat) (x : TT S80.sa) : walk E80 (lead_Field.G k) (cutsAt k lead_Field.cuts) (retE E80 Go.Proofs.Tryz.f80.results.toList S80) 4000 true [([], .code B80)] (St0 S80 x) = lead_Field.f x.1 x.2.1 x.2.2 := by kernel_rfl
theorem lead_Field.ok : FnOk Go.Proofs.Tryz.prog E80.eT 80 (lead_Field.c) := FnOk.walk (E := E80) (body := B80) Go.Proofs.Tryz.func80 rfl (by rfl) Go.Proofs.Tryz.ntmps80 S80 rfl (fun k x => lead_Field.f x.1 x.2.1 x.2.2) lead_Field.G (fun k => ⟨lead_ones.ok, lead_field.ok, trivial⟩) 4000 lead_Field.cuts trivial (fun k x r h => (lead_Field.w k x).trans h) 0
end Go.Proofs.YtfbbnpliaokmbaaGreat.Fn
set_option maxRecDepth 100000
set_option linter.unusedVariables false
noncomputable section
namespace Go.Proofs.YtfbbnpliaokmbaaGreat.Fn
open Go Go.RowKit Go.Proofs.YtfbbnpliaokmbaaGreat.Ab
noncomputable def E44 : En := ⟨Go.Proofs.Tryz.prog, 45, Go.Proofs.Tryz.f44.ntmps⟩
noncomputable def S44 : Sig := ⟨[.s, .s], [(.int .i64), (.int .u64)], true, [.g 8, .s], [.bool, .bool, (.int .i64), (.int .i64), (.int .i64), (.int .i64), (.int .i64), (.int .u64), .err], false⟩
noncomputable def B44 : Go.Code := Go.Proofs.Tryz.f44.body.get!
mutual
def codec_Split.j0 : Nat → Int → Int → Option Int → Bool → Option (Bool × Bool × Int × Int × Int × Int × Int × Int × Option Int)
 | 0, _, _, _, _ => none
 | k + 1, x0, x1, x7, x25 => if x25 = true then (some (false, false, 0, 0, 0, 0, 0, 0, x7)) else ((shape_Rank.f x0 x1).bind fun t101 => (if t101.1 < 0 then (codec_Split.j1 k x0 (IntKind.u64.wrap (-x1)) true) else (codec_Split.j1 k x0 x1 false)))
def codec_Split.j1 : Nat → Int → Int → Bool → Option (Bool × Bool × Int × Int × Int × Int × Int × Int × Option Int)
 | 0, _, _, _ => none
 | k + 1, x0, x1, x8000 => (lead_Run.f k x1 (wrap64 (x0 - 1))).bind fun t102 => (if t102.1 = true then ((lead_Field.f x1 (wrap64 ((mx (wrap64 ((wrap64 ((wrap64 (x0 - 1)) - t102.2.1)) - 1)) 0) - (mn (mx (wrap64 ((wrap64 ((wrap64 (x0 - 1)) - t102.2.1)) - 1)) 0) 2))) (mn (mx (wrap64 ((wrap64 ((wrap64 (x0 - 1)) - t102.2.1)) - 1)) 0) 2)).bind fun t103 => ((lead_Field.f x1 0 (wrap64 ((mx (wrap64 ((wrap64 ((wrap64 (x0 - 1)) - t102.2.1)) - 1)) 0) - (mn (mx (wrap64 ((wrap64 ((wrap64 (x0 - 1)) - t102.2.1)) - 1)) 0) 2)))).bind fun t104 => (some (x8000, t102.1, t102.2.1, wrap64 (t102.2.1 - 1), mn (mx (wrap64 ((wrap64 ((wrap64 (x0 - 1)) - t102.2.1)) - 1)) 0) 2, wrap64 ((wrap64 t103.1) * (2 ^ (((2 - (mn (mx (wrap64 ((wrap64 ((wrap64 (x0 - 1)) - t102.2.1)) - 1)) 0) 2)) : Int).toNat))), wrap64 ((mx (wrap64 ((wrap64 ((wrap64 (x0 - 1)) - t102.2.1)) - 1)) 0) - (mn (mx (wrap64 ((wrap64 ((wrap64 (x0 - 1)) - t102.2.1)) - 1)) 0) 2)), t104.1, none)))) else ((lead_Field.f x1 (wrap64 ((mx (wrap64 ((wrap64 ((wrap64 (x0 - 1)) - t102.2.1)) - 1)) 0) - (mn (mx (wrap64 ((wrap64 ((wrap64 (x0 - 1)) - t102.2.1)) - 1)) 0) 2))) (mn (mx (wrap64 ((wrap64 ((wrap64 (x0 - 1)) - t102.2.1)) - 1)) 0) 2)).bind fun t105 => ((lead_Field.f x1 0 (wrap64 ((mx (wrap64 ((wrap64 ((wrap64 (x0 - 1)) - t102.2.1)) - 1)) 0) - (mn (mx (wrap64 ((wrap64 ((wrap64 (x0 - 1)) - t102.2.1)) - 1)) 0) 2)))).bind fun t106 => (some (x8000, t102.1, t102.2.1, wrap64 (-t102.2.1), mn (mx (wrap64 ((wrap64 ((wrap64 (x0 - 1)) - t102.2.1)) - 1)) 0) 2, wrap64 ((wrap64 t105.1) * (2 ^ (((2 - (mn (mx (wrap64 ((wrap64 ((wrap64 (x0 - 1)) - t102.2.1)) - 1)) 0) 2)) : Int).toNat))), wrap64 ((mx (wrap64 ((wrap64 ((wrap64 (x0 - 1)) - t102.2.1)) - 1)) 0) - (mn (mx (wrap64 ((wrap64 ((wrap64 (x0 - 1)) - t102.2.1)) - 1)) 0) 2)), t106.1, none)))))
end
def codec_Split.f (k : Nat) (a0 : Int) (a1 : Int) : Option (Bool × Bool × Int × Int × Int × Int × Int × Int × Option Int) := (shape_Kind.f a0 a1).bind fun t100 => (if t100.2.isNone = true then (codec_Split.j0 k a0 a1 none (t100.1 != 1)) else (codec_Split.j0 k a0 a1 (some (t100.2.getD 0)) true))
--@ok
noncomputable def codec_Split.c (k : Nat) : Con := S44.con fun x => codec_Split.f k x.1 x.2
noncomputable def codec_Split.G (k : Nat) : List (Go.FuncId × Con) := [(43, shape_Kind.c), (78, shape_Rank.c), (79, lead_Run.c k), (80, lead_Field.c)]
noncomputable def codec_Split.cuts : List (Cut (TT S44.sb)) := [⟨[1, 0, 1, 1], [.sc 0 (.int .i64), .sc 1 (.int .u64), .sc 7 (.err), .sc 25 (.bool), .box 4 86 [.bool, .bool, .int .i64, .int .i64, .int .i64, .int .i64, .int .i64, .int .u64]], fun k x => codec_Split.j0 k x.1 x.2.1 x.2.2.1 x.2.2.2.1⟩, ⟨[1, 1, 1, 1, 1], [.sc 0 (.int .i64), .sc 1 (.int .u64), .box 4 86 [.bool, .bool, .int .i64, .int .i64, .int .i64, .int .i64, .int .i64, .int .u64], .box 8 86 [.bool, .bool, .int .i64, .int .i64, .int .i64, .int .i64, .int .i64, .int .u64]], fun k x => codec_Split.j1 k x.1 x.2.1 x.2.2.2.1⟩]
theorem codec_Split.w0 (k : Nat) (x : ET [.sc 0 (.int .i64), .sc 1 (.int .u64), .sc 7 (.err), .sc 25 (.bool), .box 4 86 [.bool, .bool, .int .i64, .int .i64, .int .i64, .int .i64, .int .i64, .int .u64]]) : walk E44 (codec_Split.G k) (cutsAt k codec_Split.cuts) (retE E44 Go.Proofs.Tryz.f44.results.toList S44) 4000 true (stackAt B44 [1, 0, 1, 1]) (mkE [.sc 0 (.int .i64), .sc 1 (.int .u64), .sc 7 (.err), .sc 25 (.bool), .box 4 86 [.bool, .bool, .int .i64, .int .i64, .int .i64, .int .i64, .int .i64, .int .u64]] x St.nil) = codec_Split.j0 (k + 1) x.1 x.2.1 x.2.2.1 x.2.2.2.1 := by kernel_rfl
theorem codec_Split.w1 (k : Nat) (x : ET [.sc 0 (.int .i64), .sc 1 (.int .u64), .box 4 86 [.bool, .bool, .int .i64, .int .i64, .int .i64, .int .i64, .int .i64, .int .u64], .box 8 86 [.bool, .bool, .int .i64, .int .i64, .int .i64, .int .i64, .int .i64, .int .u64]]) : walk E44 (codec_Split.G k) (cutsAt k codec_Split.cuts) (retE E44 Go.Proofs.Tryz.f44.results.toList S44) 4000 true (stackAt B44 [1, 1, 1, 1, 1]) (mkE [.sc 0 (.int .i64), .sc 1 (.int .u64), .box 4 86 [.bool, .bool, .int .i64, .int .i64, .int .i64, .int .i64, .int .i64, .int .u64], .box 8 86 [.bool, .bool, .int .i64, .int .i64, .int .i64, .int .i64, .int .i64, .int .u64]] x St.nil) = codec_Split.j1 (k + 1) x.1 x.2.1 x.2.2.2.1 := by kernel_rfl
theorem codec_Split.w (k : Nat) (x : TT S44.sa) : walk E44 (codec_Split.G k) (cutsAt k codec_Split.cuts) (retE E44 Go.Proofs.Tryz.f44.results.toList S44) 4000 true [([], .code B44)] (St0 S44 x) = codec_Split.f k x.1 x.2 := by kernel_rfl
theorem codec_Split.ok (k : Nat) : FnOk Go.Proofs.Tryz.prog E44.eT 44 (codec_Split.c k) := FnOk.walk (E := E44) (body := B44) Go.Proofs.Tryz.func44 rfl (by rfl) Go.Proofs.Tryz.ntmps44 S44 rfl (fun k x => codec_Split.f k x.1 x.2) codec_Split.G (fun k => ⟨shape_Kind.ok, shape_Rank.ok, lead_Run.ok k, lead_Field.ok, trivial⟩) 4000 codec_Split.cuts ⟨⟨fun _ => rfl, fun k x q h => (codec_Split.w0 k x).trans h⟩, ⟨fun _ => rfl, fun k x q h => (codec_Split.w1 k x).trans h⟩, trivial⟩ (fun k x r h => (codec_Split.w k x).trans h) k
noncomputable def E19 : En := ⟨Go.Proofs.Tryz.prog, 45, Go.Proofs.Tryz.f19.ntmps⟩
noncomputable def S19 : Sig := ⟨[.s, .s], [(.int .i64), (.int .u64)], true, [.g 4, .s], [(.int .i64), .bool, (.int .i64), (.int .u64), .err], false⟩
noncomputable def B19 : Go.Code := Go.Proofs.Tryz.f19.body.get!
def codec_Decode.f (k : Nat) (a0 : Int) (a1 : Int) : Option (Int × Bool × Int × Int × Option Int) := (shape_Kind.f a0 a1).bind fun t100 => (if t100.2.isNone = true then (if t100.1 = 1 then ((codec_Split.f k a0 a1).bind fun t101 => (if 0 ≤ (wrap64 (63 - t101.2.2.2.2.2.2.1)) then (some (t100.1, t101.1, wrap64 ((wrap64 (4 * t101.2.2.2.1)) + t101.2.2.2.2.2.1), Go.bits .or .u64 9223372036854775808 (shl .u64 t101.2.2.2.2.2.2.2.1 (wrap64 (63 - t101.2.2.2.2.2.2.1))), none)) else (none))) else (some (t100.1, false, 0, 0, none))) else (some (t100.1, false, 0, 0, some (t100.2.getD 0))))
--@ok
noncomputable def codec_Decode.c (k : Nat) : Con := S19.con fun x => codec_Decode.f k x.1 x.2
noncomputable def codec_Decode.G (k : Nat) : List (Go.FuncId × Con) := [(43, shape_Kind.c), (44, codec_Split.c k)]
noncomputable def codec_Decode.cuts : List (Cut (TT S19.sb)) := []
theorem codec_Decode.w (k : Nat) (x : TT S19.sa) : walk E19 (codec_Decode.G k) (cutsAt k codec_Decode.cuts) (retE E19 Go.Proofs.Tryz.f19.results.toList S19) 4000 true [([], .code B19)] (St0 S19 x) = codec_Decode.f k x.1 x.2 := by kernel_rfl
theorem codec_Decode.ok (k : Nat) : FnOk Go.Proofs.Tryz.prog E19.eT 19 (codec_Decode.c k) := FnOk.walk (E := E19) (body := B19) Go.Proofs.Tryz.func19 rfl (by rfl) Go.Proofs.Tryz.ntmps19 S19 rfl (fun k x => codec_Decode.f k x.1 x.2) codec_Decode.G (fun k => ⟨shape_Kind.ok, codec_Split.ok k, trivial⟩) 4000 codec_Decode.cuts trivial (fun k x r h => (codec_Decode.w k x).trans h) k
noncomputable def E81 : En := ⟨Go.Proofs.Tryz.prog, 45, Go.Proofs.Tryz.f81.ntmps⟩
noncomputable def S81 : Sig := ⟨[.s], [(.int .i64)], false, [.s], [(.int .i64)], false⟩
noncomputable def B81 : Go.Code := Go.Proofs.Tryz.f81.body.get!
def round_held.f (a0 : Int) : Option (Int) := some (mx (-1099511627776) (mn a0 1099511627776))
--@ok
noncomputable def round_held.c : Con := S81.con fun x => round_held.f x
noncomputable def round_held.G (k : Nat) : List (Go.FuncId × Con) := []
noncomputable def round_held.cuts : List (Cut (TT S81.sb)) := []
theorem round_held.w (k : Nat) (x : TT S81.sa) : walk E81 (round_held.G k) (cutsAt k round_held.cuts) (retE E81 Go.Proofs.Tryz.f81.results.toList S81) 4000 true [([], .code B81)] (St0 S81 x) = round_held.f x := by kernel_rfl
theorem round_held.ok : FnOk Go.Proofs.Tryz.prog E81.eT 81 (round_held.c) := FnOk.walk (E := E81) (body := B81) Go.Proofs.Tryz.func81 rfl (by rfl) Go.Proofs.Tryz.ntmps81 S81 rfl (fun k x => round_held.f x) round_held.G (fun k => trivial) 4000 round_held.cuts trivial (fun k x r h => (round_held.w k x).trans h) 0
noncomputable def E45 : En := ⟨Go.Proofs.Tryz.prog, 45, Go.Proofs.Tryz.f45.ntmps⟩
noncomputable def S45 : Sig := ⟨[.g 6], [(.int .i64), .bool, (.int .i64), (.int .u64), (.int .u64), .bool], false, [.s], [.bool], false⟩
noncomputable def B45 : Go.Code := Go.Proofs.Tryz.f45.body.get!
def round_sound.j0 : Nat → Int → Bool → Int → Bool → Int → Int → Int → Bool → Option (Bool)
 | 0, _, _, _, _, _, _, _, _ => none
 | k + 1, x4, x5, x1000, x1001, x1002, x1003, x1004, x1005 => if x5 = true then (some ((x1000 == x1000) && ((!x1001) && ((x1002 == 0) && ((x1003 == 0) && ((x1004 == 0) && (!x1005))))))) else (if x4 = 1 then (if (x1003 / 9223372036854775808) = 1 then ((round_held.f x1002).bind fun t100 => (some (x1002 == t100))) else (some false)) else (some false))
def round_sound.f (k : Nat) (a0_0 : Int) (a0_1 : Bool) (a0_2 : Int) (a0_3 : Int) (a0_4 : Int) (a0_5 : Bool) : Option (Bool) := if a0_0 = 0 then (round_sound.j0 k a0_0 (a0_0 == 0) a0_0 a0_1 a0_2 a0_3 a0_4 a0_5) else (round_sound.j0 k a0_0 (a0_0 == 2) a0_0 a0_1 a0_2 a0_3 a0_4 a0_5)
--@ok
noncomputable def round_sound.c (k : Nat) : Con := S45.con fun x => round_sound.f k x.1 x.2.1 x.2.2.1 x.2.2.2.1 x.2.2.2.2.1 x.2.2.2.2.2
noncomputable def round_sound.G (k : Nat) : List (Go.FuncId × Con) := [(81, round_held.c)]
noncomputable def round_sound.cuts : List (Cut (TT S45.sb)) := [⟨[1, 4, 1, 0, 1], [.sc 4 (.int .i64), .sc 5 (.bool), .box 1 34 [.int .i64, .bool, .int .i64, .int .u64, .int .u64, .bool]], fun k x => round_sound.j0 k x.1 x.2.1 x.2.2.1 x.2.2.2.1 x.2.2.2.2.1 x.2.2.2.2.2.1 x.2.2.2.2.2.2.1 x.2.2.2.2.2.2.2⟩]
theorem round_sound.w0 (k : Nat) (x : ET [.sc 4 (.int .i64), .sc 5 (.bool), .box 1 34 [.int .i64, .bool, .int .i64, .int .u64, .int .u64, .bool]]) : walk E45 (round_sound.G k) (cutsAt k round_sound.cuts) (retE E45 Go.Proofs.Tryz.f45.results.toList S45) 4000 true (stackAt B45 [1, 4, 1, 0, 1]) (mkE [.sc 4 (.int .i64), .sc 5 (.bool), .box 1 34 [.int .i64, .bool, .int .i64, .int .u64, .int .u64, .bool]] x St.nil) = round_sound.j0 (k + 1) x.1 x.2.1 x.2.2.1 x.2.2.2.1 x.2.2.2.2.1 x.2.2.2.2.2.1 x.2.2.2.2.2.2.1 x.2.2.2.2.2.2.2 := by kernel_rfl
theorem round_sound.w (k : Nat) (x : TT S45.sa) : walk E45 (round_sound.G k) (cutsAt k round_sound.cuts) (retE E45 Go.Proofs.Tryz.f45.results.toList S45) 4000 true [([], .code B45)] (St0 S45 x) = round_sound.f k x.1 x.2.1 x.2.2.1 x.2.2.2.1 x.2.2.2.2.1 x.2.2.2.2.2 := by kernel_rfl
theorem round_sound.ok (k : Nat) : FnOk Go.Proofs.Tryz.prog E45.eT 45 (round_sound.c k) := FnOk.walk (E := E45) (body := B45) Go.Proofs.Tryz.func45 rfl (by rfl) Go.Proofs.Tryz.ntmps45 S45 rfl (fun k x => round_sound.f k x.1 x.2.1 x.2.2.1 x.2.2.2.1 x.2.2.2.2.1 x.2.2.2.2.2) round_sound.G (fun k => ⟨round_held.ok, trivial⟩) 4000 round_sound.cuts ⟨⟨fun _ => rfl, fun k x q h => (round_sound.w0 k x).trans h⟩, trivial⟩ (fun k x r h => (round_sound.w k x).trans h) k
noncomputable def E20 : En := ⟨Go.Proofs.Tryz.prog, 45, Go.Proofs.Tryz.f20.ntmps⟩
noncomputable def S20 : Sig := ⟨[.g 4], [(.int .i64), .bool, (.int .i64), (.int .u64)], true, [.g 6, .s], [(.int .i64), .bool, (.int .i64), (.int .u64), (.int .u64), .bool, .err], false⟩
noncomputable def B20 : Go.Code := Go.Proofs.Tryz.f20.body.get!
def round_Of.f (k : Nat) (a0_0 : Int) (a0_1 : Bool) (a0_2 : Int) (a0_3 : Int) : Option (Int × Bool × Int × Int × Int × Bool × Option Int) := (round_sound.f k a0_0 a0_1 a0_2 a0_3 0 false).bind fun t100 => (if t100 = true then (if a0_2 < (-1073741824) then (some (0, false, 0, 0, 0, false, some 1)) else (if a0_2 > 1073741824 then (some (0, false, 0, 0, 0, false, some 1)) else (some (a0_0, a0_1, a0_2, a0_3, 0, false, none)))) else (some (0, false, 0, 0, 0, false, some 1)))
--@ok
noncomputable def round_Of.c (k : Nat) : Con := S20.con fun x => round_Of.f k x.1 x.2.1 x.2.2.1 x.2.2.2
noncomputable def round_Of.G (k : Nat) : List (Go.FuncId × Con) := [(45, round_sound.c k)]
noncomputable def round_Of.cuts : List (Cut (TT S20.sb)) := []
theorem round_Of.w (k : Nat) (x : TT S20.sa) : walk E20 (round_Of.G k) (cutsAt k round_Of.cuts) (retE E20 Go.Proofs.Tryz.f20.results.toList S20) 4000 true [([], .code B20)] (St0 S20 x) = round_Of.f k x.1 x.2.1 x.2.2.1 x.2.2.2 := by kernel_rfl
theorem round_Of.ok (k : Nat) : FnOk Go.Proofs.Tryz.prog E20.eT 20 (round_Of.c k) := FnOk.walk (E := E20) (body := B20) Go.Proofs.Tryz.func20 rfl (by rfl) Go.Proofs.Tryz.ntmps20 S20 rfl (fun k x => round_Of.f k x.1 x.2.1 x.2.2.1 x.2.2.2) round_Of.G (fun k => ⟨round_sound.ok k, trivial⟩) 4000 round_Of.cuts trivial (fun k x r h => (round_Of.w k x).trans h) k
noncomputable def E82 : En := ⟨Go.Proofs.Tryz.prog, 45, Go.Proofs.Tryz.f82.ntmps⟩
noncomputable def S82 : Sig := ⟨[.s, .s], [(.int .u64), (.int .u64)], true, [.s, .s], [(.int .u64), (.int .u64)], false⟩
noncomputable def B82 : Go.Code := Go.Proofs.Tryz.f82.body.get!
def bits_Mul64.f (a0 : Int) (a1 : Int) : Option (Int × Int) := some (IntKind.u64.wrap ((IntKind.u64.wrap ((IntKind.u64.wrap ((a0 / 4294967296) * (a1 / 4294967296))) + ((IntKind.u64.wrap ((IntKind.u64.wrap ((a0 / 4294967296) * (Go.bits .and .u64 a1 4294967295))) + ((IntKind.u64.wrap ((Go.bits .and .u64 a0 4294967295) * (Go.bits .and .u64 a1 4294967295))) / 4294967296))) / 4294967296))) + ((IntKind.u64.wrap ((Go.bits .and .u64 (IntKind.u64.wrap ((IntKind.u64.wrap ((a0 / 4294967296) * (Go.bits .and .u64 a1 4294967295))) + ((IntKind.u64.wrap ((Go.bits .and .u64 a0 4294967295) * (Go.bits .and .u64 a1 4294967295))) / 4294967296))) 4294967295) + (IntKind.u64.wrap ((Go.bits .and .u64 a0 4294967295) * (a1 / 4294967296))))) / 4294967296)), IntKind.u64.wrap (a0 * a1))
--@ok
noncomputable def bits_Mul64.c : Con := S82.con fun x => bits_Mul64.f x.1 x.2
noncomputable def bits_Mul64.G (k : Nat) : List (Go.FuncId × Con) := []
noncomputable def bits_Mul64.cuts : List (Cut (TT S82.sb)) := []
theorem bits_Mul64.w (k : Nat) (x : TT S82.sa) : walk E82 (bits_Mul64.G k) (cutsAt k bits_Mul64.cuts) (retE E82 Go.Proofs.Tryz.f82.results.toList S82) 4000 true [([], .code B82)] (St0 S82 x) = bits_Mul64.f x.1 x.2 := by kernel_rfl
theorem bits_Mul64.ok : FnOk Go.Proofs.Tryz.prog E82.eT 82 (bits_Mul64.c) := FnOk.walk (E := E82) (body := B82) Go.Proofs.Tryz.func82 rfl (by rfl) Go.Proofs.Tryz.ntmps82 S82 rfl (fun k x => bits_Mul64.f x.1 x.2) bits_Mul64.G (fun k => trivial) 4000 bits_Mul64.cuts trivial (fun k x r h => (bits_Mul64.w k x).trans h) 0
noncomputable def E46 : En := ⟨Go.Proofs.Tryz.prog, 45, Go.Proofs.Tryz.f46.ntmps⟩
noncomputable def S46 : Sig := ⟨[.s, .s], [(.int .u64), (.int .u64)], false, [.g 2], [(.int .u64), (.int .u64)], false⟩
noncomputable def B46 : Go.Code := Go.Proofs.Tryz.f46.body.get!
def twin_Mul.f (a0 : Int) (a1 : Int) : Option (Int × Int) := (bits_Mul64.f a0 a1).bind fun t100 => (some (t100.1, t100.2))
--@ok
noncomputable def twin_Mul.c : Con := S46.con fun x => twin_Mul.f x.1 x.2
noncomputable def twin_Mul.G (k : Nat) : List (Go.FuncId × Con) := [(82, bits_Mul64.c)]
noncomputable def twin_Mul.cuts : List (Cut (TT S46.sb)) := []
theorem twin_Mul.w (k : Nat) (x : TT S46.sa) : walk E46 (twin_Mul.G k) (cutsAt k twin_Mul.cuts) (retE E46 Go.Proofs.Tryz.f46.results.toList S46) 4000 true [([], .code B46)] (St0 S46 x) = twin_Mul.f x.1 x.2 := by kernel_rfl
theorem twin_Mul.ok : FnOk Go.Proofs.Tryz.prog E46.eT 46 (twin_Mul.c) := FnOk.walk (E := E46) (body := B46) Go.Proofs.Tryz.func46 rfl (by rfl) Go.Proofs.Tryz.ntmps46 S46 rfl (fun k x => twin_Mul.f x.1 x.2) twin_Mul.G (fun k => ⟨bits_Mul64.ok, trivial⟩) 4000 twin_Mul.cuts trivial (fun k x r h => (twin_Mul.w k x).trans h) 0
noncomputable def E49 : En := ⟨Go.Proofs.Tryz.prog, 45, Go.Proofs.Tryz.f49.ntmps⟩
noncomputable def S49 : Sig := ⟨[.g 2, .s], [(.int .u64), (.int .u64), (.int .i64)], false, [.g 2], [(.int .u64), (.int .u64)], false⟩
noncomputable def B49 : Go.Code := Go.Proofs.Tryz.f49.body.get!
def twin_shl.f (a0_0 : Int) (a0_1 : Int) (a1 : Int) : Option (Int × Int) := if a1 ≥ 64 then (if 0 ≤ (wrap64 (a1 - 64)) then (some (shl .u64 a0_1 (wrap64 (a1 - 64)), 0)) else (none)) else (if 0 ≤ a1 then (if 0 ≤ (wrap64 (64 - a1)) then (some (Go.bits .or .u64 (shl .u64 a0_0 a1) (shr .u64 a0_1 (wrap64 (64 - a1))), shl .u64 a0_1 a1)) else (none)) else (none))
--@ok
def twin_shl.fR (a0_0 : Int) (a0_1 : Int) (a1 : Int) : Option (Int × Int) := if a1 ≥ 64 then (if 0 ≤ (wrap64 (a1 - 64)) then (some (shl .u64 a0_1 (wrap64 (a1 - 64)), 0)) else (none)) else (if 0 ≤ a1 then (if 0 ≤ (wrap64 (64 - a1)) then (if 0 ≤ a1 then (some (Go.bits .or .u64 (shl .u64 a0_0 a1) (shr .u64 a0_1 (wrap64 (64 - a1))), shl .u64 a0_1 a1)) else (none)) else (none)) else (none))
theorem twin_shl.fE (a0_0 : Int) (a0_1 : Int) (a1 : Int) : twin_shl.fR a0_0 a0_1 a1 = twin_shl.f a0_0 a0_1 a1 := by
  unfold twin_shl.fR twin_shl.f
  exact iteC (fun h0 => iteC (fun h1 => rfl) (fun h1 => rfl)) (fun h0 => iteC (fun h1 => iteC (fun h2 => (if_pos h1).trans (rfl)) (fun h2 => rfl)) (fun h1 => rfl))
noncomputable def twin_shl.c : Con := S49.con fun x => twin_shl.f x.1 x.2.1 x.2.2
noncomputable def twin_shl.G (k : Nat) : List (Go.FuncId × Con) := []
noncomputable def twin_shl.cuts : List (Cut (TT S49.sb)) := []
theorem twin_shl.w (k : Nat) (x : TT S49.sa) : walk E49 (twin_shl.G k) (cutsAt k twin_shl.cuts) (retE E49 Go.Proofs.Tryz.f49.results.toList S49) 4000 true [([], .code B49)] (St0 S49 x) = twin_shl.f x.1 x.2.1 x.2.2 := Eq.trans (b := twin_shl.fR x.1 x.2.1 x.2.2) (by kernel_rfl) (twin_shl.fE x.1 x.2.1 x.2.2)
theorem twin_shl.ok : FnOk Go.Proofs.Tryz.prog E49.eT 49 (twin_shl.c) := FnOk.walk (E := E49) (body := B49) Go.Proofs.Tryz.func49 rfl (by rfl) Go.Proofs.Tryz.ntmps49 S49 rfl (fun k x => twin_shl.f x.1 x.2.1 x.2.2) twin_shl.G (fun k => trivial) 4000 twin_shl.cuts trivial (fun k x r h => (twin_shl.w k x).trans h) 0
noncomputable def E85 : En := ⟨Go.Proofs.Tryz.prog, 45, Go.Proofs.Tryz.f85.ntmps⟩
noncomputable def S85 : Sig := ⟨[.g 2], [(.int .u64), (.int .u64)], false, [.s], [(.int .i64)], false⟩
noncomputable def B85 : Go.Code := Go.Proofs.Tryz.f85.body.get!
def twin_Len.f (a0_0 : Int) (a0_1 : Int) : Option (Int) := if a0_0 > 0 then ((bits_Len64.f a0_0).bind fun t100 => (some (wrap64 (64 + t100)))) else ((bits_Len64.f a0_1).bind fun t101 => (some t101))
--@ok
noncomputable def twin_Len.c : Con := S85.con fun x => twin_Len.f x.1 x.2
noncomputable def twin_Len.G (k : Nat) : List (Go.FuncId × Con) := [(84, bits_Len64.c)]
noncomputable def twin_Len.cuts : List (Cut (TT S85.sb)) := []
theorem twin_Len.w (k : Nat) (x : TT S85.sa) : walk E85 (twin_Len.G k) (cutsAt k twin_Len.cuts) (retE E85 Go.Proofs.Tryz.f85.results.toList S85) 4000 true [([], .code B85)] (St0 S85 x) = twin_Len.f x.1 x.2 := by kernel_rfl
theorem twin_Len.ok : FnOk Go.Proofs.Tryz.prog E85.eT 85 (twin_Len.c) := FnOk.walk (E := E85) (body := B85) Go.Proofs.Tryz.func85 rfl (by rfl) Go.Proofs.Tryz.ntmps85 S85 rfl (fun k x => twin_Len.f x.1 x.2) twin_Len.G (fun k => ⟨bits_Len64.ok, trivial⟩) 4000 twin_Len.cuts trivial (fun k x r h => (twin_Len.w k x).trans h) 0
noncomputable def E83 : En := ⟨Go.Proofs.Tryz.prog, 45, Go.Proofs.Tryz.f83.ntmps⟩
noncomputable def S83 : Sig := ⟨[.g 2], [(.int .u64), (.int .u64)], true, [.g 2, .s], [(.int .u64), (.int .u64), (.int .i64)], false⟩
noncomputable def B83 : Go.Code := Go.Proofs.Tryz.f83.body.get!
def twin_Norm.f (a0_0 : Int) (a0_1 : Int) : Option (Int × Int × Int) := if ((a0_0 == 0) && (a0_1 == 0)) = true then (some (a0_0, a0_1, 0)) else ((twin_Len.f a0_0 a0_1).bind fun t100 => ((twin_shl.f a0_0 a0_1 (wrap64 (128 - t100))).bind fun t101 => (some (t101.1, t101.2, wrap64 (128 - t100)))))
--@ok
noncomputable def twin_Norm.c : Con := S83.con fun x => twin_Norm.f x.1 x.2
noncomputable def twin_Norm.G (k : Nat) : List (Go.FuncId × Con) := [(49, twin_shl.c), (85, twin_Len.c)]
noncomputable def twin_Norm.cuts : List (Cut (TT S83.sb)) := []
theorem twin_Norm.w (k : Nat) (x : TT S83.sa) : walk E83 (twin_Norm.G k) (cutsAt k twin_Norm.cuts) (retE E83 Go.Proofs.Tryz.f83.results.toList S83) 4000 true [([], .code B83)] (St0 S83 x) = twin_Norm.f x.1 x.2 := by kernel_rfl
theorem twin_Norm.ok : FnOk Go.Proofs.Tryz.prog E83.eT 83 (twin_Norm.c) := FnOk.walk (E := E83) (body := B83) Go.Proofs.Tryz.func83 rfl (by rfl) Go.Proofs.Tryz.ntmps83 S83 rfl (fun k x => twin_Norm.f x.1 x.2) twin_Norm.G (fun k => ⟨twin_shl.ok, twin_Len.ok, trivial⟩) 4000 twin_Norm.cuts trivial (fun k x r h => (twin_Norm.w k x).trans h) 0
noncomputable def E47 : En := ⟨Go.Proofs.Tryz.prog, 45, Go.Proofs.Tryz.f47.ntmps⟩
noncomputable def S47 : Sig := ⟨[.s, .s, .s, .s, .s], [.bool, (.int .u64), (.int .u64), (.int .i64), .bool], true, [.g 6, .s], [(.int .i64), .bool, (.int .i64), (.int .u64), (.int .u64), .bool, .err], false⟩
noncomputable def B47 : Go.Code := Go.Proofs.Tryz.f47.body.get!
def round_Make.j0 : Nat → Bool → Int → Int → Int → Bool → Bool → Option (Int × Bool × Int × Int × Int × Bool × Option Int)
 | 0, _, _, _, _, _, _ => none
 | k + 1, x0, x1, x2, x3, x4, x19 => if x19 = true then (some (0, false, 0, 0, 0, false, some 1)) else ((twin_Norm.f x1 x2).bind fun t100 => (if ((t100.1 == 0) && (t100.2.1 == 0)) = true then (some (0, false, 0, 0, 0, false, none)) else ((round_held.f (wrap64 (((mx (-4398046511104) (mn x3 4398046511104)) + 127) - t100.2.2))).bind fun t101 => (some (1, x0, t101, t100.1, t100.2.1, x4, none)))))
def round_Make.f (k : Nat) (a0 : Bool) (a1 : Int) (a2 : Int) (a3 : Int) (a4 : Bool) : Option (Int × Bool × Int × Int × Int × Bool × Option Int) := if a4 = true then (round_Make.j0 k a0 a1 a2 a3 a4 ((a1 / 9223372036854775808) == 0)) else (round_Make.j0 k a0 a1 a2 a3 a4 false)
--@ok
noncomputable def round_Make.c (k : Nat) : Con := S47.con fun x => round_Make.f k x.1 x.2.1 x.2.2.1 x.2.2.2.1 x.2.2.2.2
noncomputable def round_Make.G (k : Nat) : List (Go.FuncId × Con) := [(81, round_held.c), (83, twin_Norm.c)]
noncomputable def round_Make.cuts : List (Cut (TT S47.sb)) := [⟨[1, 0, 1], [.sc 0 (.bool), .sc 1 (.int .u64), .sc 2 (.int .u64), .sc 3 (.int .i64), .sc 4 (.bool), .sc 19 (.bool), .box 10 34 [.int .i64, .bool, .int .i64, .int .u64, .int .u64, .bool]], fun k x => round_Make.j0 k x.1 x.2.1 x.2.2.1 x.2.2.2.1 x.2.2.2.2.1 x.2.2.2.2.2.1⟩]
theorem round_Make.w0 (k : Nat) (x : ET [.sc 0 (.bool), .sc 1 (.int .u64), .sc 2 (.int .u64), .sc 3 (.int .i64), .sc 4 (.bool), .sc 19 (.bool), .box 10 34 [.int .i64, .bool, .int .i64, .int .u64, .int .u64, .bool]]) : walk E47 (round_Make.G k) (cutsAt k round_Make.cuts) (retE E47 Go.Proofs.Tryz.f47.results.toList S47) 4000 true (stackAt B47 [1, 0, 1]) (mkE [.sc 0 (.bool), .sc 1 (.int .u64), .sc 2 (.int .u64), .sc 3 (.int .i64), .sc 4 (.bool), .sc 19 (.bool), .box 10 34 [.int .i64, .bool, .int .i64, .int .u64, .int .u64, .bool]] x St.nil) = round_Make.j0 (k + 1) x.1 x.2.1 x.2.2.1 x.2.2.2.1 x.2.2.2.2.1 x.2.2.2.2.2.1 := by kernel_rfl
theorem round_Make.w (k : Nat) (x : TT S47.sa) : walk E47 (round_Make.G k) (cutsAt k round_Make.cuts) (retE E47 Go.Proofs.Tryz.f47.results.toList S47) 4000 true [([], .code B47)] (St0 S47 x) = round_Make.f k x.1 x.2.1 x.2.2.1 x.2.2.2.1 x.2.2.2.2 := by kernel_rfl
theorem round_Make.ok (k : Nat) : FnOk Go.Proofs.Tryz.prog E47.eT 47 (round_Make.c k) := FnOk.walk (E := E47) (body := B47) Go.Proofs.Tryz.func47 rfl (by rfl) Go.Proofs.Tryz.ntmps47 S47 rfl (fun k x => round_Make.f k x.1 x.2.1 x.2.2.1 x.2.2.2.1 x.2.2.2.2) round_Make.G (fun k => ⟨round_held.ok, twin_Norm.ok, trivial⟩) 4000 round_Make.cuts ⟨⟨fun _ => rfl, fun k x q h => (round_Make.w0 k x).trans h⟩, trivial⟩ (fun k x r h => (round_Make.w k x).trans h) k
noncomputable def E21 : En := ⟨Go.Proofs.Tryz.prog, 45, Go.Proofs.Tryz.f21.ntmps⟩
noncomputable def S21 : Sig := ⟨[.g 4, .g 4], [(.int .i64), .bool, (.int .i64), (.int .u64), (.int .i64), .bool, (.int .i64), (.int .u64)], true, [.g 6, .s], [(.int .i64), .bool, (.int .i64), (.int .u64), (.int .u64), .bool, .err], false⟩
noncomputable def B21 : Go.Code := Go.Proofs.Tryz.f21.body.get!
mutual
def prod_Exact.j0 : Nat → Bool → Int → Bool → Int → Int → Int → Bool → Int → Int → Option (Int × Bool × Int × Int × Int × Bool × Option Int)
 | 0, _, _, _, _, _, _, _, _, _ => none
 | k + 1, x29, x2000, x2001, x2002, x2003, x3000, x3001, x3002, x3003 => if x29 = true then (some (2, false, 0, 0, 0, false, none)) else (if x2000 = 0 then (prod_Exact.j1 k (x2000 == 0) x2001 x2002 x2003 x3001 x3002 x3003) else (prod_Exact.j1 k (x3000 == 0) x2001 x2002 x2003 x3001 x3002 x3003))
def prod_Exact.j1 : Nat → Bool → Bool → Int → Int → Bool → Int → Int → Option (Int × Bool × Int × Int × Int × Bool × Option Int)
 | 0, _, _, _, _, _, _, _ => none
 | k + 1, x37, x2001, x2002, x2003, x3001, x3002, x3003 => if x37 = true then (some (0, false, 0, 0, 0, false, none)) else ((twin_Mul.f x2003 x3003).bind fun t102 => ((round_Make.f k (!(x2001 == x3001)) t102.1 t102.2 (wrap64 ((wrap64 (x2002 + x3002)) - 126)) false).bind fun t103 => (some (t103.1, t103.2.1, t103.2.2.1, t103.2.2.2.1, t103.2.2.2.2.1, t103.2.2.2.2.2.1, t103.2.2.2.2.2.2))))
end
def prod_Exact.f (k : Nat) (a0_0 : Int) (a0_1 : Bool) (a0_2 : Int) (a0_3 : Int) (a1_0 : Int) (a1_1 : Bool) (a1_2 : Int) (a1_3 : Int) : Option (Int × Bool × Int × Int × Int × Bool × Option Int) := (round_Of.f k a0_0 a0_1 a0_2 a0_3).bind fun t100 => (if t100.2.2.2.2.2.2.isNone = true then ((round_Of.f k a1_0 a1_1 a1_2 a1_3).bind fun t101 => (if t101.2.2.2.2.2.2.isNone = true then (if a0_0 = 2 then (prod_Exact.j0 k (a0_0 == 2) a0_0 a0_1 a0_2 a0_3 a1_0 a1_1 a1_2 a1_3) else (prod_Exact.j0 k (a1_0 == 2) a0_0 a0_1 a0_2 a0_3 a1_0 a1_1 a1_2 a1_3)) else (some (0, false, 0, 0, 0, false, some (t101.2.2.2.2.2.2.getD 0))))) else (some (0, false, 0, 0, 0, false, some (t100.2.2.2.2.2.2.getD 0))))
--@ok
noncomputable def prod_Exact.c (k : Nat) : Con := S21.con fun x => prod_Exact.f k x.1 x.2.1 x.2.2.1 x.2.2.2.1 x.2.2.2.2.1 x.2.2.2.2.2.1 x.2.2.2.2.2.2.1 x.2.2.2.2.2.2.2
noncomputable def prod_Exact.G (k : Nat) : List (Go.FuncId × Con) := [(20, round_Of.c k), (46, twin_Mul.c), (47, round_Make.c k)]
noncomputable def prod_Exact.cuts : List (Cut (TT S21.sb)) := [⟨[1, 4, 0, 1, 1], [.sc 29 (.bool), .box 2 47 [.int .i64, .bool, .int .i64, .int .u64], .box 3 47 [.int .i64, .bool, .int .i64, .int .u64], .box 4 34 [.int .i64, .bool, .int .i64, .int .u64, .int .u64, .bool]], fun k x => prod_Exact.j0 k x.1 x.2.1.1 x.2.1.2.1 x.2.1.2.2.1 x.2.1.2.2.2 x.2.2.1.1 x.2.2.1.2.1 x.2.2.1.2.2.1 x.2.2.1.2.2.2⟩, ⟨[1, 3, 1, 4, 0, 1, 1], [.sc 37 (.bool), .box 2 47 [.int .i64, .bool, .int .i64, .int .u64], .box 3 47 [.int .i64, .bool, .int .i64, .int .u64], .box 4 34 [.int .i64, .bool, .int .i64, .int .u64, .int .u64, .bool]], fun k x => prod_Exact.j1 k x.1 x.2.1.2.1 x.2.1.2.2.1 x.2.1.2.2.2 x.2.2.1.2.1 x.2.2.1.2.2.1 x.2.2.1.2.2.2⟩]
theorem prod_Exact.w0 (k : Nat) (x : ET [.sc 29 (.bool), .box 2 47 [.int .i64, .bool, .int .i64, .int .u64], .box 3 47 [.int .i64, .bool, .int .i64, .int .u64], .box 4 34 [.int .i64, .bool, .int .i64, .int .u64, .int .u64, .bool]]) : walk E21 (prod_Exact.G k) (cutsAt k prod_Exact.cuts) (retE E21 Go.Proofs.Tryz.f21.results.toList S21) 4000 true (stackAt B21 [1, 4, 0, 1, 1]) (mkE [.sc 29 (.bool), .box 2 47 [.int .i64, .bool, .int .i64, .int .u64], .box 3 47 [.int .i64, .bool, .int .i64, .int .u64], .box 4 34 [.int .i64, .bool, .int .i64, .int .u64, .int .u64, .bool]] x St.nil) = prod_Exact.j0 (k + 1) x.1 x.2.1.1 x.2.1.2.1 x.2.1.2.2.1 x.2.1.2.2.2 x.2.2.1.1 x.2.2.1.2.1 x.2.2.1.2.2.1 x.2.2.1.2.2.2 := by kernel_rfl
theorem prod_Exact.w1 (k : Nat) (x : ET [.sc 37 (.bool), .box 2 47 [.int .i64, .bool, .int .i64, .int .u64], .box 3 47 [.int .i64, .bool, .int .i64, .int .u64], .box 4 34 [.int .i64, .bool, .int .i64, .int .u64, .int .u64, .bool]]) : walk E21 (prod_Exact.G k) (cutsAt k prod_Exact.cuts) (retE E21 Go.Proofs.Tryz.f21.results.toList S21) 4000 true (stackAt B21 [1, 3, 1, 4, 0, 1, 1]) (mkE [.sc 37 (.bool), .box 2 47 [.int .i64, .bool, .int .i64, .int .u64], .box 3 47 [.int .i64, .bool, .int .i64, .int .u64], .box 4 34 [.int .i64, .bool, .int .i64, .int .u64, .int .u64, .bool]] x St.nil) = prod_Exact.j1 (k + 1) x.1 x.2.1.2.1 x.2.1.2.2.1 x.2.1.2.2.2 x.2.2.1.2.1 x.2.2.1.2.2.1 x.2.2.1.2.2.2 := by kernel_rfl
theorem prod_Exact.w (k : Nat) (x : TT S21.sa) : walk E21 (prod_Exact.G k) (cutsAt k prod_Exact.cuts) (retE E21 Go.Proofs.Tryz.f21.results.toList S21) 4000 true [([], .code B21)] (St0 S21 x) = prod_Exact.f k x.1 x.2.1 x.2.2.1 x.2.2.2.1 x.2.2.2.2.1 x.2.2.2.2.2.1 x.2.2.2.2.2.2.1 x.2.2.2.2.2.2.2 := by kernel_rfl
theorem prod_Exact.ok (k : Nat) : FnOk Go.Proofs.Tryz.prog E21.eT 21 (prod_Exact.c k) := FnOk.walk (E := E21) (body := B21) Go.Proofs.Tryz.func21 rfl (by rfl) Go.Proofs.Tryz.ntmps21 S21 rfl (fun k x => prod_Exact.f k x.1 x.2.1 x.2.2.1 x.2.2.2.1 x.2.2.2.2.1 x.2.2.2.2.2.1 x.2.2.2.2.2.2.1 x.2.2.2.2.2.2.2) prod_Exact.G (fun k => ⟨round_Of.ok k, twin_Mul.ok, round_Make.ok k, trivial⟩) 4000 prod_Exact.cuts ⟨⟨fun _ => rfl, fun k x q h => (prod_Exact.w0 k x).trans h⟩, ⟨fun _ => rfl, fun k x q h => (prod_Exact.w1 k x).trans h⟩, trivial⟩ (fun k x r h => (prod_Exact.w k x).trans h) k
end Go.Proofs.YtfbbnpliaokmbaaGreat.Fn
set_option maxRecDepth 100000
set_option linter.unusedVariables false
noncomputable section
namespace Go.Proofs.YtfbbnpliaokmbaaGreat.Fn
open Go Go.RowKit Go.Proofs.YtfbbnpliaokmbaaGreat.Ab
noncomputable def E9 : En := ⟨Go.Proofs.Tryz.prog, 45, Go.Proofs.Tryz.f9.ntmps⟩
noncomputable def S9 : Sig := ⟨[.s, .s, .s], [(.int .i64), (.int .u64), (.int .u64)], true, [.g 6, .s], [(.int .i64), .bool, (.int .i64), (.int .u64), (.int .u64), .bool, .err], false⟩
noncomputable def B9 : Go.Code := Go.Proofs.Tryz.f9.body.get!
def fuse_product.f (k : Nat) (a0 : Int) (a1 : Int) (a2 : Int) : Option (Int × Bool × Int × Int × Int × Bool × Option Int) := (codec_Decode.f k a0 a1).bind fun t100 => (if t100.2.2.2.2.isNone = true then ((codec_Decode.f k a0 a2).bind fun t101 => ((prod_Exact.f k t100.1 t100.2.1 t100.2.2.1 t100.2.2.2.1 t101.1 t101.2.1 t101.2.2.1 t101.2.2.2.1).bind fun t102 => (some (t102.1, t102.2.1, t102.2.2.1, t102.2.2.2.1, t102.2.2.2.2.1, t102.2.2.2.2.2.1, t102.2.2.2.2.2.2)))) else (some (0, false, 0, 0, 0, false, some (t100.2.2.2.2.getD 0))))
--@ok
noncomputable def fuse_product.c (k : Nat) : Con := S9.con fun x => fuse_product.f k x.1 x.2.1 x.2.2
noncomputable def fuse_product.G (k : Nat) : List (Go.FuncId × Con) := [(19, codec_Decode.c k), (21, prod_Exact.c k)]
noncomputable def fuse_product.cuts : List (Cut (TT S9.sb)) := []
theorem fuse_product.w (k : Nat) (x : TT S9.sa) : walk E9 (fuse_product.G k) (cutsAt k fuse_product.cuts) (retE E9 Go.Proofs.Tryz.f9.results.toList S9) 4000 true [([], .code B9)] (St0 S9 x) = fuse_product.f k x.1 x.2.1 x.2.2 := by kernel_rfl
theorem fuse_product.ok (k : Nat) : FnOk Go.Proofs.Tryz.prog E9.eT 9 (fuse_product.c k) := FnOk.walk (E := E9) (body := B9) Go.Proofs.Tryz.func9 rfl (by rfl) Go.Proofs.Tryz.ntmps9 S9 rfl (fun k x => fuse_product.f k x.1 x.2.1 x.2.2) fuse_product.G (fun k => ⟨codec_Decode.ok k, prod_Exact.ok k, trivial⟩) 4000 fuse_product.cuts trivial (fun k x r h => (fuse_product.w k x).trans h) k
noncomputable def E24 : En := ⟨Go.Proofs.Tryz.prog, 45, Go.Proofs.Tryz.f24.ntmps⟩
noncomputable def S24 : Sig := ⟨[.g 4, .s], [(.int .u64), (.int .u64), (.int .u64), (.int .u64), (.int .i64)], true, [.g 4, .s], [(.int .u64), (.int .u64), (.int .u64), (.int .u64), .bool], false⟩
noncomputable def B24 : Go.Code := Go.Proofs.Tryz.f24.body.get!
def broad_wide_under.l0 : Nat → Int → Bool → Int → Int → Int → Int → Option (Int × Int × Int × Int × Bool)
 | 0, _, _, _, _, _, _ => none
 | k + 1, x1, x6, x2000, x2001, x2002, x2003 => if x1 ≥ 64 then (if x6 = true then (broad_wide_under.l0 k (wrap64 (x1 - 64)) true 0 x2000 x2001 x2002) else (broad_wide_under.l0 k (wrap64 (x1 - 64)) (x2003 != 0) 0 x2000 x2001 x2002)) else (if x1 = 0 then (some (x2000, x2001, x2002, x2003, x6)) else (if x6 = true then (if 0 ≤ x1 then (if 0 ≤ (wrap64 (64 - x1)) then (some (shr .u64 x2000 x1, Go.bits .or .u64 (shr .u64 x2001 x1) (shl .u64 x2000 (wrap64 (64 - x1))), Go.bits .or .u64 (shr .u64 x2002 x1) (shl .u64 x2001 (wrap64 (64 - x1))), Go.bits .or .u64 (shr .u64 x2003 x1) (shl .u64 x2002 (wrap64 (64 - x1))), true)) else (none)) else (none)) else (if 0 ≤ (wrap64 (64 - x1)) then (if 0 ≤ x1 then (some (shr .u64 x2000 x1, Go.bits .or .u64 (shr .u64 x2001 x1) (shl .u64 x2000 (wrap64 (64 - x1))), Go.bits .or .u64 (shr .u64 x2002 x1) (shl .u64 x2001 (wrap64 (64 - x1))), Go.bits .or .u64 (shr .u64 x2003 x1) (shl .u64 x2002 (wrap64 (64 - x1))), (shl .u64 x2003 (wrap64 (64 - x1))) != 0)) else (none)) else (none))))
def broad_wide_under.f (k : Nat) (a0_0 : Int) (a0_1 : Int) (a0_2 : Int) (a0_3 : Int) (a1 : Int) : Option (Int × Int × Int × Int × Bool) := if a1 ≥ 256 then (some (0, 0, 0, 0, !((a0_0 == 0) && ((a0_1 == 0) && ((a0_2 == 0) && (a0_3 == 0)))))) else (broad_wide_under.l0 k a1 false a0_0 a0_1 a0_2 a0_3)
--@ok
def broad_wide_under.l0R (k : Nat) (x1 : Int) (x6 : Bool) (x2000 : Int) (x2001 : Int) (x2002 : Int) (x2003 : Int) : Option (Int × Int × Int × Int × Bool) := if x1 ≥ 64 then (if x6 = true then (broad_wide_under.l0 k (wrap64 (x1 - 64)) true 0 x2000 x2001 x2002) else (broad_wide_under.l0 k (wrap64 (x1 - 64)) (x2003 != 0) 0 x2000 x2001 x2002)) else (if x1 = 0 then (some (x2000, x2001, x2002, x2003, x6)) else (if x6 = true then (if 0 ≤ x1 then (if 0 ≤ x1 then (if 0 ≤ (wrap64 (64 - x1)) then (if 0 ≤ x1 then (if 0 ≤ (wrap64 (64 - x1)) then (if 0 ≤ x1 then (if 0 ≤ (wrap64 (64 - x1)) then (some (shr .u64 x2000 x1, Go.bits .or .u64 (shr .u64 x2001 x1) (shl .u64 x2000 (wrap64 (64 - x1))), Go.bits .or .u64 (shr .u64 x2002 x1) (shl .u64 x2001 (wrap64 (64 - x1))), Go.bits .or .u64 (shr .u64 x2003 x1) (shl .u64 x2002 (wrap64 (64 - x1))), true)) else (none)) else (none)) else (none)) else (none)) else (none)) else (none)) else (none)) else (if 0 ≤ (wrap64 (64 - x1)) then (if 0 ≤ x1 then (if 0 ≤ x1 then (if 0 ≤ (wrap64 (64 - x1)) then (if 0 ≤ x1 then (if 0 ≤ (wrap64 (64 - x1)) then (if 0 ≤ x1 then (if 0 ≤ (wrap64 (64 - x1)) then (some (shr .u64 x2000 x1, Go.bits .or .u64 (shr .u64 x2001 x1) (shl .u64 x2000 (wrap64 (64 - x1))), Go.bits .or .u64 (shr .u64 x2002 x1) (shl .u64 x2001 (wrap64 (64 - x1))), Go.bits .or .u64 (shr .u64 x2003 x1) (shl .u64 x2002 (wrap64 (64 - x1))), (shl .u64 x2003 (wrap64 (64 - x1))) != 0)) else (none)) else (none)) else (none)) else (none)) else (none)) else (none)) else (none)) else (none))))
theorem broad_wide_under.l0E (k : Nat) (x1 : Int) (x6 : Bool) (x2000 : Int) (x2001 : Int) (x2002 : Int) (x2003 : Int) : broad_wide_under.l0R k x1 x6 x2000 x2001 x2002 x2003 = broad_wide_under.l0 (k + 1) x1 x6 x2000 x2001 x2002 x2003 := by
  unfold broad_wide_under.l0R
  rw [broad_wide_under.l0]
  exact iteC (fun h0 => iteC (fun h1 => rfl) (fun h1 => rfl)) (fun h0 => iteC (fun h1 => rfl) (fun h1 => iteC (fun h2 => iteC (fun h3 => (if_pos h3).trans (iteC (fun h4 => (if_pos h3).trans ((if_pos h4).trans ((if_pos h3).trans ((if_pos h4).trans (rfl))))) (fun h4 => rfl))) (fun h3 => rfl)) (fun h2 => iteC (fun h3 => iteC (fun h4 => (if_pos h4).trans ((if_pos h3).trans ((if_pos h4).trans ((if_pos h3).trans ((if_pos h4).trans ((if_pos h3).trans (rfl))))))) (fun h4 => rfl)) (fun h3 => rfl))))
noncomputable def broad_wide_under.c (k : Nat) : Con := S24.con fun x => broad_wide_under.f k x.1 x.2.1 x.2.2.1 x.2.2.2.1 x.2.2.2.2
noncomputable def broad_wide_under.G (k : Nat) : List (Go.FuncId × Con) := []
noncomputable def broad_wide_under.cuts : List (Cut (TT S24.sb)) := [⟨[6, 4, 0, 1, 1, 1], [.sc 1 (.int .i64), .sc 6 (.bool), .box 2 60 [.int .u64, .int .u64, .int .u64, .int .u64], .box 4 60 [.int .u64, .int .u64, .int .u64, .int .u64]], fun k x => broad_wide_under.l0 k x.1 x.2.1 x.2.2.1.1 x.2.2.1.2.1 x.2.2.1.2.2.1 x.2.2.1.2.2.2⟩]
theorem broad_wide_under.w0 (k : Nat) (x : ET [.sc 1 (.int .i64), .sc 6 (.bool), .box 2 60 [.int .u64, .int .u64, .int .u64, .int .u64], .box 4 60 [.int .u64, .int .u64, .int .u64, .int .u64]]) : walk E24 (broad_wide_under.G k) (cutsAt k broad_wide_under.cuts) (retE E24 Go.Proofs.Tryz.f24.results.toList S24) 4000 true (stackAt B24 [6, 4, 0, 1, 1, 1]) (mkE [.sc 1 (.int .i64), .sc 6 (.bool), .box 2 60 [.int .u64, .int .u64, .int .u64, .int .u64], .box 4 60 [.int .u64, .int .u64, .int .u64, .int .u64]] x St.nil) = broad_wide_under.l0 (k + 1) x.1 x.2.1 x.2.2.1.1 x.2.2.1.2.1 x.2.2.1.2.2.1 x.2.2.1.2.2.2 := Eq.trans (b := broad_wide_under.l0R k x.1 x.2.1 x.2.2.1.1 x.2.2.1.2.1 x.2.2.1.2.2.1 x.2.2.1.2.2.2) (by kernel_rfl) (broad_wide_under.l0E k x.1 x.2.1 x.2.2.1.1 x.2.2.1.2.1 x.2.2.1.2.2.1 x.2.2.1.2.2.2)
theorem broad_wide_under.w (k : Nat) (x : TT S24.sa) : walk E24 (broad_wide_under.G k) (cutsAt k broad_wide_under.cuts) (retE E24 Go.Proofs.Tryz.f24.results.toList S24) 4000 true [([], .code B24)] (St0 S24 x) = broad_wide_under.f k x.1 x.2.1 x.2.2.1 x.2.2.2.1 x.2.2.2.2 := by kernel_rfl
theorem broad_wide_under.ok (k : Nat) : FnOk Go.Proofs.Tryz.prog E24.eT 24 (broad_wide_under.c k) := FnOk.walk (E := E24) (body := B24) Go.Proofs.Tryz.func24 rfl (by rfl) Go.Proofs.Tryz.ntmps24 S24 rfl (fun k x => broad_wide_under.f k x.1 x.2.1 x.2.2.1 x.2.2.2.1 x.2.2.2.2) broad_wide_under.G (fun k => trivial) 4000 broad_wide_under.cuts ⟨⟨fun _ => rfl, fun k x q h => (broad_wide_under.w0 k x).trans h⟩, trivial⟩ (fun k x r h => (broad_wide_under.w k x).trans h) k
noncomputable def S52 : Sig := ⟨[.s, .s, .s], [(.int .u64), (.int .u64), (.int .u64)], true, [.s, .s], [(.int .u64), (.int .u64)], false⟩
def bits_Add64.f (a0 : Int) (a1 : Int) (a2 : Int) : Option (Int × Int) := if 0 ≤ a0 ∧ a0 < 18446744073709551616 ∧ 0 ≤ a1 ∧ a1 < 18446744073709551616 ∧ 0 ≤ a2 ∧ a2 ≤ 1 then some ((a0 + a1 + a2) % 18446744073709551616, (a0 + a1 + a2) / 18446744073709551616) else none
--@ok
noncomputable def bits_Add64.c : Con := S52.con fun x => bits_Add64.f x.1 x.2.1 x.2.2
theorem bits_Add64.ok : FnOk Go.Proofs.Tryz.prog 45 52 bits_Add64.c := by
  intro x r w ok vs hF hv
  obtain ⟨a, b, c⟩ := x
  have hF' : bits_Add64.f a b c = some r := hF
  unfold bits_Add64.f at hF'
  split at hF'
  · rename_i hx
    injection hF' with hF'
    subst hF'
    obtain ⟨l⟩ := vs
    match l, hv with
    | [v1, v2, v3], h =>
      obtain ⟨⟨rfl, -⟩, ⟨rfl, -⟩, ⟨rfl, -⟩, -⟩ := h
      refine .inr ⟨_, w, CarryX.add64 a b c hx.1 hx.2.1 hx.2.2.1 hx.2.2.2.1 hx.2.2.2.2.1 hx.2.2.2.2.2 w, ⟨_, rfl, _, rfl, ⟨rfl, ?_, by simp, by simp⟩, ⟨rfl, ?_, by simp, by simp⟩, trivial⟩, .refl _ _⟩
      · constructor <;> simp only [kLo, kHi] <;> omega
      · constructor <;> simp only [kLo, kHi] <;> omega
    | [], h => exact h.elim
    | [_], h => exact h.2.elim
    | [_, _], h => exact h.2.2.elim
    | _ :: _ :: _ :: _ :: _, h => exact h.2.2.2.elim
  · cases hF'
noncomputable def E25 : En := ⟨Go.Proofs.Tryz.prog, 45, Go.Proofs.Tryz.f25.ntmps⟩
noncomputable def S25 : Sig := ⟨[.g 4, .g 4], [(.int .u64), (.int .u64), (.int .u64), (.int .u64), (.int .u64), (.int .u64), (.int .u64), (.int .u64)], true, [.g 4, .s], [(.int .u64), (.int .u64), (.int .u64), (.int .u64), (.int .u64)], false⟩
noncomputable def B25 : Go.Code := Go.Proofs.Tryz.f25.body.get!
def broad_wide_plus.f (a0_0 : Int) (a0_1 : Int) (a0_2 : Int) (a0_3 : Int) (a1_0 : Int) (a1_1 : Int) (a1_2 : Int) (a1_3 : Int) : Option (Int × Int × Int × Int × Int) := (bits_Add64.f a0_3 a1_3 0).bind fun t100 => ((bits_Add64.f a0_2 a1_2 t100.2).bind fun t101 => ((bits_Add64.f a0_1 a1_1 t101.2).bind fun t102 => ((bits_Add64.f a0_0 a1_0 t102.2).bind fun t103 => (some (t103.1, t102.1, t101.1, t100.1, t103.2)))))
--@ok
noncomputable def broad_wide_plus.c : Con := S25.con fun x => broad_wide_plus.f x.1 x.2.1 x.2.2.1 x.2.2.2.1 x.2.2.2.2.1 x.2.2.2.2.2.1 x.2.2.2.2.2.2.1 x.2.2.2.2.2.2.2
noncomputable def broad_wide_plus.G (k : Nat) : List (Go.FuncId × Con) := [(52, bits_Add64.c)]
noncomputable def broad_wide_plus.cuts : List (Cut (TT S25.sb)) := []
theorem broad_wide_plus.w (k : Nat) (x : TT S25.sa) : walk E25 (broad_wide_plus.G k) (cutsAt k broad_wide_plus.cuts) (retE E25 Go.Proofs.Tryz.f25.results.toList S25) 4000 true [([], .code B25)] (St0 S25 x) = broad_wide_plus.f x.1 x.2.1 x.2.2.1 x.2.2.2.1 x.2.2.2.2.1 x.2.2.2.2.2.1 x.2.2.2.2.2.2.1 x.2.2.2.2.2.2.2 := by kernel_rfl
theorem broad_wide_plus.ok : FnOk Go.Proofs.Tryz.prog E25.eT 25 (broad_wide_plus.c) := FnOk.walk (E := E25) (body := B25) Go.Proofs.Tryz.func25 rfl (by rfl) Go.Proofs.Tryz.ntmps25 S25 rfl (fun k x => broad_wide_plus.f x.1 x.2.1 x.2.2.1 x.2.2.2.1 x.2.2.2.2.1 x.2.2.2.2.2.1 x.2.2.2.2.2.2.1 x.2.2.2.2.2.2.2) broad_wide_plus.G (fun k => ⟨bits_Add64.ok, trivial⟩) 4000 broad_wide_plus.cuts trivial (fun k x r h => (broad_wide_plus.w k x).trans h) 0
noncomputable def S53 : Sig := ⟨[.s, .s, .s], [(.int .u64), (.int .u64), (.int .u64)], true, [.s, .s], [(.int .u64), (.int .u64)], false⟩
def bits_Sub64.f (a0 : Int) (a1 : Int) (a2 : Int) : Option (Int × Int) := if 0 ≤ a0 ∧ 0 ≤ a1 ∧ a1 < 18446744073709551616 ∧ 0 ≤ a2 ∧ a2 ≤ 1 then some ((a0 - a1 - a2) % 18446744073709551616, if a0 < a1 + a2 then 1 else 0) else none
--@ok
noncomputable def bits_Sub64.c : Con := S53.con fun x => bits_Sub64.f x.1 x.2.1 x.2.2
theorem bits_Sub64.ok : FnOk Go.Proofs.Tryz.prog 45 53 bits_Sub64.c := by
  intro x r w ok vs hF hv
  have hF' : bits_Sub64.f x.1 x.2.1 x.2.2 = some r := hF
  obtain ⟨a, b, c⟩ := x
  unfold bits_Sub64.f at hF'
  split at hF'
  · rename_i hx
    injection hF' with hF'
    subst hF'
    obtain ⟨l⟩ := vs
    match l, hv with
    | [v1, v2, v3], h =>
      obtain ⟨⟨rfl, -⟩, ⟨rfl, -⟩, ⟨rfl, -⟩, -⟩ := h
      refine .inr ⟨_, w, CarryX.sub64 a b c hx.1 hx.2.1 hx.2.2.1 hx.2.2.2.1 hx.2.2.2.2 w, ⟨_, rfl, _, rfl, ⟨rfl, ?_, by simp, by simp⟩, ⟨rfl, ?_, by simp, by simp⟩, trivial⟩, .refl _ _⟩
      · constructor <;> simp only [kLo, kHi] <;> omega
      · constructor <;> simp only [kLo, kHi] <;> split <;> omega
    | [], h => exact h.elim
    | [_], h => exact h.2.elim
    | [_, _], h => exact h.2.2.elim
    | _ :: _ :: _ :: _ :: _, h => exact h.2.2.2.elim
  · cases hF'
noncomputable def E26 : En := ⟨Go.Proofs.Tryz.prog, 45, Go.Proofs.Tryz.f26.ntmps⟩
noncomputable def S26 : Sig := ⟨[.g 4, .g 4, .s], [(.int .u64), (.int .u64), (.int .u64), (.int .u64), (.int .u64), (.int .u64), (.int .u64), (.int .u64), (.int .u64)], true, [.g 4, .s], [(.int .u64), (.int .u64), (.int .u64), (.int .u64), (.int .u64)], false⟩
noncomputable def B26 : Go.Code := Go.Proofs.Tryz.f26.body.get!
def broad_wide_less.f (a0_0 : Int) (a0_1 : Int) (a0_2 : Int) (a0_3 : Int) (a1_0 : Int) (a1_1 : Int) (a1_2 : Int) (a1_3 : Int) (a2 : Int) : Option (Int × Int × Int × Int × Int) := (bits_Sub64.f a0_3 a1_3 a2).bind fun t100 => ((bits_Sub64.f a0_2 a1_2 t100.2).bind fun t101 => ((bits_Sub64.f a0_1 a1_1 t101.2).bind fun t102 => ((bits_Sub64.f a0_0 a1_0 t102.2).bind fun t103 => (some (t103.1, t102.1, t101.1, t100.1, t103.2)))))
--@ok
noncomputable def broad_wide_less.c : Con := S26.con fun x => broad_wide_less.f x.1 x.2.1 x.2.2.1 x.2.2.2.1 x.2.2.2.2.1 x.2.2.2.2.2.1 x.2.2.2.2.2.2.1 x.2.2.2.2.2.2.2.1 x.2.2.2.2.2.2.2.2
noncomputable def broad_wide_less.G (k : Nat) : List (Go.FuncId × Con) := [(53, bits_Sub64.c)]
noncomputable def broad_wide_less.cuts : List (Cut (TT S26.sb)) := []
theorem broad_wide_less.w (k : Nat) (x : TT S26.sa) : walk E26 (broad_wide_less.G k) (cutsAt k broad_wide_less.cuts) (retE E26 Go.Proofs.Tryz.f26.results.toList S26) 4000 true [([], .code B26)] (St0 S26 x) = broad_wide_less.f x.1 x.2.1 x.2.2.1 x.2.2.2.1 x.2.2.2.2.1 x.2.2.2.2.2.1 x.2.2.2.2.2.2.1 x.2.2.2.2.2.2.2.1 x.2.2.2.2.2.2.2.2 := by kernel_rfl
theorem broad_wide_less.ok : FnOk Go.Proofs.Tryz.prog E26.eT 26 (broad_wide_less.c) := FnOk.walk (E := E26) (body := B26) Go.Proofs.Tryz.func26 rfl (by rfl) Go.Proofs.Tryz.ntmps26 S26 rfl (fun k x => broad_wide_less.f x.1 x.2.1 x.2.2.1 x.2.2.2.1 x.2.2.2.2.1 x.2.2.2.2.2.1 x.2.2.2.2.2.2.1 x.2.2.2.2.2.2.2.1 x.2.2.2.2.2.2.2.2) broad_wide_less.G (fun k => ⟨bits_Sub64.ok, trivial⟩) 4000 broad_wide_less.cuts trivial (fun k x r h => (broad_wide_less.w k x).trans h) 0
noncomputable def E27 : En := ⟨Go.Proofs.Tryz.prog, 45, Go.Proofs.Tryz.f27.ntmps⟩
noncomputable def S27 : Sig := ⟨[.g 4], [(.int .u64), (.int .u64), (.int .u64), (.int .u64)], true, [.g 4, .s], [(.int .u64), (.int .u64), (.int .u64), (.int .u64), (.int .i64)], false⟩
noncomputable def B27 : Go.Code := Go.Proofs.Tryz.f27.body.get!
def broad_wide_raised.l0 : Nat → Int → Int → Int → Int → Int → Option (Int × Int × Int × Int × Int)
 | 0, _, _, _, _, _ => none
 | k + 1, x4, x1000, x1001, x1002, x1003 => if x1000 = 0 then (broad_wide_raised.l0 k (wrap64 (x4 + 64)) x1001 x1002 x1003 0) else ((bits_LeadingZeros64.f x1000).bind fun t100 => (if t100 = 0 then (some (x1000, x1001, x1002, x1003, x4)) else (if 0 ≤ t100 then (if 0 ≤ (wrap64 (64 - t100)) then (some (Go.bits .or .u64 (shl .u64 x1000 t100) (shr .u64 x1001 (wrap64 (64 - t100))), Go.bits .or .u64 (shl .u64 x1001 t100) (shr .u64 x1002 (wrap64 (64 - t100))), Go.bits .or .u64 (shl .u64 x1002 t100) (shr .u64 x1003 (wrap64 (64 - t100))), shl .u64 x1003 t100, wrap64 (x4 + t100))) else (none)) else (none))))
def broad_wide_raised.f (k : Nat) (a0_0 : Int) (a0_1 : Int) (a0_2 : Int) (a0_3 : Int) : Option (Int × Int × Int × Int × Int) := broad_wide_raised.l0 k 0 a0_0 a0_1 a0_2 a0_3
--@ok
def broad_wide_raised.l0R (k : Nat) (x4 : Int) (x1000 : Int) (x1001 : Int) (x1002 : Int) (x1003 : Int) : Option (Int × Int × Int × Int × Int) := if x1000 = 0 then (broad_wide_raised.l0 k (wrap64 (x4 + 64)) x1001 x1002 x1003 0) else ((bits_LeadingZeros64.f x1000).bind fun t100 => (if t100 = 0 then (some (x1000, x1001, x1002, x1003, x4)) else (if 0 ≤ t100 then (if 0 ≤ (wrap64 (64 - t100)) then (if 0 ≤ t100 then (if 0 ≤ (wrap64 (64 - t100)) then (if 0 ≤ t100 then (if 0 ≤ (wrap64 (64 - t100)) then (if 0 ≤ t100 then (some (Go.bits .or .u64 (shl .u64 x1000 t100) (shr .u64 x1001 (wrap64 (64 - t100))), Go.bits .or .u64 (shl .u64 x1001 t100) (shr .u64 x1002 (wrap64 (64 - t100))), Go.bits .or .u64 (shl .u64 x1002 t100) (shr .u64 x1003 (wrap64 (64 - t100))), shl .u64 x1003 t100, wrap64 (x4 + t100))) else (none)) else (none)) else (none)) else (none)) else (none)) else (none)) else (none))))
theorem broad_wide_raised.l0E (k : Nat) (x4 : Int) (x1000 : Int) (x1001 : Int) (x1002 : Int) (x1003 : Int) : broad_wide_raised.l0R k x4 x1000 x1001 x1002 x1003 = broad_wide_raised.l0 (k + 1) x4 x1000 x1001 x1002 x1003 := by
  unfold broad_wide_raised.l0R
  rw [broad_wide_raised.l0]
  exact iteC (fun h0 => rfl) (fun h0 => bindC fun _ => iteC (fun h1 => rfl) (fun h1 => iteC (fun h2 => iteC (fun h3 => (if_pos h2).trans ((if_pos h3).trans ((if_pos h2).trans ((if_pos h3).trans ((if_pos h2).trans (rfl)))))) (fun h3 => rfl)) (fun h2 => rfl)))
noncomputable def broad_wide_raised.c (k : Nat) : Con := S27.con fun x => broad_wide_raised.f k x.1 x.2.1 x.2.2.1 x.2.2.2
noncomputable def broad_wide_raised.G (k : Nat) : List (Go.FuncId × Con) := [(54, bits_LeadingZeros64.c)]
noncomputable def broad_wide_raised.cuts : List (Cut (TT S27.sb)) := [⟨[6, 4, 0, 1, 1], [.sc 4 (.int .i64), .box 1 60 [.int .u64, .int .u64, .int .u64, .int .u64], .box 2 60 [.int .u64, .int .u64, .int .u64, .int .u64]], fun k x => broad_wide_raised.l0 k x.1 x.2.1.1 x.2.1.2.1 x.2.1.2.2.1 x.2.1.2.2.2⟩]
theorem broad_wide_raised.w0 (k : Nat) (x : ET [.sc 4 (.int .i64), .box 1 60 [.int .u64, .int .u64, .int .u64, .int .u64], .box 2 60 [.int .u64, .int .u64, .int .u64, .int .u64]]) : walk E27 (broad_wide_raised.G k) (cutsAt k broad_wide_raised.cuts) (retE E27 Go.Proofs.Tryz.f27.results.toList S27) 4000 true (stackAt B27 [6, 4, 0, 1, 1]) (mkE [.sc 4 (.int .i64), .box 1 60 [.int .u64, .int .u64, .int .u64, .int .u64], .box 2 60 [.int .u64, .int .u64, .int .u64, .int .u64]] x St.nil) = broad_wide_raised.l0 (k + 1) x.1 x.2.1.1 x.2.1.2.1 x.2.1.2.2.1 x.2.1.2.2.2 := Eq.trans (b := broad_wide_raised.l0R k x.1 x.2.1.1 x.2.1.2.1 x.2.1.2.2.1 x.2.1.2.2.2) (by kernel_rfl) (broad_wide_raised.l0E k x.1 x.2.1.1 x.2.1.2.1 x.2.1.2.2.1 x.2.1.2.2.2)
theorem broad_wide_raised.w (k : Nat) (x : TT S27.sa) : walk E27 (broad_wide_raised.G k) (cutsAt k broad_wide_raised.cuts) (retE E27 Go.Proofs.Tryz.f27.results.toList S27) 4000 true [([], .code B27)] (St0 S27 x) = broad_wide_raised.f k x.1 x.2.1 x.2.2.1 x.2.2.2 := by kernel_rfl
theorem broad_wide_raised.ok (k : Nat) : FnOk Go.Proofs.Tryz.prog E27.eT 27 (broad_wide_raised.c k) := FnOk.walk (E := E27) (body := B27) Go.Proofs.Tryz.func27 rfl (by rfl) Go.Proofs.Tryz.ntmps27 S27 rfl (fun k x => broad_wide_raised.f k x.1 x.2.1 x.2.2.1 x.2.2.2) broad_wide_raised.G (fun k => ⟨bits_LeadingZeros64.ok, trivial⟩) 4000 broad_wide_raised.cuts ⟨⟨fun _ => rfl, fun k x q h => (broad_wide_raised.w0 k x).trans h⟩, trivial⟩ (fun k x r h => (broad_wide_raised.w k x).trans h) k
noncomputable def E11 : En := ⟨Go.Proofs.Tryz.prog, 45, Go.Proofs.Tryz.f11.ntmps⟩
noncomputable def S11 : Sig := ⟨[.g 6, .g 6], [(.int .i64), .bool, (.int .i64), (.int .u64), (.int .u64), .bool, (.int .i64), .bool, (.int .i64), (.int .u64), (.int .u64), .bool], false, [.g 6], [(.int .i64), .bool, (.int .i64), (.int .u64), (.int .u64), .bool], false⟩
noncomputable def B11 : Go.Code := Go.Proofs.Tryz.f11.body.get!
mutual
def broad_Sum.j0 : Nat → Bool → Int → Bool → Int → Int → Int → Bool → Int → Bool → Int → Int → Int → Bool → Option (Int × Bool × Int × Int × Int × Bool)
 | 0, _, _, _, _, _, _, _, _, _, _, _, _, _ => none
 | k + 1, x17, x2000, x2001, x2002, x2003, x2004, x2005, x3000, x3001, x3002, x3003, x3004, x3005 => if x17 = true then (some (2, false, 0, 0, 0, false)) else (if x2000 = 0 then (some (x3000, x3001, x3002, x3003, x3004, x3005)) else (if x3000 = 0 then (some (x2000, x2001, x2002, x2003, x2004, x2005)) else (if x2002 < x3002 then (broad_Sum.j1 k x3001 x3002 x3003 x3004 x2001 x2002 x2003 x2004) else (broad_Sum.j1 k x2001 x2002 x2003 x2004 x3001 x3002 x3003 x3004))))
def broad_Sum.j1 : Nat → Bool → Int → Int → Int → Bool → Int → Int → Int → Option (Int × Bool × Int × Int × Int × Bool)
 | 0, _, _, _, _, _, _, _, _ => none
 | k + 1, x2001, x2002, x2003, x2004, x3001, x3002, x3003, x3004 => (broad_wide_under.f k x3003 x3004 0 0 (wrap64 (x2002 - x3002))).bind fun t100 => (if (x2001 == x3001) = true then ((broad_wide_plus.f x2003 x2004 0 0 t100.1 t100.2.1 t100.2.2.1 t100.2.2.2.1).bind fun t101 => (if t101.2.2.2.2 = 1 then ((broad_wide_under.f k t101.1 t101.2.1 t101.2.2.1 t101.2.2.2.1 1).bind fun t102 => (if t100.2.2.2.2 = true then (some (1, x2001, mx (-1099511627776) (mn (wrap64 (x2002 + 1)) 1099511627776), Go.bits .or .u64 t102.1 9223372036854775808, t102.2.1, true)) else (if (Go.bits .and .u64 t101.2.2.2.1 1) = 1 then (some (1, x2001, mx (-1099511627776) (mn (wrap64 (x2002 + 1)) 1099511627776), Go.bits .or .u64 t102.1 9223372036854775808, t102.2.1, true)) else (if t102.2.2.1 = 0 then (some (1, x2001, mx (-1099511627776) (mn (wrap64 (x2002 + 1)) 1099511627776), Go.bits .or .u64 t102.1 9223372036854775808, t102.2.1, t102.2.2.2.1 != 0)) else (some (1, x2001, mx (-1099511627776) (mn (wrap64 (x2002 + 1)) 1099511627776), Go.bits .or .u64 t102.1 9223372036854775808, t102.2.1, true)))))) else (if t100.2.2.2.2 = true then (some (1, x2001, mx (-1099511627776) (mn x2002 1099511627776), t101.1, t101.2.1, true)) else (if t101.2.2.1 = 0 then (some (1, x2001, mx (-1099511627776) (mn x2002 1099511627776), t101.1, t101.2.1, t101.2.2.2.1 != 0)) else (some (1, x2001, mx (-1099511627776) (mn x2002 1099511627776), t101.1, t101.2.1, true)))))) else (if t100.2.2.2.2 = true then (broad_Sum.j2 k t100.2.2.2.2 1 x3001 x2003 x2004 0 0 t100.1 t100.2.1 t100.2.2.1 t100.2.2.2.1 1 x2001 x2002) else (broad_Sum.j2 k t100.2.2.2.2 0 x3001 x2003 x2004 0 0 t100.1 t100.2.1 t100.2.2.1 t100.2.2.2.1 1 x2001 x2002)))
def broad_Sum.j2 : Nat → Bool → Int → Bool → Int → Int → Int → Int → Int → Int → Int → Int → Int → Bool → Int → Option (Int × Bool × Int × Int × Int × Bool)
 | 0, _, _, _, _, _, _, _, _, _, _, _, _, _, _ => none
 | k + 1, x7, x13, x3001, x5000, x5001, x5002, x5003, x6000, x6001, x6002, x6003, x8000, x8001, x8002 => (broad_wide_less.f x5000 x5001 x5002 x5003 x6000 x6001 x6002 x6003 x13).bind fun t103 => (if t103.2.2.2.2 = 1 then ((broad_wide_less.f x6000 x6001 x6002 x6003 x5000 x5001 x5002 x5003 0).bind fun t104 => (if ((t104.1 == 0) && ((t104.2.1 == 0) && ((t104.2.2.1 == 0) && (t104.2.2.2.1 == 0)))) = true then (some (0, false, 0, 0, 0, false)) else ((broad_wide_raised.f k t104.1 t104.2.1 t104.2.2.1 t104.2.2.2.1).bind fun t105 => (if x7 = true then (some (x8000, x3001, mx (-1099511627776) (mn (wrap64 (x8002 - t105.2.2.2.2)) 1099511627776), t105.1, t105.2.1, true)) else (if t105.2.2.1 = 0 then (some (x8000, x3001, mx (-1099511627776) (mn (wrap64 (x8002 - t105.2.2.2.2)) 1099511627776), t105.1, t105.2.1, t105.2.2.2.1 != 0)) else (some (x8000, x3001, mx (-1099511627776) (mn (wrap64 (x8002 - t105.2.2.2.2)) 1099511627776), t105.1, t105.2.1, true))))))) else (if ((t103.1 == 0) && ((t103.2.1 == 0) && ((t103.2.2.1 == 0) && (t103.2.2.2.1 == 0)))) = true then (some (0, false, 0, 0, 0, false)) else ((broad_wide_raised.f k t103.1 t103.2.1 t103.2.2.1 t103.2.2.2.1).bind fun t106 => (if x7 = true then (some (x8000, x8001, mx (-1099511627776) (mn (wrap64 (x8002 - t106.2.2.2.2)) 1099511627776), t106.1, t106.2.1, true)) else (if t106.2.2.1 = 0 then (some (x8000, x8001, mx (-1099511627776) (mn (wrap64 (x8002 - t106.2.2.2.2)) 1099511627776), t106.1, t106.2.1, t106.2.2.2.1 != 0)) else (some (x8000, x8001, mx (-1099511627776) (mn (wrap64 (x8002 - t106.2.2.2.2)) 1099511627776), t106.1, t106.2.1, true)))))))
end
def broad_Sum.f (k : Nat) (a0_0 : Int) (a0_1 : Bool) (a0_2 : Int) (a0_3 : Int) (a0_4 : Int) (a0_5 : Bool) (a1_0 : Int) (a1_1 : Bool) (a1_2 : Int) (a1_3 : Int) (a1_4 : Int) (a1_5 : Bool) : Option (Int × Bool × Int × Int × Int × Bool) := if a0_0 = 2 then (broad_Sum.j0 k true a0_0 a0_1 a0_2 a0_3 a0_4 a0_5 a1_0 a1_1 a1_2 a1_3 a1_4 a1_5) else (broad_Sum.j0 k (a1_0 == 2) a0_0 a0_1 a0_2 a0_3 a0_4 a0_5 a1_0 a1_1 a1_2 a1_3 a1_4 a1_5)
--@ok
noncomputable def broad_Sum.c (k : Nat) : Con := S11.con fun x => broad_Sum.f k x.1 x.2.1 x.2.2.1 x.2.2.2.1 x.2.2.2.2.1 x.2.2.2.2.2.1 x.2.2.2.2.2.2.1 x.2.2.2.2.2.2.2.1 x.2.2.2.2.2.2.2.2.1 x.2.2.2.2.2.2.2.2.2.1 x.2.2.2.2.2.2.2.2.2.2.1 x.2.2.2.2.2.2.2.2.2.2.2
noncomputable def broad_Sum.G (k : Nat) : List (Go.FuncId × Con) := [(24, broad_wide_under.c k), (25, broad_wide_plus.c), (26, broad_wide_less.c), (27, broad_wide_raised.c k)]
noncomputable def broad_Sum.cuts : List (Cut (TT S11.sb)) := [⟨[1, 4, 0, 1], [.sc 17 (.bool), .box 2 34 [.int .i64, .bool, .int .i64, .int .u64, .int .u64, .bool], .box 3 34 [.int .i64, .bool, .int .i64, .int .u64, .int .u64, .bool], .box 4 34 [.int .i64, .bool, .int .i64, .int .u64, .int .u64, .bool]], fun k x => broad_Sum.j0 k x.1 x.2.1.1 x.2.1.2.1 x.2.1.2.2.1 x.2.1.2.2.2.1 x.2.1.2.2.2.2.1 x.2.1.2.2.2.2.2 x.2.2.1.1 x.2.2.1.2.1 x.2.2.1.2.2.1 x.2.2.1.2.2.2.1 x.2.2.1.2.2.2.2.1 x.2.2.1.2.2.2.2.2⟩, ⟨[1, 1], [.box 2 34 [.int .i64, .bool, .int .i64, .int .u64, .int .u64, .bool], .box 3 34 [.int .i64, .bool, .int .i64, .int .u64, .int .u64, .bool], .box 4 34 [.int .i64, .bool, .int .i64, .int .u64, .int .u64, .bool]], fun k x => broad_Sum.j1 k x.1.2.1 x.1.2.2.1 x.1.2.2.2.1 x.1.2.2.2.2.1 x.2.1.2.1 x.2.1.2.2.1 x.2.1.2.2.2.1 x.2.1.2.2.2.2.1⟩, ⟨[1, 1, 3, 1, 0, 1, 1, 1, 1, 1, 1], [.sc 7 (.bool), .sc 13 (.int .u64), .box 3 34 [.int .i64, .bool, .int .i64, .int .u64, .int .u64, .bool], .box 4 34 [.int .i64, .bool, .int .i64, .int .u64, .int .u64, .bool], .box 5 60 [.int .u64, .int .u64, .int .u64, .int .u64], .box 6 60 [.int .u64, .int .u64, .int .u64, .int .u64], .box 8 34 [.int .i64, .bool, .int .i64, .int .u64, .int .u64, .bool], .box 9 60 [.int .u64, .int .u64, .int .u64, .int .u64]], fun k x => broad_Sum.j2 k x.1 x.2.1 x.2.2.1.2.1 x.2.2.2.2.1.1 x.2.2.2.2.1.2.1 x.2.2.2.2.1.2.2.1 x.2.2.2.2.1.2.2.2 x.2.2.2.2.2.1.1 x.2.2.2.2.2.1.2.1 x.2.2.2.2.2.1.2.2.1 x.2.2.2.2.2.1.2.2.2 x.2.2.2.2.2.2.1.1 x.2.2.2.2.2.2.1.2.1 x.2.2.2.2.2.2.1.2.2.1⟩]
theorem broad_Sum.w0 (k : Nat) (x : ET [.sc 17 (.bool), .box 2 34 [.int .i64, .bool, .int .i64, .int .u64, .int .u64, .bool], .box 3 34 [.int .i64, .bool, .int .i64, .int .u64, .int .u64, .bool], .box 4 34 [.int .i64, .bool, .int .i64, .int .u64, .int .u64, .bool]]) : walk E11 (broad_Sum.G k) (cutsAt k broad_Sum.cuts) (retE E11 Go.Proofs.Tryz.f11.results.toList S11) 4000 true (stackAt B11 [1, 4, 0, 1]) (mkE [.sc 17 (.bool), .box 2 34 [.int .i64, .bool, .int .i64, .int .u64, .int .u64, .bool], .box 3 34 [.int .i64, .bool, .int .i64, .int .u64, .int .u64, .bool], .box 4 34 [.int .i64, .bool, .int .i64, .int .u64, .int .u64, .bool]] x St.nil) = broad_Sum.j0 (k + 1) x.1 x.2.1.1 x.2.1.2.1 x.2.1.2.2.1 x.2.1.2.2.2.1 x.2.1.2.2.2.2.1 x.2.1.2.2.2.2.2 x.2.2.1.1 x.2.2.1.2.1 x.2.2.1.2.2.1 x.2.2.1.2.2.2.1 x.2.2.1.2.2.2.2.1 x.2.2.1.2.2.2.2.2 := by kernel_rfl
theorem broad_Sum.w1 (k : Nat) (x : ET [.box 2 34 [.int .i64, .bool, .int .i64, .int .u64, .int .u64, .bool], .box 3 34 [.int .i64, .bool, .int .i64, .int .u64, .int .u64, .bool], .box 4 34 [.int .i64, .bool, .int .i64, .int .u64, .int .u64, .bool]]) : walk E11 (broad_Sum.G k) (cutsAt k broad_Sum.cuts) (retE E11 Go.Proofs.Tryz.f11.results.toList S11) 4000 true (stackAt B11 [1, 1]) (mkE [.box 2 34 [.int .i64, .bool, .int .i64, .int .u64, .int .u64, .bool], .box 3 34 [.int .i64, .bool, .int .i64, .int .u64, .int .u64, .bool], .box 4 34 [.int .i64, .bool, .int .i64, .int .u64, .int .u64, .bool]] x St.nil) = broad_Sum.j1 (k + 1) x.1.2.1 x.1.2.2.1 x.1.2.2.2.1 x.1.2.2.2.2.1 x.2.1.2.1 x.2.1.2.2.1 x.2.1.2.2.2.1 x.2.1.2.2.2.2.1 := by kernel_rfl
theorem broad_Sum.w2 (k : Nat) (x : ET [.sc 7 (.bool), .sc 13 (.int .u64), .box 3 34 [.int .i64, .bool, .int .i64, .int .u64, .int .u64, .bool], .box 4 34 [.int .i64, .bool, .int .i64, .int .u64, .int .u64, .bool], .box 5 60 [.int .u64, .int .u64, .int .u64, .int .u64], .box 6 60 [.int .u64, .int .u64, .int .u64, .int .u64], .box 8 34 [.int .i64, .bool, .int .i64, .int .u64, .int .u64, .bool], .box 9 60 [.int .u64, .int .u64, .int .u64, .int .u64]]) : walk E11 (broad_Sum.G k) (cutsAt k broad_Sum.cuts) (retE E11 Go.Proofs.Tryz.f11.results.toList S11) 4000 true (stackAt B11 [1, 1, 3, 1, 0, 1, 1, 1, 1, 1, 1]) (mkE [.sc 7 (.bool), .sc 13 (.int .u64), .box 3 34 [.int .i64, .bool, .int .i64, .int .u64, .int .u64, .bool], .box 4 34 [.int .i64, .bool, .int .i64, .int .u64, .int .u64, .bool], .box 5 60 [.int .u64, .int .u64, .int .u64, .int .u64], .box 6 60 [.int .u64, .int .u64, .int .u64, .int .u64], .box 8 34 [.int .i64, .bool, .int .i64, .int .u64, .int .u64, .bool], .box 9 60 [.int .u64, .int .u64, .int .u64, .int .u64]] x St.nil) = broad_Sum.j2 (k + 1) x.1 x.2.1 x.2.2.1.2.1 x.2.2.2.2.1.1 x.2.2.2.2.1.2.1 x.2.2.2.2.1.2.2.1 x.2.2.2.2.1.2.2.2 x.2.2.2.2.2.1.1 x.2.2.2.2.2.1.2.1 x.2.2.2.2.2.1.2.2.1 x.2.2.2.2.2.1.2.2.2 x.2.2.2.2.2.2.1.1 x.2.2.2.2.2.2.1.2.1 x.2.2.2.2.2.2.1.2.2.1 := by kernel_rfl
theorem broad_Sum.w (k : Nat) (x : TT S11.sa) : walk E11 (broad_Sum.G k) (cutsAt k broad_Sum.cuts) (retE E11 Go.Proofs.Tryz.f11.results.toList S11) 4000 true [([], .code B11)] (St0 S11 x) = broad_Sum.f k x.1 x.2.1 x.2.2.1 x.2.2.2.1 x.2.2.2.2.1 x.2.2.2.2.2.1 x.2.2.2.2.2.2.1 x.2.2.2.2.2.2.2.1 x.2.2.2.2.2.2.2.2.1 x.2.2.2.2.2.2.2.2.2.1 x.2.2.2.2.2.2.2.2.2.2.1 x.2.2.2.2.2.2.2.2.2.2.2 := by kernel_rfl
theorem broad_Sum.ok (k : Nat) : FnOk Go.Proofs.Tryz.prog E11.eT 11 (broad_Sum.c k) := FnOk.walk (E := E11) (body := B11) Go.Proofs.Tryz.func11 rfl (by rfl) Go.Proofs.Tryz.ntmps11 S11 rfl (fun k x => broad_Sum.f k x.1 x.2.1 x.2.2.1 x.2.2.2.1 x.2.2.2.2.1 x.2.2.2.2.2.1 x.2.2.2.2.2.2.1 x.2.2.2.2.2.2.2.1 x.2.2.2.2.2.2.2.2.1 x.2.2.2.2.2.2.2.2.2.1 x.2.2.2.2.2.2.2.2.2.2.1 x.2.2.2.2.2.2.2.2.2.2.2) broad_Sum.G (fun k => ⟨broad_wide_under.ok k, broad_wide_plus.ok, broad_wide_less.ok, broad_wide_raised.ok k, trivial⟩) 4000 broad_Sum.cuts ⟨⟨fun _ => rfl, fun k x q h => (broad_Sum.w0 k x).trans h⟩, ⟨fun _ => rfl, fun k x q h => (broad_Sum.w1 k x).trans h⟩, ⟨fun _ => rfl, fun k x q h => (broad_Sum.w2 k x).trans h⟩, trivial⟩ (fun k x r h => (broad_Sum.w k x).trans h) k
noncomputable def E55 : En := ⟨Go.Proofs.Tryz.prog, 45, Go.Proofs.Tryz.f55.ntmps⟩
noncomputable def S55 : Sig := ⟨[.s], [(.int .i64)], true, [.g 5, .s], [(.int .i64), (.int .u64), (.int .u64), (.int .u64), (.int .i64), .err], false⟩
noncomputable def B55 : Go.Code := Go.Proofs.Tryz.f55.body.get!
def shape_Of.f (a0 : Int) : Option (Int × Int × Int × Int × Int × Option Int) := (shape_is.f a0).bind fun t100 => (if t100 = true then (if 0 ≤ (wrap64 (a0 - 1)) then (some (a0, IntKind.u64.wrap ((shl .u64 1 (wrap64 (a0 - 1))) - 1), 1, shl .u64 1 (wrap64 (a0 - 1)), wrap64 ((wrap64 (4 * a0)) - 8), none)) else (none)) else (some (0, 0, 0, 0, 0, some 2)))
--@ok
noncomputable def shape_Of.c : Con := S55.con fun x => shape_Of.f x
noncomputable def shape_Of.G (k : Nat) : List (Go.FuncId × Con) := [(59, shape_is.c)]
noncomputable def shape_Of.cuts : List (Cut (TT S55.sb)) := []
theorem shape_Of.w (k : Nat) (x : TT S55.sa) : walk E55 (shape_Of.G k) (cutsAt k shape_Of.cuts) (retE E55 Go.Proofs.Tryz.f55.results.toList S55) 4000 true [([], .code B55)] (St0 S55 x) = shape_Of.f x := by kernel_rfl
theorem shape_Of.ok : FnOk Go.Proofs.Tryz.prog E55.eT 55 (shape_Of.c) := FnOk.walk (E := E55) (body := B55) Go.Proofs.Tryz.func55 rfl (by rfl) Go.Proofs.Tryz.ntmps55 S55 rfl (fun k x => shape_Of.f x) shape_Of.G (fun k => ⟨shape_is.ok, trivial⟩) 4000 shape_Of.cuts trivial (fun k x r h => (shape_Of.w k x).trans h) 0
noncomputable def E56 : En := ⟨Go.Proofs.Tryz.prog, 45, Go.Proofs.Tryz.f56.ntmps⟩
noncomputable def S56 : Sig := ⟨[.g 2, .s], [(.int .u64), (.int .u64), (.int .i64)], true, [.g 2, .s, .s], [(.int .u64), (.int .u64), .bool, .err], false⟩
noncomputable def B56 : Go.Code := Go.Proofs.Tryz.f56.body.get!
def twin_Shl.f (a0_0 : Int) (a0_1 : Int) (a1 : Int) : Option (Int × Int × Bool × Option Int) := if a1 < 0 then (some (0, 0, false, some 1)) else ((twin_shl.f a0_0 a0_1 (mn a1 128)).bind fun t100 => ((twin_Len.f a0_0 a0_1).bind fun t101 => (some (t100.1, t100.2, decide (t101 > (wrap64 (128 - (mn a1 128)))), none))))
--@ok
noncomputable def twin_Shl.c : Con := S56.con fun x => twin_Shl.f x.1 x.2.1 x.2.2
noncomputable def twin_Shl.G (k : Nat) : List (Go.FuncId × Con) := [(49, twin_shl.c), (85, twin_Len.c)]
noncomputable def twin_Shl.cuts : List (Cut (TT S56.sb)) := []
theorem twin_Shl.w (k : Nat) (x : TT S56.sa) : walk E56 (twin_Shl.G k) (cutsAt k twin_Shl.cuts) (retE E56 Go.Proofs.Tryz.f56.results.toList S56) 4000 true [([], .code B56)] (St0 S56 x) = twin_Shl.f x.1 x.2.1 x.2.2 := by kernel_rfl
theorem twin_Shl.ok : FnOk Go.Proofs.Tryz.prog E56.eT 56 (twin_Shl.c) := FnOk.walk (E := E56) (body := B56) Go.Proofs.Tryz.func56 rfl (by rfl) Go.Proofs.Tryz.ntmps56 S56 rfl (fun k x => twin_Shl.f x.1 x.2.1 x.2.2) twin_Shl.G (fun k => ⟨twin_shl.ok, twin_Len.ok, trivial⟩) 4000 twin_Shl.cuts trivial (fun k x r h => (twin_Shl.w k x).trans h) 0
noncomputable def E48 : En := ⟨Go.Proofs.Tryz.prog, 45, Go.Proofs.Tryz.f48.ntmps⟩
noncomputable def S48 : Sig := ⟨[.g 2, .s], [(.int .u64), (.int .u64), (.int .i64)], false, [.g 2], [(.int .u64), (.int .u64)], false⟩
noncomputable def B48 : Go.Code := Go.Proofs.Tryz.f48.body.get!
def twin_shr.f (a0_0 : Int) (a0_1 : Int) (a1 : Int) : Option (Int × Int) := if a1 ≥ 64 then (if 0 ≤ (wrap64 (a1 - 64)) then (some (0, shr .u64 a0_0 (wrap64 (a1 - 64)))) else (none)) else (if 0 ≤ a1 then (if 0 ≤ (wrap64 (64 - a1)) then (some (shr .u64 a0_0 a1, Go.bits .or .u64 (shr .u64 a0_1 a1) (shl .u64 a0_0 (wrap64 (64 - a1))))) else (none)) else (none))
--@ok
def twin_shr.fR (a0_0 : Int) (a0_1 : Int) (a1 : Int) : Option (Int × Int) := if a1 ≥ 64 then (if 0 ≤ (wrap64 (a1 - 64)) then (some (0, shr .u64 a0_0 (wrap64 (a1 - 64)))) else (none)) else (if 0 ≤ a1 then (if 0 ≤ a1 then (if 0 ≤ (wrap64 (64 - a1)) then (some (shr .u64 a0_0 a1, Go.bits .or .u64 (shr .u64 a0_1 a1) (shl .u64 a0_0 (wrap64 (64 - a1))))) else (none)) else (none)) else (none))
theorem twin_shr.fE (a0_0 : Int) (a0_1 : Int) (a1 : Int) : twin_shr.fR a0_0 a0_1 a1 = twin_shr.f a0_0 a0_1 a1 := by
  unfold twin_shr.fR twin_shr.f
  exact iteC (fun h0 => iteC (fun h1 => rfl) (fun h1 => rfl)) (fun h0 => iteC (fun h1 => (if_pos h1).trans (iteC (fun h2 => rfl) (fun h2 => rfl))) (fun h1 => rfl))
noncomputable def twin_shr.c : Con := S48.con fun x => twin_shr.f x.1 x.2.1 x.2.2
noncomputable def twin_shr.G (k : Nat) : List (Go.FuncId × Con) := []
noncomputable def twin_shr.cuts : List (Cut (TT S48.sb)) := []
theorem twin_shr.w (k : Nat) (x : TT S48.sa) : walk E48 (twin_shr.G k) (cutsAt k twin_shr.cuts) (retE E48 Go.Proofs.Tryz.f48.results.toList S48) 4000 true [([], .code B48)] (St0 S48 x) = twin_shr.f x.1 x.2.1 x.2.2 := Eq.trans (b := twin_shr.fR x.1 x.2.1 x.2.2) (by kernel_rfl) (twin_shr.fE x.1 x.2.1 x.2.2)
theorem twin_shr.ok : FnOk Go.Proofs.Tryz.prog E48.eT 48 (twin_shr.c) := FnOk.walk (E := E48) (body := B48) Go.Proofs.Tryz.func48 rfl (by rfl) Go.Proofs.Tryz.ntmps48 S48 rfl (fun k x => twin_shr.f x.1 x.2.1 x.2.2) twin_shr.G (fun k => trivial) 4000 twin_shr.cuts trivial (fun k x r h => (twin_shr.w k x).trans h) 0
noncomputable def E22 : En := ⟨Go.Proofs.Tryz.prog, 45, Go.Proofs.Tryz.f22.ntmps⟩
noncomputable def S22 : Sig := ⟨[.g 2, .s], [(.int .u64), (.int .u64), (.int .i64)], true, [.g 2, .s, .s], [(.int .u64), (.int .u64), .bool, .err], false⟩
noncomputable def B22 : Go.Code := Go.Proofs.Tryz.f22.body.get!
def twin_Shr.f (a0_0 : Int) (a0_1 : Int) (a1 : Int) : Option (Int × Int × Bool × Option Int) := if a1 < 0 then (some (0, 0, false, some 1)) else ((twin_shr.f a0_0 a0_1 (mn a1 128)).bind fun t100 => ((twin_shl.f t100.1 t100.2 (mn a1 128)).bind fun t101 => (some (t100.1, t100.2, !((t101.1 == a0_0) && (t101.2 == a0_1)), none))))
--@ok
noncomputable def twin_Shr.c : Con := S22.con fun x => twin_Shr.f x.1 x.2.1 x.2.2
noncomputable def twin_Shr.G (k : Nat) : List (Go.FuncId × Con) := [(48, twin_shr.c), (49, twin_shl.c)]
noncomputable def twin_Shr.cuts : List (Cut (TT S22.sb)) := []
theorem twin_Shr.w (k : Nat) (x : TT S22.sa) : walk E22 (twin_Shr.G k) (cutsAt k twin_Shr.cuts) (retE E22 Go.Proofs.Tryz.f22.results.toList S22) 4000 true [([], .code B22)] (St0 S22 x) = twin_Shr.f x.1 x.2.1 x.2.2 := by kernel_rfl
theorem twin_Shr.ok : FnOk Go.Proofs.Tryz.prog E22.eT 22 (twin_Shr.c) := FnOk.walk (E := E22) (body := B22) Go.Proofs.Tryz.func22 rfl (by rfl) Go.Proofs.Tryz.ntmps22 S22 rfl (fun k x => twin_Shr.f x.1 x.2.1 x.2.2) twin_Shr.G (fun k => ⟨twin_shr.ok, twin_shl.ok, trivial⟩) 4000 twin_Shr.cuts trivial (fun k x r h => (twin_Shr.w k x).trans h) 0
end Go.Proofs.YtfbbnpliaokmbaaGreat.Fn
set_option maxRecDepth 100000
set_option linter.unusedVariables false
noncomputable section
namespace Go.Proofs.YtfbbnpliaokmbaaGreat.Fn
open Go Go.RowKit Go.Proofs.YtfbbnpliaokmbaaGreat.Ab
noncomputable def E57 : En := ⟨Go.Proofs.Tryz.prog, 45, Go.Proofs.Tryz.f57.ntmps⟩
noncomputable def S57 : Sig := ⟨[.g 2, .s, .s, .s], [(.int .u64), (.int .u64), (.int .u64), (.int .i64), .bool], true, [.g 2, .s], [(.int .u64), (.int .u64), .bool], false⟩
noncomputable def B57 : Go.Code := Go.Proofs.Tryz.f57.body.get!
def round_under.f (a0_0 : Int) (a0_1 : Int) (a1 : Int) (a2 : Int) (a3 : Bool) : Option (Int × Int × Bool) := (twin_Shr.f a0_0 a0_1 a2).bind fun t100 => (if 0 ≤ (wrap64 (64 - a2)) then (if a3 = true then (some (Go.bits .or .u64 t100.1 (shl .u64 a1 (wrap64 (64 - a2))), t100.2.1, true)) else (some (Go.bits .or .u64 t100.1 (shl .u64 a1 (wrap64 (64 - a2))), t100.2.1, t100.2.2.1))) else (none))
--@ok
noncomputable def round_under.c : Con := S57.con fun x => round_under.f x.1 x.2.1 x.2.2.1 x.2.2.2.1 x.2.2.2.2
noncomputable def round_under.G (k : Nat) : List (Go.FuncId × Con) := [(22, twin_Shr.c)]
noncomputable def round_under.cuts : List (Cut (TT S57.sb)) := []
theorem round_under.w (k : Nat) (x : TT S57.sa) : walk E57 (round_under.G k) (cutsAt k round_under.cuts) (retE E57 Go.Proofs.Tryz.f57.results.toList S57) 4000 true [([], .code B57)] (St0 S57 x) = round_under.f x.1 x.2.1 x.2.2.1 x.2.2.2.1 x.2.2.2.2 := by kernel_rfl
theorem round_under.ok : FnOk Go.Proofs.Tryz.prog E57.eT 57 (round_under.c) := FnOk.walk (E := E57) (body := B57) Go.Proofs.Tryz.func57 rfl (by rfl) Go.Proofs.Tryz.ntmps57 S57 rfl (fun k x => round_under.f x.1 x.2.1 x.2.2.1 x.2.2.2.1 x.2.2.2.2) round_under.G (fun k => ⟨twin_Shr.ok, trivial⟩) 4000 round_under.cuts trivial (fun k x r h => (round_under.w k x).trans h) 0
noncomputable def E58 : En := ⟨Go.Proofs.Tryz.prog, 45, Go.Proofs.Tryz.f58.ntmps⟩
noncomputable def S58 : Sig := ⟨[.s, .s], [(.int .u64), .bool], false, [.s], [(.int .i64)], false⟩
noncomputable def B58 : Go.Code := Go.Proofs.Tryz.f58.body.get!
def round_left.j0 : Nat → Int → Bool → Int → Bool → Option (Int)
 | 0, _, _, _, _ => none
 | k + 1, x0, x1, x5, x6 => if x6 = true then (some 3) else (if x0 = x5 then (some 2) else (if x0 > 0 then (some 1) else (if x1 = true then (some 1) else (some 0))))
def round_left.f (k : Nat) (a0 : Int) (a1 : Bool) : Option (Int) := if a0 > 9223372036854775808 then (round_left.j0 k a0 a1 9223372036854775808 (decide (a0 > 9223372036854775808))) else (if a0 = 9223372036854775808 then (round_left.j0 k a0 a1 9223372036854775808 a1) else (round_left.j0 k a0 a1 9223372036854775808 false))
--@ok
noncomputable def round_left.c (k : Nat) : Con := S58.con fun x => round_left.f k x.1 x.2
noncomputable def round_left.G (k : Nat) : List (Go.FuncId × Con) := []
noncomputable def round_left.cuts : List (Cut (TT S58.sb)) := [⟨[1, 4, 0, 1, 1], [.sc 0 (.int .u64), .sc 1 (.bool), .sc 5 (.int .u64), .sc 6 (.bool)], fun k x => round_left.j0 k x.1 x.2.1 x.2.2.1 x.2.2.2⟩]
theorem round_left.w0 (k : Nat) (x : ET [.sc 0 (.int .u64), .sc 1 (.bool), .sc 5 (.int .u64), .sc 6 (.bool)]) : walk E58 (round_left.G k) (cutsAt k round_left.cuts) (retE E58 Go.Proofs.Tryz.f58.results.toList S58) 4000 true (stackAt B58 [1, 4, 0, 1, 1]) (mkE [.sc 0 (.int .u64), .sc 1 (.bool), .sc 5 (.int .u64), .sc 6 (.bool)] x St.nil) = round_left.j0 (k + 1) x.1 x.2.1 x.2.2.1 x.2.2.2 := by kernel_rfl
theorem round_left.w (k : Nat) (x : TT S58.sa) : walk E58 (round_left.G k) (cutsAt k round_left.cuts) (retE E58 Go.Proofs.Tryz.f58.results.toList S58) 4000 true [([], .code B58)] (St0 S58 x) = round_left.f k x.1 x.2 := by kernel_rfl
theorem round_left.ok (k : Nat) : FnOk Go.Proofs.Tryz.prog E58.eT 58 (round_left.c k) := FnOk.walk (E := E58) (body := B58) Go.Proofs.Tryz.func58 rfl (by rfl) Go.Proofs.Tryz.ntmps58 S58 rfl (fun k x => round_left.f k x.1 x.2) round_left.G (fun k => trivial) 4000 round_left.cuts ⟨⟨fun _ => rfl, fun k x q h => (round_left.w0 k x).trans h⟩, trivial⟩ (fun k x r h => (round_left.w k x).trans h) k
noncomputable def E28 : En := ⟨Go.Proofs.Tryz.prog, 45, Go.Proofs.Tryz.f28.ntmps⟩
noncomputable def S28 : Sig := ⟨[.s, .g 6], [(.int .i64), (.int .i64), .bool, (.int .i64), (.int .u64), (.int .u64), .bool], true, [.s, .s, .s], [(.int .u64), (.int .i64), .err], false⟩
noncomputable def B28 : Go.Code := Go.Proofs.Tryz.f28.body.get!
mutual
def round_Cut.j0 : Nat → Int → Int → Int → Int → Bool → Option (Int × Int × Option Int)
 | 0, _, _, _, _, _ => none
 | k + 1, x0, x3002, x3003, x3004, x3005 => (twin_Shl.f x3003 x3004 1).bind fun t102 => ((round_under.f t102.1 t102.2.1 (IntKind.u64.wrap (Go.bits .and .i64 x3002 3)) 2 x3005).bind fun t103 => (if (x3002 / 4) ≥ 0 then ((round_under.f t103.1 t103.2.1 0 1 t103.2.2).bind fun t104 => (round_Cut.l0 k x0 t104.2.2 (wrap64 ((x3002 / 4) + 1)) 0 t104.1 t104.2.1)) else ((round_under.f t103.1 t103.2.1 1 1 t103.2.2).bind fun t105 => (round_Cut.l1 k x0 t105.2.2 (wrap64 (-(x3002 / 4))) 0 t105.1 t105.2.1))))
def round_Cut.l0 : Nat → Int → Bool → Int → Int → Int → Int → Option (Int × Int × Option Int)
 | 0, _, _, _, _, _, _ => none
 | k + 1, x0, x12, x114, x115, x9000, x9001 => if x115 < x114 then ((round_under.f x9000 x9001 1 1 x12).bind fun t106 => (round_Cut.l0 k x0 t106.2.2 x114 (wrap64 (x115 + 1)) t106.1 t106.2.1)) else (round_Cut.j3 k x0 x12 x9000 x9001)
def round_Cut.l1 : Nat → Int → Bool → Int → Int → Int → Int → Option (Int × Int × Option Int)
 | 0, _, _, _, _, _, _ => none
 | k + 1, x0, x12, x131, x132, x9000, x9001 => if x132 < x131 then ((round_under.f x9000 x9001 0 1 x12).bind fun t107 => (round_Cut.l1 k x0 t107.2.2 x131 (wrap64 (x132 + 1)) t107.1 t107.2.1)) else (round_Cut.j3 k x0 x12 x9000 x9001)
def round_Cut.j3 : Nat → Int → Bool → Int → Int → Option (Int × Int × Option Int)
 | 0, _, _, _, _ => none
 | k + 1, x0, x12, x9000, x9001 => if 0 ≤ (wrap64 (65 - x0)) then ((twin_Shl.f x9000 x9001 (wrap64 (x0 - 1))).bind fun t108 => (if t108.2.1 = 0 then ((round_left.f k t108.1 x12).bind fun t109 => (some (shr .u64 x9000 (wrap64 (65 - x0)), t109, none))) else ((round_left.f k t108.1 true).bind fun t110 => (some (shr .u64 x9000 (wrap64 (65 - x0)), t110, none))))) else (none)
end
def round_Cut.f (k : Nat) (a0 : Int) (a1_0 : Int) (a1_1 : Bool) (a1_2 : Int) (a1_3 : Int) (a1_4 : Int) (a1_5 : Bool) : Option (Int × Int × Option Int) := (shape_Of.f a0).bind fun t100 => (if t100.2.2.2.2.2.isNone = true then ((round_sound.f k a1_0 a1_1 a1_2 a1_3 a1_4 a1_5).bind fun t101 => (if t101 = true then (if a1_0 = 0 then (some (0, 0, none)) else (if a1_0 = 2 then (some (t100.2.2.2.1, 0, none)) else (if a1_2 ≥ t100.2.2.2.2.1 then (some (t100.2.1, 0, none)) else (if a1_2 < (wrap64 (-t100.2.2.2.2.1)) then (some (t100.2.2.1, 0, none)) else (if a1_2 = (wrap64 (-t100.2.2.2.2.1)) then (if a1_3 = 9223372036854775808 then (if a1_4 = 0 then (if a1_5 = true then (round_Cut.j0 k a0 a1_2 a1_3 a1_4 a1_5) else (some (t100.2.2.1, 0, none))) else (round_Cut.j0 k a0 a1_2 a1_3 a1_4 a1_5)) else (round_Cut.j0 k a0 a1_2 a1_3 a1_4 a1_5)) else (round_Cut.j0 k a0 a1_2 a1_3 a1_4 a1_5)))))) else (some (0, 0, some 1)))) else (some (0, 0, some (t100.2.2.2.2.2.getD 0))))
--@ok
def round_Cut.fR (k : Nat) (a0 : Int) (a1_0 : Int) (a1_1 : Bool) (a1_2 : Int) (a1_3 : Int) (a1_4 : Int) (a1_5 : Bool) : Option (Int × Int × Option Int) := (shape_Of.f a0).bind fun t100 => (if t100.2.2.2.2.2.isNone = true then ((round_sound.f k a1_0 a1_1 a1_2 a1_3 a1_4 a1_5).bind fun t101 => (if t101 = true then (if a1_0 = 0 then (some (0, 0, none)) else (if a1_0 = 2 then (some (t100.2.2.2.1, 0, none)) else (if a1_2 ≥ t100.2.2.2.2.1 then (some (t100.2.1, 0, none)) else (if a1_2 < (wrap64 (-t100.2.2.2.2.1)) then (if a1_2 < (wrap64 (-t100.2.2.2.2.1)) then (some (t100.2.2.1, 0, none)) else (round_Cut.j0 k a0 a1_2 a1_3 a1_4 a1_5)) else (if a1_2 = (wrap64 (-t100.2.2.2.2.1)) then (if a1_3 = 9223372036854775808 then (if a1_4 = 0 then (if a1_5 = true then (round_Cut.j0 k a0 a1_2 a1_3 a1_4 a1_5) else (some (t100.2.2.1, 0, none))) else (round_Cut.j0 k a0 a1_2 a1_3 a1_4 a1_5)) else (round_Cut.j0 k a0 a1_2 a1_3 a1_4 a1_5)) else (round_Cut.j0 k a0 a1_2 a1_3 a1_4 a1_5)))))) else (some (0, 0, some 1)))) else (some (0, 0, some (t100.2.2.2.2.2.getD 0))))
theorem round_Cut.fE (k : Nat) (a0 : Int) (a1_0 : Int) (a1_1 : Bool) (a1_2 : Int) (a1_3 : Int) (a1_4 : Int) (a1_5 : Bool) : round_Cut.fR k a0 a1_0 a1_1 a1_2 a1_3 a1_4 a1_5 = round_Cut.f k a0 a1_0 a1_1 a1_2 a1_3 a1_4 a1_5 := by
  unfold round_Cut.fR round_Cut.f
  exact bindC fun _ => iteC (fun h0 => bindC fun _ => iteC (fun h1 => iteC (fun h2 => rfl) (fun h2 => iteC (fun h3 => rfl) (fun h3 => iteC (fun h4 => rfl) (fun h4 => iteC (fun h5 => (if_pos h5).trans (rfl)) (fun h5 => iteC (fun h6 => iteC (fun h7 => iteC (fun h8 => iteC (fun h9 => rfl) (fun h9 => rfl)) (fun h8 => rfl)) (fun h7 => rfl)) (fun h6 => rfl)))))) (fun h1 => rfl)) (fun h0 => rfl)
noncomputable def round_Cut.c (k : Nat) : Con := S28.con fun x => round_Cut.f k x.1 x.2.1 x.2.2.1 x.2.2.2.1 x.2.2.2.2.1 x.2.2.2.2.2.1 x.2.2.2.2.2.2
noncomputable def round_Cut.G (k : Nat) : List (Go.FuncId × Con) := [(45, round_sound.c k), (55, shape_Of.c), (56, twin_Shl.c), (57, round_under.c), (58, round_left.c k)]
noncomputable def round_Cut.cuts : List (Cut (TT S28.sb)) := [⟨[1, 1, 1], [.sc 0 (.int .i64), .box 3 34 [.int .i64, .bool, .int .i64, .int .u64, .int .u64, .bool]], fun k x => round_Cut.j0 k x.1 x.2.2.2.1 x.2.2.2.2.1 x.2.2.2.2.2.1 x.2.2.2.2.2.2⟩, ⟨[6, 4, 1, 1, 2, 1, 0, 1, 1, 1, 1, 1, 1, 1], [.sc 0 (.int .i64), .sc 12 (.bool), .sc 114 (.int .i64), .sc 115 (.int .i64), .box 9 53 [.int .u64, .int .u64]], fun k x => round_Cut.l0 k x.1 x.2.1 x.2.2.1 x.2.2.2.1 x.2.2.2.2.1 x.2.2.2.2.2⟩, ⟨[6, 4, 1, 1, 3, 1, 0, 1, 1, 1, 1, 1, 1, 1], [.sc 0 (.int .i64), .sc 12 (.bool), .sc 131 (.int .i64), .sc 132 (.int .i64), .box 9 53 [.int .u64, .int .u64]], fun k x => round_Cut.l1 k x.1 x.2.1 x.2.2.1 x.2.2.2.1 x.2.2.2.2.1 x.2.2.2.2.2⟩, ⟨[1, 1, 1, 1, 1, 1, 1, 1], [.sc 0 (.int .i64), .sc 12 (.bool), .box 9 53 [.int .u64, .int .u64]], fun k x => round_Cut.j3 k x.1 x.2.1 x.2.2.1 x.2.2.2⟩]
theorem round_Cut.w0 (k : Nat) (x : ET [.sc 0 (.int .i64), .box 3 34 [.int .i64, .bool, .int .i64, .int .u64, .int .u64, .bool]]) : walk E28 (round_Cut.G k) (cutsAt k round_Cut.cuts) (retE E28 Go.Proofs.Tryz.f28.results.toList S28) 4000 true (stackAt B28 [1, 1, 1]) (mkE [.sc 0 (.int .i64), .box 3 34 [.int .i64, .bool, .int .i64, .int .u64, .int .u64, .bool]] x St.nil) = round_Cut.j0 (k + 1) x.1 x.2.2.2.1 x.2.2.2.2.1 x.2.2.2.2.2.1 x.2.2.2.2.2.2 := by kernel_rfl
theorem round_Cut.w1 (k : Nat) (x : ET [.sc 0 (.int .i64), .sc 12 (.bool), .sc 114 (.int .i64), .sc 115 (.int .i64), .box 9 53 [.int .u64, .int .u64]]) : walk E28 (round_Cut.G k) (cutsAt k round_Cut.cuts) (retE E28 Go.Proofs.Tryz.f28.results.toList S28) 4000 true (stackAt B28 [6, 4, 1, 1, 2, 1, 0, 1, 1, 1, 1, 1, 1, 1]) (mkE [.sc 0 (.int .i64), .sc 12 (.bool), .sc 114 (.int .i64), .sc 115 (.int .i64), .box 9 53 [.int .u64, .int .u64]] x St.nil) = round_Cut.l0 (k + 1) x.1 x.2.1 x.2.2.1 x.2.2.2.1 x.2.2.2.2.1 x.2.2.2.2.2 := by kernel_rfl
theorem round_Cut.w2 (k : Nat) (x : ET [.sc 0 (.int .i64), .sc 12 (.bool), .sc 131 (.int .i64), .sc 132 (.int .i64), .box 9 53 [.int .u64, .int .u64]]) : walk E28 (round_Cut.G k) (cutsAt k round_Cut.cuts) (retE E28 Go.Proofs.Tryz.f28.results.toList S28) 4000 true (stackAt B28 [6, 4, 1, 1, 3, 1, 0, 1, 1, 1, 1, 1, 1, 1]) (mkE [.sc 0 (.int .i64), .sc 12 (.bool), .sc 131 (.int .i64), .sc 132 (.int .i64), .box 9 53 [.int .u64, .int .u64]] x St.nil) = round_Cut.l1 (k + 1) x.1 x.2.1 x.2.2.1 x.2.2.2.1 x.2.2.2.2.1 x.2.2.2.2.2 := by kernel_rfl
theorem round_Cut.w3 (k : Nat) (x : ET [.sc 0 (.int .i64), .sc 12 (.bool), .box 9 53 [.int .u64, .int .u64]]) : walk E28 (round_Cut.G k) (cutsAt k round_Cut.cuts) (retE E28 Go.Proofs.Tryz.f28.results.toList S28) 4000 true (stackAt B28 [1, 1, 1, 1, 1, 1, 1, 1]) (mkE [.sc 0 (.int .i64), .sc 12 (.bool), .box 9 53 [.int .u64, .int .u64]] x St.nil) = round_Cut.j3 (k + 1) x.1 x.2.1 x.2.2.1 x.2.2.2 := by kernel_rfl
theorem round_Cut.w (k : Nat) (x : TT S28.sa) : walk E28 (round_Cut.G k) (cutsAt k round_Cut.cuts) (retE E28 Go.Proofs.Tryz.f28.results.toList S28) 4000 true [([], .code B28)] (St0 S28 x) = round_Cut.f k x.1 x.2.1 x.2.2.1 x.2.2.2.1 x.2.2.2.2.1 x.2.2.2.2.2.1 x.2.2.2.2.2.2 := Eq.trans (b := round_Cut.fR k x.1 x.2.1 x.2.2.1 x.2.2.2.1 x.2.2.2.2.1 x.2.2.2.2.2.1 x.2.2.2.2.2.2) (by kernel_rfl) (round_Cut.fE k x.1 x.2.1 x.2.2.1 x.2.2.2.1 x.2.2.2.2.1 x.2.2.2.2.2.1 x.2.2.2.2.2.2)
theorem round_Cut.ok (k : Nat) : FnOk Go.Proofs.Tryz.prog E28.eT 28 (round_Cut.c k) := FnOk.walk (E := E28) (body := B28) Go.Proofs.Tryz.func28 rfl (by rfl) Go.Proofs.Tryz.ntmps28 S28 rfl (fun k x => round_Cut.f k x.1 x.2.1 x.2.2.1 x.2.2.2.1 x.2.2.2.2.1 x.2.2.2.2.2.1 x.2.2.2.2.2.2) round_Cut.G (fun k => ⟨round_sound.ok k, shape_Of.ok, twin_Shl.ok, round_under.ok, round_left.ok k, trivial⟩) 4000 round_Cut.cuts ⟨⟨fun _ => rfl, fun k x q h => (round_Cut.w0 k x).trans h⟩, ⟨fun _ => rfl, fun k x q h => (round_Cut.w1 k x).trans h⟩, ⟨fun _ => rfl, fun k x q h => (round_Cut.w2 k x).trans h⟩, ⟨fun _ => rfl, fun k x q h => (round_Cut.w3 k x).trans h⟩, trivial⟩ (fun k x r h => (round_Cut.w k x).trans h) k
noncomputable def E12 : En := ⟨Go.Proofs.Tryz.prog, 45, Go.Proofs.Tryz.f12.ntmps⟩
noncomputable def S12 : Sig := ⟨[.s, .g 6], [(.int .i64), (.int .i64), .bool, (.int .i64), (.int .u64), (.int .u64), .bool], true, [.s, .s], [(.int .u64), .err], false⟩
noncomputable def B12 : Go.Code := Go.Proofs.Tryz.f12.body.get!
def round_Round.f (k : Nat) (a0 : Int) (a1_0 : Int) (a1_1 : Bool) (a1_2 : Int) (a1_3 : Int) (a1_4 : Int) (a1_5 : Bool) : Option (Int × Option Int) := (round_Cut.f k a0 a1_0 a1_1 a1_2 a1_3 a1_4 a1_5).bind fun t100 => (if t100.2.2.isNone = true then (if t100.2.1 = 2 then (if (Go.bits .and .u64 t100.1 1) = 0 then (if a1_1 = true then ((shape_Fold.f a0 (IntKind.u64.wrap (-t100.1))).bind fun t101 => (some (t101.1, t101.2))) else ((shape_Fold.f a0 t100.1).bind fun t102 => (some (t102.1, t102.2)))) else (if a1_1 = true then ((shape_Fold.f a0 (IntKind.u64.wrap (-(IntKind.u64.wrap (t100.1 + 1))))).bind fun t103 => (some (t103.1, t103.2))) else ((shape_Fold.f a0 (IntKind.u64.wrap (t100.1 + 1))).bind fun t104 => (some (t104.1, t104.2))))) else (if t100.2.1 = 3 then (if a1_1 = true then ((shape_Fold.f a0 (IntKind.u64.wrap (-(IntKind.u64.wrap (t100.1 + 1))))).bind fun t105 => (some (t105.1, t105.2))) else ((shape_Fold.f a0 (IntKind.u64.wrap (t100.1 + 1))).bind fun t106 => (some (t106.1, t106.2)))) else (if a1_1 = true then ((shape_Fold.f a0 (IntKind.u64.wrap (-t100.1))).bind fun t107 => (some (t107.1, t107.2))) else ((shape_Fold.f a0 t100.1).bind fun t108 => (some (t108.1, t108.2)))))) else (some (0, some (t100.2.2.getD 0))))
--@ok
noncomputable def round_Round.c (k : Nat) : Con := S12.con fun x => round_Round.f k x.1 x.2.1 x.2.2.1 x.2.2.2.1 x.2.2.2.2.1 x.2.2.2.2.2.1 x.2.2.2.2.2.2
noncomputable def round_Round.G (k : Nat) : List (Go.FuncId × Con) := [(28, round_Cut.c k), (29, shape_Fold.c)]
noncomputable def round_Round.cuts : List (Cut (TT S12.sb)) := []
theorem round_Round.w (k : Nat) (x : TT S12.sa) : walk E12 (round_Round.G k) (cutsAt k round_Round.cuts) (retE E12 Go.Proofs.Tryz.f12.results.toList S12) 4000 true [([], .code B12)] (St0 S12 x) = round_Round.f k x.1 x.2.1 x.2.2.1 x.2.2.2.1 x.2.2.2.2.1 x.2.2.2.2.2.1 x.2.2.2.2.2.2 := by kernel_rfl
theorem round_Round.ok (k : Nat) : FnOk Go.Proofs.Tryz.prog E12.eT 12 (round_Round.c k) := FnOk.walk (E := E12) (body := B12) Go.Proofs.Tryz.func12 rfl (by rfl) Go.Proofs.Tryz.ntmps12 S12 rfl (fun k x => round_Round.f k x.1 x.2.1 x.2.2.1 x.2.2.2.1 x.2.2.2.2.1 x.2.2.2.2.2.1 x.2.2.2.2.2.2) round_Round.G (fun k => ⟨round_Cut.ok k, shape_Fold.ok, trivial⟩) 4000 round_Round.cuts trivial (fun k x r h => (round_Round.w k x).trans h) k
noncomputable def E8 : En := ⟨Go.Proofs.Tryz.prog, 45, Go.Proofs.Tryz.f8.ntmps⟩
noncomputable def S8 : Sig := ⟨[.s, .s, .s, .s], [(.int .i64), (.int .u64), (.int .u64), (.int .u64)], true, [.s, .s], [(.int .u64), .err], false⟩
noncomputable def B8 : Go.Code := Go.Proofs.Tryz.f8.body.get!
def fuse_Fma.f (k : Nat) (a0 : Int) (a1 : Int) (a2 : Int) (a3 : Int) : Option (Int × Option Int) := (fuse_product.f k a0 a1 a2).bind fun t100 => (if t100.2.2.2.2.2.2.isNone = true then ((codec_Decode.f k a0 a3).bind fun t101 => ((round_Of.f k t101.1 t101.2.1 t101.2.2.1 t101.2.2.2.1).bind fun t102 => ((broad_Sum.f k t100.1 t100.2.1 t100.2.2.1 t100.2.2.2.1 t100.2.2.2.2.1 t100.2.2.2.2.2.1 t102.1 t102.2.1 t102.2.2.1 t102.2.2.2.1 t102.2.2.2.2.1 t102.2.2.2.2.2.1).bind fun t103 => ((round_Round.f k a0 t103.1 t103.2.1 t103.2.2.1 t103.2.2.2.1 t103.2.2.2.2.1 t103.2.2.2.2.2).bind fun t104 => (some (t104.1, t104.2)))))) else (some (0, some (t100.2.2.2.2.2.2.getD 0))))
--@ok
noncomputable def fuse_Fma.c (k : Nat) : Con := S8.con fun x => fuse_Fma.f k x.1 x.2.1 x.2.2.1 x.2.2.2
noncomputable def fuse_Fma.G (k : Nat) : List (Go.FuncId × Con) := [(9, fuse_product.c k), (11, broad_Sum.c k), (12, round_Round.c k), (19, codec_Decode.c k), (20, round_Of.c k)]
noncomputable def fuse_Fma.cuts : List (Cut (TT S8.sb)) := []
theorem fuse_Fma.w (k : Nat) (x : TT S8.sa) : walk E8 (fuse_Fma.G k) (cutsAt k fuse_Fma.cuts) (retE E8 Go.Proofs.Tryz.f8.results.toList S8) 4000 true [([], .code B8)] (St0 S8 x) = fuse_Fma.f k x.1 x.2.1 x.2.2.1 x.2.2.2 := by kernel_rfl
theorem fuse_Fma.ok (k : Nat) : FnOk Go.Proofs.Tryz.prog E8.eT 8 (fuse_Fma.c k) := FnOk.walk (E := E8) (body := B8) Go.Proofs.Tryz.func8 rfl (by rfl) Go.Proofs.Tryz.ntmps8 S8 rfl (fun k x => fuse_Fma.f k x.1 x.2.1 x.2.2.1 x.2.2.2) fuse_Fma.G (fun k => ⟨fuse_product.ok k, broad_Sum.ok k, round_Round.ok k, codec_Decode.ok k, round_Of.ok k, trivial⟩) 4000 fuse_Fma.cuts trivial (fun k x r h => (fuse_Fma.w k x).trans h) k
noncomputable def E4 : En := ⟨Go.Proofs.Tryz.prog, 45, Go.Proofs.Tryz.f4.ntmps⟩
noncomputable def S4 : Sig := ⟨[], [], false, [.s], [.bool], false⟩
noncomputable def B4 : Go.Code := Go.Proofs.Tryz.f4.body.get!
def vernierlaw13_up.f (k : Nat)  : Option (Bool) := (fuse_Fma.f k 8 72 72 192).bind fun t100 => ((fuse_Fma.f k 8 127 1 192).bind fun t101 => (if t100.2.isNone = true then (if t101.2.isNone = true then (if t100.1 = 76 then (some (t101.1 == 0)) else (some false)) else (some false)) else (some false)))
--@ok
noncomputable def vernierlaw13_up.c (k : Nat) : Con := S4.con fun x => vernierlaw13_up.f k
noncomputable def vernierlaw13_up.G (k : Nat) : List (Go.FuncId × Con) := [(8, fuse_Fma.c k)]
noncomputable def vernierlaw13_up.cuts : List (Cut (TT S4.sb)) := []
theorem vernierlaw13_up.w (k : Nat) (x : TT S4.sa) : walk E4 (vernierlaw13_up.G k) (cutsAt k vernierlaw13_up.cuts) (retE E4 Go.Proofs.Tryz.f4.results.toList S4) 4000 true [([], .code B4)] (St0 S4 x) = vernierlaw13_up.f k := by kernel_rfl
theorem vernierlaw13_up.ok (k : Nat) : FnOk Go.Proofs.Tryz.prog E4.eT 4 (vernierlaw13_up.c k) := FnOk.walk (E := E4) (body := B4) Go.Proofs.Tryz.func4 rfl (by rfl) Go.Proofs.Tryz.ntmps4 S4 rfl (fun k x => vernierlaw13_up.f k) vernierlaw13_up.G (fun k => ⟨fuse_Fma.ok k, trivial⟩) 4000 vernierlaw13_up.cuts trivial (fun k x r h => (vernierlaw13_up.w k x).trans h) k
noncomputable def E50 : En := ⟨Go.Proofs.Tryz.prog, 45, Go.Proofs.Tryz.f50.ntmps⟩
noncomputable def S50 : Sig := ⟨[.g 2, .g 2], [(.int .u64), (.int .u64), (.int .u64), (.int .u64)], false, [.s], [(.int .i64)], false⟩
noncomputable def B50 : Go.Code := Go.Proofs.Tryz.f50.body.get!
def twin_Cmp.f (a0_0 : Int) (a0_1 : Int) (a1_0 : Int) (a1_1 : Int) : Option (Int) := if ((a0_0 == a1_0) && (a0_1 == a1_1)) = true then (some 0) else (if a0_0 < a1_0 then (some (-1)) else (if a0_0 = a1_0 then (if a0_1 < a1_1 then (some (-1)) else (some 1)) else (some 1)))
--@ok
noncomputable def twin_Cmp.c : Con := S50.con fun x => twin_Cmp.f x.1 x.2.1 x.2.2.1 x.2.2.2
noncomputable def twin_Cmp.G (k : Nat) : List (Go.FuncId × Con) := []
noncomputable def twin_Cmp.cuts : List (Cut (TT S50.sb)) := []
theorem twin_Cmp.w (k : Nat) (x : TT S50.sa) : walk E50 (twin_Cmp.G k) (cutsAt k twin_Cmp.cuts) (retE E50 Go.Proofs.Tryz.f50.results.toList S50) 4000 true [([], .code B50)] (St0 S50 x) = twin_Cmp.f x.1 x.2.1 x.2.2.1 x.2.2.2 := by kernel_rfl
theorem twin_Cmp.ok : FnOk Go.Proofs.Tryz.prog E50.eT 50 (twin_Cmp.c) := FnOk.walk (E := E50) (body := B50) Go.Proofs.Tryz.func50 rfl (by rfl) Go.Proofs.Tryz.ntmps50 S50 rfl (fun k x => twin_Cmp.f x.1 x.2.1 x.2.2.1 x.2.2.2) twin_Cmp.G (fun k => trivial) 4000 twin_Cmp.cuts trivial (fun k x r h => (twin_Cmp.w k x).trans h) 0
noncomputable def E51 : En := ⟨Go.Proofs.Tryz.prog, 45, Go.Proofs.Tryz.f51.ntmps⟩
noncomputable def S51 : Sig := ⟨[.g 2, .g 2], [(.int .u64), (.int .u64), (.int .u64), (.int .u64)], true, [.g 2, .s], [(.int .u64), (.int .u64), .bool], false⟩
noncomputable def B51 : Go.Code := Go.Proofs.Tryz.f51.body.get!
def twin_Sub.f (a0_0 : Int) (a0_1 : Int) (a1_0 : Int) (a1_1 : Int) : Option (Int × Int × Bool) := (bits_Sub64.f a0_1 a1_1 0).bind fun t100 => ((bits_Sub64.f a0_0 a1_0 t100.2).bind fun t101 => (some (t101.1, t100.1, t101.2 == 1)))
--@ok
noncomputable def twin_Sub.c : Con := S51.con fun x => twin_Sub.f x.1 x.2.1 x.2.2.1 x.2.2.2
noncomputable def twin_Sub.G (k : Nat) : List (Go.FuncId × Con) := [(53, bits_Sub64.c)]
noncomputable def twin_Sub.cuts : List (Cut (TT S51.sb)) := []
theorem twin_Sub.w (k : Nat) (x : TT S51.sa) : walk E51 (twin_Sub.G k) (cutsAt k twin_Sub.cuts) (retE E51 Go.Proofs.Tryz.f51.results.toList S51) 4000 true [([], .code B51)] (St0 S51 x) = twin_Sub.f x.1 x.2.1 x.2.2.1 x.2.2.2 := by kernel_rfl
theorem twin_Sub.ok : FnOk Go.Proofs.Tryz.prog E51.eT 51 (twin_Sub.c) := FnOk.walk (E := E51) (body := B51) Go.Proofs.Tryz.func51 rfl (by rfl) Go.Proofs.Tryz.ntmps51 S51 rfl (fun k x => twin_Sub.f x.1 x.2.1 x.2.2.1 x.2.2.2) twin_Sub.G (fun k => ⟨bits_Sub64.ok, trivial⟩) 4000 twin_Sub.cuts trivial (fun k x r h => (twin_Sub.w k x).trans h) 0
noncomputable def E23 : En := ⟨Go.Proofs.Tryz.prog, 45, Go.Proofs.Tryz.f23.ntmps⟩
noncomputable def S23 : Sig := ⟨[.g 2], [(.int .u64), (.int .u64)], true, [.s, .g 2], [(.int .u64), (.int .u64), (.int .u64)], false⟩
noncomputable def B23 : Go.Code := Go.Proofs.Tryz.f23.body.get!
def part_Root.l0 : Nat → Int → Int → Int → Int → Option (Int × Int × Int)
 | 0, _, _, _, _ => none
 | k + 1, x4, x5, x1000, x1001 => if x5 ≥ 0 then (if 0 ≤ x5 then ((twin_Mul.f (Go.bits .or .u64 x4 (shl .u64 1 x5)) (Go.bits .or .u64 x4 (shl .u64 1 x5))).bind fun t100 => ((twin_Cmp.f t100.1 t100.2 x1000 x1001).bind fun t101 => (if t101 ≤ 0 then (part_Root.l0 k (Go.bits .or .u64 x4 (shl .u64 1 x5)) (wrap64 (x5 - 1)) x1000 x1001) else (part_Root.l0 k x4 (wrap64 (x5 - 1)) x1000 x1001)))) else (none)) else ((twin_Mul.f x4 x4).bind fun t102 => ((twin_Sub.f x1000 x1001 t102.1 t102.2).bind fun t103 => (some (x4, t103.1, t103.2.1))))
def part_Root.f (k : Nat) (a0_0 : Int) (a0_1 : Int) : Option (Int × Int × Int) := part_Root.l0 k 0 63 a0_0 a0_1
--@ok
noncomputable def part_Root.c (k : Nat) : Con := S23.con fun x => part_Root.f k x.1 x.2
noncomputable def part_Root.G (k : Nat) : List (Go.FuncId × Con) := [(46, twin_Mul.c), (50, twin_Cmp.c), (51, twin_Sub.c)]
noncomputable def part_Root.cuts : List (Cut (TT S23.sb)) := [⟨[6, 4, 1, 0, 1, 1], [.sc 4 (.int .u64), .sc 5 (.int .i64), .box 1 53 [.int .u64, .int .u64], .box 3 53 [.int .u64, .int .u64]], fun k x => part_Root.l0 k x.1 x.2.1 x.2.2.1.1 x.2.2.1.2⟩]
theorem part_Root.w0 (k : Nat) (x : ET [.sc 4 (.int .u64), .sc 5 (.int .i64), .box 1 53 [.int .u64, .int .u64], .box 3 53 [.int .u64, .int .u64]]) : walk E23 (part_Root.G k) (cutsAt k part_Root.cuts) (retE E23 Go.Proofs.Tryz.f23.results.toList S23) 4000 true (stackAt B23 [6, 4, 1, 0, 1, 1]) (mkE [.sc 4 (.int .u64), .sc 5 (.int .i64), .box 1 53 [.int .u64, .int .u64], .box 3 53 [.int .u64, .int .u64]] x St.nil) = part_Root.l0 (k + 1) x.1 x.2.1 x.2.2.1.1 x.2.2.1.2 := by kernel_rfl
theorem part_Root.w (k : Nat) (x : TT S23.sa) : walk E23 (part_Root.G k) (cutsAt k part_Root.cuts) (retE E23 Go.Proofs.Tryz.f23.results.toList S23) 4000 true [([], .code B23)] (St0 S23 x) = part_Root.f k x.1 x.2 := by kernel_rfl
theorem part_Root.ok (k : Nat) : FnOk Go.Proofs.Tryz.prog E23.eT 23 (part_Root.c k) := FnOk.walk (E := E23) (body := B23) Go.Proofs.Tryz.func23 rfl (by rfl) Go.Proofs.Tryz.ntmps23 S23 rfl (fun k x => part_Root.f k x.1 x.2) part_Root.G (fun k => ⟨twin_Mul.ok, twin_Cmp.ok, twin_Sub.ok, trivial⟩) 4000 part_Root.cuts ⟨⟨fun _ => rfl, fun k x q h => (part_Root.w0 k x).trans h⟩, trivial⟩ (fun k x r h => (part_Root.w k x).trans h) k
noncomputable def E10 : En := ⟨Go.Proofs.Tryz.prog, 45, Go.Proofs.Tryz.f10.ntmps⟩
noncomputable def S10 : Sig := ⟨[.g 6], [(.int .i64), .bool, (.int .i64), (.int .u64), (.int .u64), .bool], true, [.g 6, .s], [(.int .i64), .bool, (.int .i64), (.int .u64), (.int .u64), .bool, .err], false⟩
noncomputable def B10 : Go.Code := Go.Proofs.Tryz.f10.body.get!
def root_Exact.j0 : Nat → Int → Int → Int → Bool → Option (Int × Bool × Int × Int × Int × Bool × Option Int)
 | 0, _, _, _, _ => none
 | k + 1, x1002, x1003, x1004, x1005 => if (Go.bits .and .i64 x1002 1) = 0 then ((twin_Shr.f x1003 x1004 1).bind fun t101 => (if x1005 = true then ((part_Root.f k t101.1 t101.2.1).bind fun t102 => (some (1, false, x1002 / 2, t102.1, 0, true, none))) else ((part_Root.f k t101.1 t101.2.1).bind fun t103 => (if t101.2.2.1 = true then (some (1, false, x1002 / 2, t103.1, 0, true, none)) else (some (1, false, x1002 / 2, t103.1, 0, !((t103.2.1 == 0) && (t103.2.2 == 0)), none)))))) else ((part_Root.f k x1003 x1004).bind fun t104 => (if x1005 = true then (some (1, false, x1002 / 2, t104.1, 0, true, none)) else (some (1, false, x1002 / 2, t104.1, 0, !((t104.2.1 == 0) && (t104.2.2 == 0)), none))))
def root_Exact.f (k : Nat) (a0_0 : Int) (a0_1 : Bool) (a0_2 : Int) (a0_3 : Int) (a0_4 : Int) (a0_5 : Bool) : Option (Int × Bool × Int × Int × Int × Bool × Option Int) := (round_Round.f k 8 a0_0 a0_1 a0_2 a0_3 a0_4 a0_5).bind fun t100 => (if t100.2.isNone = true then (if a0_0 = 0 then (some (a0_0, a0_1, a0_2, a0_3, a0_4, a0_5, none)) else (if a0_0 = 2 then (some (2, false, 0, 0, 0, false, none)) else (if a0_1 = true then (some (2, false, 0, 0, 0, false, none)) else (root_Exact.j0 k a0_2 a0_3 a0_4 a0_5)))) else (some (0, false, 0, 0, 0, false, some (t100.2.getD 0))))
--@ok
def root_Exact.fR (k : Nat) (a0_0 : Int) (a0_1 : Bool) (a0_2 : Int) (a0_3 : Int) (a0_4 : Int) (a0_5 : Bool) : Option (Int × Bool × Int × Int × Int × Bool × Option Int) := (round_Round.f k 8 a0_0 a0_1 a0_2 a0_3 a0_4 a0_5).bind fun t100 => (if t100.2.isNone = true then (if a0_0 = 0 then (some (a0_0, a0_1, a0_2, a0_3, a0_4, a0_5, none)) else (if a0_0 = 2 then (if a0_0 = 2 then (some (2, false, 0, 0, 0, false, none)) else (root_Exact.j0 k a0_2 a0_3 a0_4 a0_5)) else (if a0_1 = true then (some (2, false, 0, 0, 0, false, none)) else (root_Exact.j0 k a0_2 a0_3 a0_4 a0_5)))) else (some (0, false, 0, 0, 0, false, some (t100.2.getD 0))))
theorem root_Exact.fE (k : Nat) (a0_0 : Int) (a0_1 : Bool) (a0_2 : Int) (a0_3 : Int) (a0_4 : Int) (a0_5 : Bool) : root_Exact.fR k a0_0 a0_1 a0_2 a0_3 a0_4 a0_5 = root_Exact.f k a0_0 a0_1 a0_2 a0_3 a0_4 a0_5 := by
  unfold root_Exact.fR root_Exact.f
  exact bindC fun _ => iteC (fun h0 => iteC (fun h1 => rfl) (fun h1 => iteC (fun h2 => (if_pos h2).trans (rfl)) (fun h2 => iteC (fun h3 => rfl) (fun h3 => rfl)))) (fun h0 => rfl)
noncomputable def root_Exact.c (k : Nat) : Con := S10.con fun x => root_Exact.f k x.1 x.2.1 x.2.2.1 x.2.2.2.1 x.2.2.2.2.1 x.2.2.2.2.2
noncomputable def root_Exact.G (k : Nat) : List (Go.FuncId × Con) := [(12, round_Round.c k), (22, twin_Shr.c), (23, part_Root.c k)]
noncomputable def root_Exact.cuts : List (Cut (TT S10.sb)) := [⟨[1, 1, 1], [.box 1 34 [.int .i64, .bool, .int .i64, .int .u64, .int .u64, .bool], .box 2 34 [.int .i64, .bool, .int .i64, .int .u64, .int .u64, .bool]], fun k x => root_Exact.j0 k x.1.2.2.1 x.1.2.2.2.1 x.1.2.2.2.2.1 x.1.2.2.2.2.2⟩]
theorem root_Exact.w0 (k : Nat) (x : ET [.box 1 34 [.int .i64, .bool, .int .i64, .int .u64, .int .u64, .bool], .box 2 34 [.int .i64, .bool, .int .i64, .int .u64, .int .u64, .bool]]) : walk E10 (root_Exact.G k) (cutsAt k root_Exact.cuts) (retE E10 Go.Proofs.Tryz.f10.results.toList S10) 4000 true (stackAt B10 [1, 1, 1]) (mkE [.box 1 34 [.int .i64, .bool, .int .i64, .int .u64, .int .u64, .bool], .box 2 34 [.int .i64, .bool, .int .i64, .int .u64, .int .u64, .bool]] x St.nil) = root_Exact.j0 (k + 1) x.1.2.2.1 x.1.2.2.2.1 x.1.2.2.2.2.1 x.1.2.2.2.2.2 := by kernel_rfl
theorem root_Exact.w (k : Nat) (x : TT S10.sa) : walk E10 (root_Exact.G k) (cutsAt k root_Exact.cuts) (retE E10 Go.Proofs.Tryz.f10.results.toList S10) 4000 true [([], .code B10)] (St0 S10 x) = root_Exact.f k x.1 x.2.1 x.2.2.1 x.2.2.2.1 x.2.2.2.2.1 x.2.2.2.2.2 := Eq.trans (b := root_Exact.fR k x.1 x.2.1 x.2.2.1 x.2.2.2.1 x.2.2.2.2.1 x.2.2.2.2.2) (by kernel_rfl) (root_Exact.fE k x.1 x.2.1 x.2.2.1 x.2.2.2.1 x.2.2.2.2.1 x.2.2.2.2.2)
theorem root_Exact.ok (k : Nat) : FnOk Go.Proofs.Tryz.prog E10.eT 10 (root_Exact.c k) := FnOk.walk (E := E10) (body := B10) Go.Proofs.Tryz.func10 rfl (by rfl) Go.Proofs.Tryz.ntmps10 S10 rfl (fun k x => root_Exact.f k x.1 x.2.1 x.2.2.1 x.2.2.2.1 x.2.2.2.2.1 x.2.2.2.2.2) root_Exact.G (fun k => ⟨round_Round.ok k, twin_Shr.ok, part_Root.ok k, trivial⟩) 4000 root_Exact.cuts ⟨⟨fun _ => rfl, fun k x q h => (root_Exact.w0 k x).trans h⟩, trivial⟩ (fun k x r h => (root_Exact.w k x).trans h) k
noncomputable def E5 : En := ⟨Go.Proofs.Tryz.prog, 45, Go.Proofs.Tryz.f5.ntmps⟩
noncomputable def S5 : Sig := ⟨[.s, .s, .s], [(.int .i64), (.int .u64), (.int .u64)], true, [.s, .s], [(.int .u64), .err], false⟩
noncomputable def B5 : Go.Code := Go.Proofs.Tryz.f5.body.get!
def fuse_Hypot.f (k : Nat) (a0 : Int) (a1 : Int) (a2 : Int) : Option (Int × Option Int) := (fuse_product.f k a0 a1 a1).bind fun t100 => (if t100.2.2.2.2.2.2.isNone = true then ((fuse_product.f k a0 a2 a2).bind fun t101 => ((broad_Sum.f k t100.1 t100.2.1 t100.2.2.1 t100.2.2.2.1 t100.2.2.2.2.1 t100.2.2.2.2.2.1 t101.1 t101.2.1 t101.2.2.1 t101.2.2.2.1 t101.2.2.2.2.1 t101.2.2.2.2.2.1).bind fun t102 => ((root_Exact.f k t102.1 t102.2.1 t102.2.2.1 t102.2.2.2.1 t102.2.2.2.2.1 t102.2.2.2.2.2).bind fun t103 => ((round_Round.f k a0 t103.1 t103.2.1 t103.2.2.1 t103.2.2.2.1 t103.2.2.2.2.1 t103.2.2.2.2.2.1).bind fun t104 => (some (t104.1, t104.2)))))) else (some (0, some (t100.2.2.2.2.2.2.getD 0))))
--@ok
noncomputable def fuse_Hypot.c (k : Nat) : Con := S5.con fun x => fuse_Hypot.f k x.1 x.2.1 x.2.2
noncomputable def fuse_Hypot.G (k : Nat) : List (Go.FuncId × Con) := [(9, fuse_product.c k), (10, root_Exact.c k), (11, broad_Sum.c k), (12, round_Round.c k)]
noncomputable def fuse_Hypot.cuts : List (Cut (TT S5.sb)) := []
theorem fuse_Hypot.w (k : Nat) (x : TT S5.sa) : walk E5 (fuse_Hypot.G k) (cutsAt k fuse_Hypot.cuts) (retE E5 Go.Proofs.Tryz.f5.results.toList S5) 4000 true [([], .code B5)] (St0 S5 x) = fuse_Hypot.f k x.1 x.2.1 x.2.2 := by kernel_rfl
theorem fuse_Hypot.ok (k : Nat) : FnOk Go.Proofs.Tryz.prog E5.eT 5 (fuse_Hypot.c k) := FnOk.walk (E := E5) (body := B5) Go.Proofs.Tryz.func5 rfl (by rfl) Go.Proofs.Tryz.ntmps5 S5 rfl (fun k x => fuse_Hypot.f k x.1 x.2.1 x.2.2) fuse_Hypot.G (fun k => ⟨fuse_product.ok k, root_Exact.ok k, broad_Sum.ok k, round_Round.ok k, trivial⟩) 4000 fuse_Hypot.cuts trivial (fun k x r h => (fuse_Hypot.w k x).trans h) k
noncomputable def E13 : En := ⟨Go.Proofs.Tryz.prog, 45, Go.Proofs.Tryz.f13.ntmps⟩
noncomputable def S13 : Sig := ⟨[.s], [(.int .i64)], false, [.s], [.bool], false⟩
noncomputable def B13 : Go.Code := Go.Proofs.Tryz.f13.body.get!
def vernierref05_Is.f (a0 : Int) : Option (Bool) := if a0 = 8 then (some true) else (if a0 = 16 then (some true) else (if a0 = 32 then (some true) else (some (a0 == 64))))
--@ok
noncomputable def vernierref05_Is.c : Con := S13.con fun x => vernierref05_Is.f x
noncomputable def vernierref05_Is.G (k : Nat) : List (Go.FuncId × Con) := []
noncomputable def vernierref05_Is.cuts : List (Cut (TT S13.sb)) := []
theorem vernierref05_Is.w (k : Nat) (x : TT S13.sa) : walk E13 (vernierref05_Is.G k) (cutsAt k vernierref05_Is.cuts) (retE E13 Go.Proofs.Tryz.f13.results.toList S13) 4000 true [([], .code B13)] (St0 S13 x) = vernierref05_Is.f x := by kernel_rfl
theorem vernierref05_Is.ok : FnOk Go.Proofs.Tryz.prog E13.eT 13 (vernierref05_Is.c) := FnOk.walk (E := E13) (body := B13) Go.Proofs.Tryz.func13 rfl (by rfl) Go.Proofs.Tryz.ntmps13 S13 rfl (fun k x => vernierref05_Is.f x) vernierref05_Is.G (fun k => trivial) 4000 vernierref05_Is.cuts trivial (fun k x r h => (vernierref05_Is.w k x).trans h) 0
end Go.Proofs.YtfbbnpliaokmbaaGreat.Fn
set_option maxRecDepth 100000
set_option linter.unusedVariables false
noncomputable section
namespace Go.Proofs.YtfbbnpliaokmbaaGreat.Fn
open Go Go.RowKit Go.Proofs.YtfbbnpliaokmbaaGreat.Ab
noncomputable def E30 : En := ⟨Go.Proofs.Tryz.prog, 45, Go.Proofs.Tryz.f30.ntmps⟩
noncomputable def S30 : Sig := ⟨[.g 6], [(.int .i64), .bool, (.int .i64), (.int .u64), (.int .u64), .bool], false, [.s], [.bool], false⟩
noncomputable def B30 : Go.Code := Go.Proofs.Tryz.f30.body.get!
def vernierref07_Sound.f (a0_0 : Int) (a0_1 : Bool) (a0_2 : Int) (a0_3 : Int) (a0_4 : Int) (a0_5 : Bool) : Option (Bool) := if a0_0 = 0 then (some ((a0_0 == a0_0) && ((!a0_1) && ((a0_2 == 0) && ((a0_3 == 0) && ((a0_4 == 0) && (!a0_5))))))) else (if a0_0 = 2 then (some ((a0_0 == a0_0) && ((!a0_1) && ((a0_2 == 0) && ((a0_3 == 0) && ((a0_4 == 0) && (!a0_5))))))) else (if a0_0 = 1 then (if a0_3 ≥ 9223372036854775808 then (if a0_2 ≥ (-1099511627776) then (some (decide (a0_2 ≤ 1099511627776))) else (some false)) else (some false)) else (some false)))
--@ok
noncomputable def vernierref07_Sound.c : Con := S30.con fun x => vernierref07_Sound.f x.1 x.2.1 x.2.2.1 x.2.2.2.1 x.2.2.2.2.1 x.2.2.2.2.2
noncomputable def vernierref07_Sound.G (k : Nat) : List (Go.FuncId × Con) := []
noncomputable def vernierref07_Sound.cuts : List (Cut (TT S30.sb)) := []
theorem vernierref07_Sound.w (k : Nat) (x : TT S30.sa) : walk E30 (vernierref07_Sound.G k) (cutsAt k vernierref07_Sound.cuts) (retE E30 Go.Proofs.Tryz.f30.results.toList S30) 4000 true [([], .code B30)] (St0 S30 x) = vernierref07_Sound.f x.1 x.2.1 x.2.2.1 x.2.2.2.1 x.2.2.2.2.1 x.2.2.2.2.2 := by kernel_rfl
theorem vernierref07_Sound.ok : FnOk Go.Proofs.Tryz.prog E30.eT 30 (vernierref07_Sound.c) := FnOk.walk (E := E30) (body := B30) Go.Proofs.Tryz.func30 rfl (by rfl) Go.Proofs.Tryz.ntmps30 S30 rfl (fun k x => vernierref07_Sound.f x.1 x.2.1 x.2.2.1 x.2.2.2.1 x.2.2.2.2.1 x.2.2.2.2.2) vernierref07_Sound.G (fun k => trivial) 4000 vernierref07_Sound.cuts trivial (fun k x r h => (vernierref07_Sound.w k x).trans h) 0
noncomputable def E31 : En := ⟨Go.Proofs.Tryz.prog, 45, Go.Proofs.Tryz.f31.ntmps⟩
noncomputable def S31 : Sig := ⟨[.s], [(.int .i64)], false, [.s], [(.int .i64)], false⟩
noncomputable def B31 : Go.Code := Go.Proofs.Tryz.f31.body.get!
def vernierref12_half.f (a0 : Int) : Option (Int) := if (wrap64 (2 * (wrap64 (Int.tdiv a0 2)))) > a0 then (some (wrap64 ((wrap64 (Int.tdiv a0 2)) - 1))) else (some (wrap64 (Int.tdiv a0 2)))
--@ok
noncomputable def vernierref12_half.c : Con := S31.con fun x => vernierref12_half.f x
noncomputable def vernierref12_half.G (k : Nat) : List (Go.FuncId × Con) := []
noncomputable def vernierref12_half.cuts : List (Cut (TT S31.sb)) := []
theorem vernierref12_half.w (k : Nat) (x : TT S31.sa) : walk E31 (vernierref12_half.G k) (cutsAt k vernierref12_half.cuts) (retE E31 Go.Proofs.Tryz.f31.results.toList S31) 4000 true [([], .code B31)] (St0 S31 x) = vernierref12_half.f x := by kernel_rfl
theorem vernierref12_half.ok : FnOk Go.Proofs.Tryz.prog E31.eT 31 (vernierref12_half.c) := FnOk.walk (E := E31) (body := B31) Go.Proofs.Tryz.func31 rfl (by rfl) Go.Proofs.Tryz.ntmps31 S31 rfl (fun k x => vernierref12_half.f x) vernierref12_half.G (fun k => trivial) 4000 vernierref12_half.cuts trivial (fun k x r h => (vernierref12_half.w k x).trans h) 0
noncomputable def E66 : En := ⟨Go.Proofs.Tryz.prog, 45, Go.Proofs.Tryz.f66.ntmps⟩
noncomputable def S66 : Sig := ⟨[.s, .s], [(.rd .i64), (.int .i64)], false, [.s], [(.int .i64)], false⟩
noncomputable def B66 : Go.Code := Go.Proofs.Tryz.f66.body.get!
def vernierref04_digit.f (l0 : List Int) (a1 : Int) : Option (Int) := if a1 < (nI l0.length) then (if 0 ≤ a1 then (some (rd l0 a1)) else (none)) else (some 0)
--@ok
def vernierref04_digit.fR (l0 : List Int) (a1 : Int) : Option (Int) := if a1 < (nI l0.length) then (if 0 ≤ a1 then (if a1 < (nI l0.length) then (some (rd l0 a1)) else (none)) else (none)) else (some 0)
theorem vernierref04_digit.fE (l0 : List Int) (a1 : Int) : vernierref04_digit.fR l0 a1 = vernierref04_digit.f l0 a1 := by
  unfold vernierref04_digit.fR vernierref04_digit.f
  exact iteC (fun h0 => iteC (fun h1 => (if_pos h0).trans (rfl)) (fun h1 => rfl)) (fun h0 => rfl)
noncomputable def vernierref04_digit.c : Con := S66.con fun x => vernierref04_digit.f x.1 x.2
noncomputable def vernierref04_digit.G (k : Nat) : List (Go.FuncId × Con) := []
noncomputable def vernierref04_digit.cuts : List (Cut (TT S66.sb)) := []
theorem vernierref04_digit.w (k : Nat) (x : TT S66.sa) : walk E66 (vernierref04_digit.G k) (cutsAt k vernierref04_digit.cuts) (retE E66 Go.Proofs.Tryz.f66.results.toList S66) 4000 true [([], .code B66)] (St0 S66 x) = vernierref04_digit.f x.1 x.2 := Eq.trans (b := vernierref04_digit.fR x.1 x.2) (by kernel_rfl) (vernierref04_digit.fE x.1 x.2)
theorem vernierref04_digit.ok : FnOk Go.Proofs.Tryz.prog E66.eT 66 (vernierref04_digit.c) := FnOk.walk (E := E66) (body := B66) Go.Proofs.Tryz.func66 rfl (by rfl) Go.Proofs.Tryz.ntmps66 S66 rfl (fun k x => vernierref04_digit.f x.1 x.2) vernierref04_digit.G (fun k => trivial) 4000 vernierref04_digit.cuts trivial (fun k x r h => (vernierref04_digit.w k x).trans h) 0
noncomputable def E61 : En := ⟨Go.Proofs.Tryz.prog, 45, Go.Proofs.Tryz.f61.ntmps⟩
noncomputable def S61 : Sig := ⟨[.s, .s], [(.rd .i64), (.int .i64)], false, [.s], [(.rd .i64)], true⟩
noncomputable def B61 : Go.Code := Go.Proofs.Tryz.f61.body.get!
def vernierref04_times.l0 : Nat → List Int → Int → List Int → Int → Int → Option (List Int)
 | 0, _, _, _, _, _ => none
 | k + 1, x0, x1, x5, x6, x7 => if x7 < (nI x0.length) then (if x1 > 0 then ((vernierref04_digit.f x0 x7).bind fun t100 => (if x5.length < 17592186044416 then (vernierref04_times.l0 k x0 x1 (x5 ++ ([Int.tmod (wrap64 ((wrap64 (t100 * x1)) + x6)) 16777216] : List Int)) (wrap64 (Int.tdiv (wrap64 ((wrap64 (t100 * x1)) + x6)) 16777216)) (wrap64 (x7 + 1))) else (none))) else (if x6 > 0 then ((vernierref04_digit.f x0 x7).bind fun t101 => (if x5.length < 17592186044416 then (vernierref04_times.l0 k x0 x1 (x5 ++ ([Int.tmod (wrap64 ((wrap64 (t101 * x1)) + x6)) 16777216] : List Int)) (wrap64 (Int.tdiv (wrap64 ((wrap64 (t101 * x1)) + x6)) 16777216)) (wrap64 (x7 + 1))) else (none))) else (some x5))) else (if x6 > 0 then ((vernierref04_digit.f x0 x7).bind fun t102 => (if x5.length < 17592186044416 then (vernierref04_times.l0 k x0 x1 (x5 ++ ([Int.tmod (wrap64 ((wrap64 (t102 * x1)) + x6)) 16777216] : List Int)) (wrap64 (Int.tdiv (wrap64 ((wrap64 (t102 * x1)) + x6)) 16777216)) (wrap64 (x7 + 1))) else (none))) else (some x5))
def vernierref04_times.f (k : Nat) (l0 : List Int) (a1 : Int) : Option (List Int) := vernierref04_times.l0 k l0 a1 ([] : List Int) 0 0
--@ok
noncomputable def vernierref04_times.c (k : Nat) : Con := S61.con fun x => vernierref04_times.f k x.1 x.2
noncomputable def vernierref04_times.G (k : Nat) : List (Go.FuncId × Con) := [(66, vernierref04_digit.c)]
noncomputable def vernierref04_times.cuts : List (Cut (TT S61.sb)) := [⟨[6, 4, 1, 0, 1, 1, 1], [.sc 0 (.rd .i64), .sc 1 (.int .i64), .lst 5 .i64 3, .sc 6 (.int .i64), .sc 7 (.int .i64)], fun k x => vernierref04_times.l0 k x.1 x.2.1 x.2.2.1 x.2.2.2.1 x.2.2.2.2⟩]
theorem vernierref04_times.w0 (k : Nat) (x : ET [.sc 0 (.rd .i64), .sc 1 (.int .i64), .lst 5 .i64 3, .sc 6 (.int .i64), .sc 7 (.int .i64)]) : walk E61 (vernierref04_times.G k) (cutsAt k vernierref04_times.cuts) (retE E61 Go.Proofs.Tryz.f61.results.toList S61) 4000 true (stackAt B61 [6, 4, 1, 0, 1, 1, 1]) (mkE [.sc 0 (.rd .i64), .sc 1 (.int .i64), .lst 5 .i64 3, .sc 6 (.int .i64), .sc 7 (.int .i64)] x St.nil) = vernierref04_times.l0 (k + 1) x.1 x.2.1 x.2.2.1 x.2.2.2.1 x.2.2.2.2 := by kernel_rfl
theorem vernierref04_times.w (k : Nat) (x : TT S61.sa) : walk E61 (vernierref04_times.G k) (cutsAt k vernierref04_times.cuts) (retE E61 Go.Proofs.Tryz.f61.results.toList S61) 4000 true [([], .code B61)] (St0 S61 x) = vernierref04_times.f k x.1 x.2 := by kernel_rfl
theorem vernierref04_times.ok (k : Nat) : FnOk Go.Proofs.Tryz.prog E61.eT 61 (vernierref04_times.c k) := FnOk.walk (E := E61) (body := B61) Go.Proofs.Tryz.func61 rfl (by rfl) Go.Proofs.Tryz.ntmps61 S61 rfl (fun k x => vernierref04_times.f k x.1 x.2) vernierref04_times.G (fun k => ⟨vernierref04_digit.ok, trivial⟩) 4000 vernierref04_times.cuts ⟨⟨fun _ => rfl, fun k x q h => (vernierref04_times.w0 k x).trans h⟩, trivial⟩ (fun k x r h => (vernierref04_times.w k x).trans h) k
noncomputable def E62 : En := ⟨Go.Proofs.Tryz.prog, 45, Go.Proofs.Tryz.f62.ntmps⟩
noncomputable def S62 : Sig := ⟨[.s], [(.int .i64)], false, [.s], [(.int .i64)], false⟩
noncomputable def B62 : Go.Code := Go.Proofs.Tryz.f62.body.get!
def vernierref04_two.l0 : Nat → Int → Int → Int → Option (Int)
 | 0, _, _, _ => none
 | k + 1, x0, x3, x4 => if x4 < x0 then (vernierref04_two.l0 k x0 (wrap64 (2 * x3)) (wrap64 (x4 + 1))) else (some x3)
def vernierref04_two.f (k : Nat) (a0 : Int) : Option (Int) := vernierref04_two.l0 k a0 1 0
--@ok
noncomputable def vernierref04_two.c (k : Nat) : Con := S62.con fun x => vernierref04_two.f k x
noncomputable def vernierref04_two.G (k : Nat) : List (Go.FuncId × Con) := []
noncomputable def vernierref04_two.cuts : List (Cut (TT S62.sb)) := [⟨[6, 4, 1, 0, 1, 1], [.sc 0 (.int .i64), .sc 3 (.int .i64), .sc 4 (.int .i64)], fun k x => vernierref04_two.l0 k x.1 x.2.1 x.2.2⟩]
theorem vernierref04_two.w0 (k : Nat) (x : ET [.sc 0 (.int .i64), .sc 3 (.int .i64), .sc 4 (.int .i64)]) : walk E62 (vernierref04_two.G k) (cutsAt k vernierref04_two.cuts) (retE E62 Go.Proofs.Tryz.f62.results.toList S62) 4000 true (stackAt B62 [6, 4, 1, 0, 1, 1]) (mkE [.sc 0 (.int .i64), .sc 3 (.int .i64), .sc 4 (.int .i64)] x St.nil) = vernierref04_two.l0 (k + 1) x.1 x.2.1 x.2.2 := by kernel_rfl
theorem vernierref04_two.w (k : Nat) (x : TT S62.sa) : walk E62 (vernierref04_two.G k) (cutsAt k vernierref04_two.cuts) (retE E62 Go.Proofs.Tryz.f62.results.toList S62) 4000 true [([], .code B62)] (St0 S62 x) = vernierref04_two.f k x := by kernel_rfl
theorem vernierref04_two.ok (k : Nat) : FnOk Go.Proofs.Tryz.prog E62.eT 62 (vernierref04_two.c k) := FnOk.walk (E := E62) (body := B62) Go.Proofs.Tryz.func62 rfl (by rfl) Go.Proofs.Tryz.ntmps62 S62 rfl (fun k x => vernierref04_two.f k x) vernierref04_two.G (fun k => trivial) 4000 vernierref04_two.cuts ⟨⟨fun _ => rfl, fun k x q h => (vernierref04_two.w0 k x).trans h⟩, trivial⟩ (fun k x r h => (vernierref04_two.w k x).trans h) k
noncomputable def E32 : En := ⟨Go.Proofs.Tryz.prog, 45, Go.Proofs.Tryz.f32.ntmps⟩
noncomputable def S32 : Sig := ⟨[.s, .s], [(.rd .i64), (.int .i64)], false, [.s], [(.rd .i64)], true⟩
noncomputable def B32 : Go.Code := Go.Proofs.Tryz.f32.body.get!
def vernierref04_Shl.f (k : Nat) (l0 : List Int) (a1 : Int) : Option (List Int) := if (nI l0.length) = 0 then (some ([] : List Int)) else (if 0 ≤ (wrap64 (Int.tdiv a1 24)) then (if (((wrap64 (Int.tdiv a1 24)) : Int).toNat) ≤ 35184372088832 then ((vernierref04_two.f k (Int.tmod a1 24)).bind fun t100 => ((vernierref04_times.f k l0 t100).bind fun t101 => (if (((List.replicate (((wrap64 (Int.tdiv a1 24)) : Int).toNat) 0 : List Int).length) + t101.length) ≤ 17592186044416 then (some ((List.replicate (((wrap64 (Int.tdiv a1 24)) : Int).toNat) 0 : List Int) ++ t101)) else (none)))) else (none)) else (none))
--@ok
noncomputable def vernierref04_Shl.c (k : Nat) : Con := S32.con fun x => vernierref04_Shl.f k x.1 x.2
noncomputable def vernierref04_Shl.G (k : Nat) : List (Go.FuncId × Con) := [(61, vernierref04_times.c k), (62, vernierref04_two.c k)]
noncomputable def vernierref04_Shl.cuts : List (Cut (TT S32.sb)) := []
theorem vernierref04_Shl.w (k : Nat) (x : TT S32.sa) : walk E32 (vernierref04_Shl.G k) (cutsAt k vernierref04_Shl.cuts) (retE E32 Go.Proofs.Tryz.f32.results.toList S32) 4000 true [([], .code B32)] (St0 S32 x) = vernierref04_Shl.f k x.1 x.2 := by kernel_rfl
theorem vernierref04_Shl.ok (k : Nat) : FnOk Go.Proofs.Tryz.prog E32.eT 32 (vernierref04_Shl.c k) := FnOk.walk (E := E32) (body := B32) Go.Proofs.Tryz.func32 rfl (by rfl) Go.Proofs.Tryz.ntmps32 S32 rfl (fun k x => vernierref04_Shl.f k x.1 x.2) vernierref04_Shl.G (fun k => ⟨vernierref04_times.ok k, vernierref04_two.ok k, trivial⟩) 4000 vernierref04_Shl.cuts trivial (fun k x r h => (vernierref04_Shl.w k x).trans h) k
noncomputable def E89 : En := ⟨Go.Proofs.Tryz.prog, 45, Go.Proofs.Tryz.f89.ntmps⟩
noncomputable def S89 : Sig := ⟨[.s, .s], [(.rd .i64), (.int .i64)], false, [.s], [(.int .i64)], false⟩
noncomputable def B89 : Go.Code := Go.Proofs.Tryz.f89.body.get!
def vernierref00_digit.f (l0 : List Int) (a1 : Int) : Option (Int) := if a1 < (nI l0.length) then (if 0 ≤ a1 then (some (rd l0 a1)) else (none)) else (some 0)
--@ok
def vernierref00_digit.fR (l0 : List Int) (a1 : Int) : Option (Int) := if a1 < (nI l0.length) then (if 0 ≤ a1 then (if a1 < (nI l0.length) then (some (rd l0 a1)) else (none)) else (none)) else (some 0)
theorem vernierref00_digit.fE (l0 : List Int) (a1 : Int) : vernierref00_digit.fR l0 a1 = vernierref00_digit.f l0 a1 := by
  unfold vernierref00_digit.fR vernierref00_digit.f
  exact iteC (fun h0 => iteC (fun h1 => (if_pos h0).trans (rfl)) (fun h1 => rfl)) (fun h0 => rfl)
noncomputable def vernierref00_digit.c : Con := S89.con fun x => vernierref00_digit.f x.1 x.2
noncomputable def vernierref00_digit.G (k : Nat) : List (Go.FuncId × Con) := []
noncomputable def vernierref00_digit.cuts : List (Cut (TT S89.sb)) := []
theorem vernierref00_digit.w (k : Nat) (x : TT S89.sa) : walk E89 (vernierref00_digit.G k) (cutsAt k vernierref00_digit.cuts) (retE E89 Go.Proofs.Tryz.f89.results.toList S89) 4000 true [([], .code B89)] (St0 S89 x) = vernierref00_digit.f x.1 x.2 := Eq.trans (b := vernierref00_digit.fR x.1 x.2) (by kernel_rfl) (vernierref00_digit.fE x.1 x.2)
theorem vernierref00_digit.ok : FnOk Go.Proofs.Tryz.prog E89.eT 89 (vernierref00_digit.c) := FnOk.walk (E := E89) (body := B89) Go.Proofs.Tryz.func89 rfl (by rfl) Go.Proofs.Tryz.ntmps89 S89 rfl (fun k x => vernierref00_digit.f x.1 x.2) vernierref00_digit.G (fun k => trivial) 4000 vernierref00_digit.cuts trivial (fun k x r h => (vernierref00_digit.w k x).trans h) 0
noncomputable def E87 : En := ⟨Go.Proofs.Tryz.prog, 45, Go.Proofs.Tryz.f87.ntmps⟩
noncomputable def S87 : Sig := ⟨[.s, .s], [(.rd .i64), (.int .i64)], false, [.s], [(.rd .i64)], true⟩
noncomputable def B87 : Go.Code := Go.Proofs.Tryz.f87.body.get!
def vernierref00_times.l0 : Nat → List Int → Int → List Int → Int → Int → Option (List Int)
 | 0, _, _, _, _, _ => none
 | k + 1, x0, x1, x5, x6, x7 => if x7 < (nI x0.length) then (if x1 > 0 then ((vernierref00_digit.f x0 x7).bind fun t100 => (if x5.length < 17592186044416 then (vernierref00_times.l0 k x0 x1 (x5 ++ ([Int.tmod (wrap64 ((wrap64 (t100 * x1)) + x6)) 16777216] : List Int)) (wrap64 (Int.tdiv (wrap64 ((wrap64 (t100 * x1)) + x6)) 16777216)) (wrap64 (x7 + 1))) else (none))) else (if x6 > 0 then ((vernierref00_digit.f x0 x7).bind fun t101 => (if x5.length < 17592186044416 then (vernierref00_times.l0 k x0 x1 (x5 ++ ([Int.tmod (wrap64 ((wrap64 (t101 * x1)) + x6)) 16777216] : List Int)) (wrap64 (Int.tdiv (wrap64 ((wrap64 (t101 * x1)) + x6)) 16777216)) (wrap64 (x7 + 1))) else (none))) else (some x5))) else (if x6 > 0 then ((vernierref00_digit.f x0 x7).bind fun t102 => (if x5.length < 17592186044416 then (vernierref00_times.l0 k x0 x1 (x5 ++ ([Int.tmod (wrap64 ((wrap64 (t102 * x1)) + x6)) 16777216] : List Int)) (wrap64 (Int.tdiv (wrap64 ((wrap64 (t102 * x1)) + x6)) 16777216)) (wrap64 (x7 + 1))) else (none))) else (some x5))
def vernierref00_times.f (k : Nat) (l0 : List Int) (a1 : Int) : Option (List Int) := vernierref00_times.l0 k l0 a1 ([] : List Int) 0 0
--@ok
noncomputable def vernierref00_times.c (k : Nat) : Con := S87.con fun x => vernierref00_times.f k x.1 x.2
noncomputable def vernierref00_times.G (k : Nat) : List (Go.FuncId × Con) := [(89, vernierref00_digit.c)]
noncomputable def vernierref00_times.cuts : List (Cut (TT S87.sb)) := [⟨[6, 4, 1, 0, 1, 1, 1], [.sc 0 (.rd .i64), .sc 1 (.int .i64), .lst 5 .i64 3, .sc 6 (.int .i64), .sc 7 (.int .i64)], fun k x => vernierref00_times.l0 k x.1 x.2.1 x.2.2.1 x.2.2.2.1 x.2.2.2.2⟩]
theorem vernierref00_times.w0 (k : Nat) (x : ET [.sc 0 (.rd .i64), .sc 1 (.int .i64), .lst 5 .i64 3, .sc 6 (.int .i64), .sc 7 (.int .i64)]) : walk E87 (vernierref00_times.G k) (cutsAt k vernierref00_times.cuts) (retE E87 Go.Proofs.Tryz.f87.results.toList S87) 4000 true (stackAt B87 [6, 4, 1, 0, 1, 1, 1]) (mkE [.sc 0 (.rd .i64), .sc 1 (.int .i64), .lst 5 .i64 3, .sc 6 (.int .i64), .sc 7 (.int .i64)] x St.nil) = vernierref00_times.l0 (k + 1) x.1 x.2.1 x.2.2.1 x.2.2.2.1 x.2.2.2.2 := by kernel_rfl
theorem vernierref00_times.w (k : Nat) (x : TT S87.sa) : walk E87 (vernierref00_times.G k) (cutsAt k vernierref00_times.cuts) (retE E87 Go.Proofs.Tryz.f87.results.toList S87) 4000 true [([], .code B87)] (St0 S87 x) = vernierref00_times.f k x.1 x.2 := by kernel_rfl
theorem vernierref00_times.ok (k : Nat) : FnOk Go.Proofs.Tryz.prog E87.eT 87 (vernierref00_times.c k) := FnOk.walk (E := E87) (body := B87) Go.Proofs.Tryz.func87 rfl (by rfl) Go.Proofs.Tryz.ntmps87 S87 rfl (fun k x => vernierref00_times.f k x.1 x.2) vernierref00_times.G (fun k => ⟨vernierref00_digit.ok, trivial⟩) 4000 vernierref00_times.cuts ⟨⟨fun _ => rfl, fun k x q h => (vernierref00_times.w0 k x).trans h⟩, trivial⟩ (fun k x r h => (vernierref00_times.w k x).trans h) k
noncomputable def E88 : En := ⟨Go.Proofs.Tryz.prog, 45, Go.Proofs.Tryz.f88.ntmps⟩
noncomputable def S88 : Sig := ⟨[.s], [(.int .i64)], false, [.s], [(.int .i64)], false⟩
noncomputable def B88 : Go.Code := Go.Proofs.Tryz.f88.body.get!
def vernierref00_two.l0 : Nat → Int → Int → Int → Option (Int)
 | 0, _, _, _ => none
 | k + 1, x0, x3, x4 => if x4 < x0 then (vernierref00_two.l0 k x0 (wrap64 (2 * x3)) (wrap64 (x4 + 1))) else (some x3)
def vernierref00_two.f (k : Nat) (a0 : Int) : Option (Int) := vernierref00_two.l0 k a0 1 0
--@ok
noncomputable def vernierref00_two.c (k : Nat) : Con := S88.con fun x => vernierref00_two.f k x
noncomputable def vernierref00_two.G (k : Nat) : List (Go.FuncId × Con) := []
noncomputable def vernierref00_two.cuts : List (Cut (TT S88.sb)) := [⟨[6, 4, 1, 0, 1, 1], [.sc 0 (.int .i64), .sc 3 (.int .i64), .sc 4 (.int .i64)], fun k x => vernierref00_two.l0 k x.1 x.2.1 x.2.2⟩]
theorem vernierref00_two.w0 (k : Nat) (x : ET [.sc 0 (.int .i64), .sc 3 (.int .i64), .sc 4 (.int .i64)]) : walk E88 (vernierref00_two.G k) (cutsAt k vernierref00_two.cuts) (retE E88 Go.Proofs.Tryz.f88.results.toList S88) 4000 true (stackAt B88 [6, 4, 1, 0, 1, 1]) (mkE [.sc 0 (.int .i64), .sc 3 (.int .i64), .sc 4 (.int .i64)] x St.nil) = vernierref00_two.l0 (k + 1) x.1 x.2.1 x.2.2 := by kernel_rfl
theorem vernierref00_two.w (k : Nat) (x : TT S88.sa) : walk E88 (vernierref00_two.G k) (cutsAt k vernierref00_two.cuts) (retE E88 Go.Proofs.Tryz.f88.results.toList S88) 4000 true [([], .code B88)] (St0 S88 x) = vernierref00_two.f k x := by kernel_rfl
theorem vernierref00_two.ok (k : Nat) : FnOk Go.Proofs.Tryz.prog E88.eT 88 (vernierref00_two.c k) := FnOk.walk (E := E88) (body := B88) Go.Proofs.Tryz.func88 rfl (by rfl) Go.Proofs.Tryz.ntmps88 S88 rfl (fun k x => vernierref00_two.f k x) vernierref00_two.G (fun k => trivial) 4000 vernierref00_two.cuts ⟨⟨fun _ => rfl, fun k x q h => (vernierref00_two.w0 k x).trans h⟩, trivial⟩ (fun k x r h => (vernierref00_two.w k x).trans h) k
noncomputable def E63 : En := ⟨Go.Proofs.Tryz.prog, 45, Go.Proofs.Tryz.f63.ntmps⟩
noncomputable def S63 : Sig := ⟨[.s, .s], [(.rd .i64), (.int .i64)], false, [.s], [(.rd .i64)], true⟩
noncomputable def B63 : Go.Code := Go.Proofs.Tryz.f63.body.get!
def vernierref00_Shl.f (k : Nat) (l0 : List Int) (a1 : Int) : Option (List Int) := if (nI l0.length) = 0 then (some ([] : List Int)) else (if 0 ≤ (wrap64 (Int.tdiv a1 24)) then (if (((wrap64 (Int.tdiv a1 24)) : Int).toNat) ≤ 35184372088832 then ((vernierref00_two.f k (Int.tmod a1 24)).bind fun t100 => ((vernierref00_times.f k l0 t100).bind fun t101 => (if (((List.replicate (((wrap64 (Int.tdiv a1 24)) : Int).toNat) 0 : List Int).length) + t101.length) ≤ 17592186044416 then (some ((List.replicate (((wrap64 (Int.tdiv a1 24)) : Int).toNat) 0 : List Int) ++ t101)) else (none)))) else (none)) else (none))
--@ok
noncomputable def vernierref00_Shl.c (k : Nat) : Con := S63.con fun x => vernierref00_Shl.f k x.1 x.2
noncomputable def vernierref00_Shl.G (k : Nat) : List (Go.FuncId × Con) := [(87, vernierref00_times.c k), (88, vernierref00_two.c k)]
noncomputable def vernierref00_Shl.cuts : List (Cut (TT S63.sb)) := []
theorem vernierref00_Shl.w (k : Nat) (x : TT S63.sa) : walk E63 (vernierref00_Shl.G k) (cutsAt k vernierref00_Shl.cuts) (retE E63 Go.Proofs.Tryz.f63.results.toList S63) 4000 true [([], .code B63)] (St0 S63 x) = vernierref00_Shl.f k x.1 x.2 := by kernel_rfl
theorem vernierref00_Shl.ok (k : Nat) : FnOk Go.Proofs.Tryz.prog E63.eT 63 (vernierref00_Shl.c k) := FnOk.walk (E := E63) (body := B63) Go.Proofs.Tryz.func63 rfl (by rfl) Go.Proofs.Tryz.ntmps63 S63 rfl (fun k x => vernierref00_Shl.f k x.1 x.2) vernierref00_Shl.G (fun k => ⟨vernierref00_times.ok k, vernierref00_two.ok k, trivial⟩) 4000 vernierref00_Shl.cuts trivial (fun k x r h => (vernierref00_Shl.w k x).trans h) k
noncomputable def E64 : En := ⟨Go.Proofs.Tryz.prog, 45, Go.Proofs.Tryz.f64.ntmps⟩
noncomputable def S64 : Sig := ⟨[.s], [(.int .u64)], false, [.s], [(.rd .i64)], true⟩
noncomputable def B64 : Go.Code := Go.Proofs.Tryz.f64.body.get!
def vernierref00_Of.l0 : Nat → Int → List Int → Option (List Int)
 | 0, _, _ => none
 | k + 1, x0, x3 => if x0 > 0 then (if x3.length < 17592186044416 then (vernierref00_Of.l0 k (IntKind.u64.wrap (Int.tdiv x0 16777216)) (x3 ++ ([wrap64 (Int.tmod x0 16777216)] : List Int))) else (none)) else (some x3)
def vernierref00_Of.f (k : Nat) (a0 : Int) : Option (List Int) := vernierref00_Of.l0 k a0 ([] : List Int)
--@ok
noncomputable def vernierref00_Of.c (k : Nat) : Con := S64.con fun x => vernierref00_Of.f k x
noncomputable def vernierref00_Of.G (k : Nat) : List (Go.FuncId × Con) := []
noncomputable def vernierref00_Of.cuts : List (Cut (TT S64.sb)) := [⟨[6, 4, 0, 1, 1], [.sc 0 (.int .u64), .lst 3 .i64 3], fun k x => vernierref00_Of.l0 k x.1 x.2⟩]
theorem vernierref00_Of.w0 (k : Nat) (x : ET [.sc 0 (.int .u64), .lst 3 .i64 3]) : walk E64 (vernierref00_Of.G k) (cutsAt k vernierref00_Of.cuts) (retE E64 Go.Proofs.Tryz.f64.results.toList S64) 4000 true (stackAt B64 [6, 4, 0, 1, 1]) (mkE [.sc 0 (.int .u64), .lst 3 .i64 3] x St.nil) = vernierref00_Of.l0 (k + 1) x.1 x.2 := by kernel_rfl
theorem vernierref00_Of.w (k : Nat) (x : TT S64.sa) : walk E64 (vernierref00_Of.G k) (cutsAt k vernierref00_Of.cuts) (retE E64 Go.Proofs.Tryz.f64.results.toList S64) 4000 true [([], .code B64)] (St0 S64 x) = vernierref00_Of.f k x := by kernel_rfl
theorem vernierref00_Of.ok (k : Nat) : FnOk Go.Proofs.Tryz.prog E64.eT 64 (vernierref00_Of.c k) := FnOk.walk (E := E64) (body := B64) Go.Proofs.Tryz.func64 rfl (by rfl) Go.Proofs.Tryz.ntmps64 S64 rfl (fun k x => vernierref00_Of.f k x) vernierref00_Of.G (fun k => trivial) 4000 vernierref00_Of.cuts ⟨⟨fun _ => rfl, fun k x q h => (vernierref00_Of.w0 k x).trans h⟩, trivial⟩ (fun k x r h => (vernierref00_Of.w k x).trans h) k
noncomputable def E65 : En := ⟨Go.Proofs.Tryz.prog, 45, Go.Proofs.Tryz.f65.ntmps⟩
noncomputable def S65 : Sig := ⟨[.s, .s], [(.rd .i64), (.rd .i64)], false, [.s], [(.rd .i64)], true⟩
noncomputable def B65 : Go.Code := Go.Proofs.Tryz.f65.body.get!
mutual
def vernierref00_Add.l0 : Nat → List Int → List Int → List Int → Int → Int → Option (List Int)
 | 0, _, _, _, _, _ => none
 | k + 1, x0, x1, x5, x6, x7 => if x7 < (nI x0.length) then (vernierref00_Add.j1 k x0 x1 x5 x6 x7 true) else (if x7 < (nI x1.length) then (vernierref00_Add.j1 k x0 x1 x5 x6 x7 true) else (vernierref00_Add.j1 k x0 x1 x5 x6 x7 (decide (x6 > 0))))
def vernierref00_Add.j1 : Nat → List Int → List Int → List Int → Int → Int → Bool → Option (List Int)
 | 0, _, _, _, _, _, _ => none
 | k + 1, x0, x1, x5, x6, x7, x22 => if x22 = true then ((vernierref00_digit.f x0 x7).bind fun t100 => ((vernierref00_digit.f x1 x7).bind fun t101 => (if x5.length < 17592186044416 then (vernierref00_Add.l0 k x0 x1 (x5 ++ ([Int.tmod (wrap64 ((wrap64 (t100 + t101)) + x6)) 16777216] : List Int)) (wrap64 (Int.tdiv (wrap64 ((wrap64 (t100 + t101)) + x6)) 16777216)) (wrap64 (x7 + 1))) else (none)))) else (some x5)
end
def vernierref00_Add.f (k : Nat) (l0 : List Int) (l1 : List Int) : Option (List Int) := vernierref00_Add.l0 k l0 l1 ([] : List Int) 0 0
--@ok
noncomputable def vernierref00_Add.c (k : Nat) : Con := S65.con fun x => vernierref00_Add.f k x.1 x.2
noncomputable def vernierref00_Add.G (k : Nat) : List (Go.FuncId × Con) := [(89, vernierref00_digit.c)]
noncomputable def vernierref00_Add.cuts : List (Cut (TT S65.sb)) := [⟨[6, 4, 1, 0, 1, 1, 1], [.sc 0 (.rd .i64), .sc 1 (.rd .i64), .lst 5 .i64 3, .sc 6 (.int .i64), .sc 7 (.int .i64)], fun k x => vernierref00_Add.l0 k x.1 x.2.1 x.2.2.1 x.2.2.2.1 x.2.2.2.2⟩, ⟨[1, 0, 6, 4, 1, 0, 1, 1, 1], [.sc 0 (.rd .i64), .sc 1 (.rd .i64), .lst 5 .i64 3, .sc 6 (.int .i64), .sc 7 (.int .i64), .sc 22 (.bool)], fun k x => vernierref00_Add.j1 k x.1 x.2.1 x.2.2.1 x.2.2.2.1 x.2.2.2.2.1 x.2.2.2.2.2⟩]
theorem vernierref00_Add.w0 (k : Nat) (x : ET [.sc 0 (.rd .i64), .sc 1 (.rd .i64), .lst 5 .i64 3, .sc 6 (.int .i64), .sc 7 (.int .i64)]) : walk E65 (vernierref00_Add.G k) (cutsAt k vernierref00_Add.cuts) (retE E65 Go.Proofs.Tryz.f65.results.toList S65) 4000 true (stackAt B65 [6, 4, 1, 0, 1, 1, 1]) (mkE [.sc 0 (.rd .i64), .sc 1 (.rd .i64), .lst 5 .i64 3, .sc 6 (.int .i64), .sc 7 (.int .i64)] x St.nil) = vernierref00_Add.l0 (k + 1) x.1 x.2.1 x.2.2.1 x.2.2.2.1 x.2.2.2.2 := by kernel_rfl
theorem vernierref00_Add.w1 (k : Nat) (x : ET [.sc 0 (.rd .i64), .sc 1 (.rd .i64), .lst 5 .i64 3, .sc 6 (.int .i64), .sc 7 (.int .i64), .sc 22 (.bool)]) : walk E65 (vernierref00_Add.G k) (cutsAt k vernierref00_Add.cuts) (retE E65 Go.Proofs.Tryz.f65.results.toList S65) 4000 true (stackAt B65 [1, 0, 6, 4, 1, 0, 1, 1, 1]) (mkE [.sc 0 (.rd .i64), .sc 1 (.rd .i64), .lst 5 .i64 3, .sc 6 (.int .i64), .sc 7 (.int .i64), .sc 22 (.bool)] x St.nil) = vernierref00_Add.j1 (k + 1) x.1 x.2.1 x.2.2.1 x.2.2.2.1 x.2.2.2.2.1 x.2.2.2.2.2 := by kernel_rfl
theorem vernierref00_Add.w (k : Nat) (x : TT S65.sa) : walk E65 (vernierref00_Add.G k) (cutsAt k vernierref00_Add.cuts) (retE E65 Go.Proofs.Tryz.f65.results.toList S65) 4000 true [([], .code B65)] (St0 S65 x) = vernierref00_Add.f k x.1 x.2 := by kernel_rfl
theorem vernierref00_Add.ok (k : Nat) : FnOk Go.Proofs.Tryz.prog E65.eT 65 (vernierref00_Add.c k) := FnOk.walk (E := E65) (body := B65) Go.Proofs.Tryz.func65 rfl (by rfl) Go.Proofs.Tryz.ntmps65 S65 rfl (fun k x => vernierref00_Add.f k x.1 x.2) vernierref00_Add.G (fun k => ⟨vernierref00_digit.ok, trivial⟩) 4000 vernierref00_Add.cuts ⟨⟨fun _ => rfl, fun k x q h => (vernierref00_Add.w0 k x).trans h⟩, ⟨fun _ => rfl, fun k x q h => (vernierref00_Add.w1 k x).trans h⟩, trivial⟩ (fun k x r h => (vernierref00_Add.w k x).trans h) k
end Go.Proofs.YtfbbnpliaokmbaaGreat.Fn
set_option maxRecDepth 100000
set_option linter.unusedVariables false
noncomputable section
namespace Go.Proofs.YtfbbnpliaokmbaaGreat.Fn
open Go Go.RowKit Go.Proofs.YtfbbnpliaokmbaaGreat.Ab
noncomputable def E33 : En := ⟨Go.Proofs.Tryz.prog, 45, Go.Proofs.Tryz.f33.ntmps⟩
noncomputable def S33 : Sig := ⟨[.g 2], [(.int .u64), (.int .u64)], false, [.s], [(.rd .i64)], true⟩
noncomputable def B33 : Go.Code := Go.Proofs.Tryz.f33.body.get!
def vernierref02_Of.f (k : Nat) (a0_0 : Int) (a0_1 : Int) : Option (List Int) := (vernierref00_Of.f k a0_0).bind fun t100 => ((vernierref00_Shl.f k t100 64).bind fun t101 => ((vernierref00_Of.f k a0_1).bind fun t102 => ((vernierref00_Add.f k t101 t102).bind fun t103 => (some t103))))
--@ok
noncomputable def vernierref02_Of.c (k : Nat) : Con := S33.con fun x => vernierref02_Of.f k x.1 x.2
noncomputable def vernierref02_Of.G (k : Nat) : List (Go.FuncId × Con) := [(63, vernierref00_Shl.c k), (64, vernierref00_Of.c k), (65, vernierref00_Add.c k)]
noncomputable def vernierref02_Of.cuts : List (Cut (TT S33.sb)) := []
theorem vernierref02_Of.w (k : Nat) (x : TT S33.sa) : walk E33 (vernierref02_Of.G k) (cutsAt k vernierref02_Of.cuts) (retE E33 Go.Proofs.Tryz.f33.results.toList S33) 4000 true [([], .code B33)] (St0 S33 x) = vernierref02_Of.f k x.1 x.2 := by kernel_rfl
theorem vernierref02_Of.ok (k : Nat) : FnOk Go.Proofs.Tryz.prog E33.eT 33 (vernierref02_Of.c k) := FnOk.walk (E := E33) (body := B33) Go.Proofs.Tryz.func33 rfl (by rfl) Go.Proofs.Tryz.ntmps33 S33 rfl (fun k x => vernierref02_Of.f k x.1 x.2) vernierref02_Of.G (fun k => ⟨vernierref00_Shl.ok k, vernierref00_Of.ok k, vernierref00_Add.ok k, trivial⟩) 4000 vernierref02_Of.cuts trivial (fun k x r h => (vernierref02_Of.w k x).trans h) k
noncomputable def E34 : En := ⟨Go.Proofs.Tryz.prog, 45, Go.Proofs.Tryz.f34.ntmps⟩
noncomputable def S34 : Sig := ⟨[.s, .s], [(.rd .i64), (.rd .i64)], false, [.s], [(.rd .i64)], true⟩
noncomputable def B34 : Go.Code := Go.Proofs.Tryz.f34.body.get!
mutual
def vernierref04_Add.l0 : Nat → List Int → List Int → List Int → Int → Int → Option (List Int)
 | 0, _, _, _, _, _ => none
 | k + 1, x0, x1, x5, x6, x7 => if x7 < (nI x0.length) then (vernierref04_Add.j1 k x0 x1 x5 x6 x7 true) else (if x7 < (nI x1.length) then (vernierref04_Add.j1 k x0 x1 x5 x6 x7 true) else (vernierref04_Add.j1 k x0 x1 x5 x6 x7 (decide (x6 > 0))))
def vernierref04_Add.j1 : Nat → List Int → List Int → List Int → Int → Int → Bool → Option (List Int)
 | 0, _, _, _, _, _, _ => none
 | k + 1, x0, x1, x5, x6, x7, x22 => if x22 = true then ((vernierref04_digit.f x0 x7).bind fun t100 => ((vernierref04_digit.f x1 x7).bind fun t101 => (if x5.length < 17592186044416 then (vernierref04_Add.l0 k x0 x1 (x5 ++ ([Int.tmod (wrap64 ((wrap64 (t100 + t101)) + x6)) 16777216] : List Int)) (wrap64 (Int.tdiv (wrap64 ((wrap64 (t100 + t101)) + x6)) 16777216)) (wrap64 (x7 + 1))) else (none)))) else (some x5)
end
def vernierref04_Add.f (k : Nat) (l0 : List Int) (l1 : List Int) : Option (List Int) := vernierref04_Add.l0 k l0 l1 ([] : List Int) 0 0
--@ok
noncomputable def vernierref04_Add.c (k : Nat) : Con := S34.con fun x => vernierref04_Add.f k x.1 x.2
noncomputable def vernierref04_Add.G (k : Nat) : List (Go.FuncId × Con) := [(66, vernierref04_digit.c)]
noncomputable def vernierref04_Add.cuts : List (Cut (TT S34.sb)) := [⟨[6, 4, 1, 0, 1, 1, 1], [.sc 0 (.rd .i64), .sc 1 (.rd .i64), .lst 5 .i64 3, .sc 6 (.int .i64), .sc 7 (.int .i64)], fun k x => vernierref04_Add.l0 k x.1 x.2.1 x.2.2.1 x.2.2.2.1 x.2.2.2.2⟩, ⟨[1, 0, 6, 4, 1, 0, 1, 1, 1], [.sc 0 (.rd .i64), .sc 1 (.rd .i64), .lst 5 .i64 3, .sc 6 (.int .i64), .sc 7 (.int .i64), .sc 22 (.bool)], fun k x => vernierref04_Add.j1 k x.1 x.2.1 x.2.2.1 x.2.2.2.1 x.2.2.2.2.1 x.2.2.2.2.2⟩]
theorem vernierref04_Add.w0 (k : Nat) (x : ET [.sc 0 (.rd .i64), .sc 1 (.rd .i64), .lst 5 .i64 3, .sc 6 (.int .i64), .sc 7 (.int .i64)]) : walk E34 (vernierref04_Add.G k) (cutsAt k vernierref04_Add.cuts) (retE E34 Go.Proofs.Tryz.f34.results.toList S34) 4000 true (stackAt B34 [6, 4, 1, 0, 1, 1, 1]) (mkE [.sc 0 (.rd .i64), .sc 1 (.rd .i64), .lst 5 .i64 3, .sc 6 (.int .i64), .sc 7 (.int .i64)] x St.nil) = vernierref04_Add.l0 (k + 1) x.1 x.2.1 x.2.2.1 x.2.2.2.1 x.2.2.2.2 := by kernel_rfl
theorem vernierref04_Add.w1 (k : Nat) (x : ET [.sc 0 (.rd .i64), .sc 1 (.rd .i64), .lst 5 .i64 3, .sc 6 (.int .i64), .sc 7 (.int .i64), .sc 22 (.bool)]) : walk E34 (vernierref04_Add.G k) (cutsAt k vernierref04_Add.cuts) (retE E34 Go.Proofs.Tryz.f34.results.toList S34) 4000 true (stackAt B34 [1, 0, 6, 4, 1, 0, 1, 1, 1]) (mkE [.sc 0 (.rd .i64), .sc 1 (.rd .i64), .lst 5 .i64 3, .sc 6 (.int .i64), .sc 7 (.int .i64), .sc 22 (.bool)] x St.nil) = vernierref04_Add.j1 (k + 1) x.1 x.2.1 x.2.2.1 x.2.2.2.1 x.2.2.2.2.1 x.2.2.2.2.2 := by kernel_rfl
theorem vernierref04_Add.w (k : Nat) (x : TT S34.sa) : walk E34 (vernierref04_Add.G k) (cutsAt k vernierref04_Add.cuts) (retE E34 Go.Proofs.Tryz.f34.results.toList S34) 4000 true [([], .code B34)] (St0 S34 x) = vernierref04_Add.f k x.1 x.2 := by kernel_rfl
theorem vernierref04_Add.ok (k : Nat) : FnOk Go.Proofs.Tryz.prog E34.eT 34 (vernierref04_Add.c k) := FnOk.walk (E := E34) (body := B34) Go.Proofs.Tryz.func34 rfl (by rfl) Go.Proofs.Tryz.ntmps34 S34 rfl (fun k x => vernierref04_Add.f k x.1 x.2) vernierref04_Add.G (fun k => ⟨vernierref04_digit.ok, trivial⟩) 4000 vernierref04_Add.cuts ⟨⟨fun _ => rfl, fun k x q h => (vernierref04_Add.w0 k x).trans h⟩, ⟨fun _ => rfl, fun k x q h => (vernierref04_Add.w1 k x).trans h⟩, trivial⟩ (fun k x r h => (vernierref04_Add.w k x).trans h) k
noncomputable def E67 : En := ⟨Go.Proofs.Tryz.prog, 45, Go.Proofs.Tryz.f67.ntmps⟩
noncomputable def S67 : Sig := ⟨[.s], [(.rd .i64)], false, [.s], [(.rd .i64)], true⟩
noncomputable def B67 : Go.Code := Go.Proofs.Tryz.f67.body.get!
def vernierref04_Cut.l0 : Nat → List Int → Int → Option (List Int)
 | 0, _, _ => none
 | k + 1, x0, x3 => if x3 > 0 then (if 0 ≤ (wrap64 (x3 - 1)) then (if (wrap64 (x3 - 1)) < (nI x0.length) then (if (rd x0 (wrap64 (x3 - 1))) = 0 then (vernierref04_Cut.l0 k x0 (wrap64 (x3 - 1))) else (if 0 ≤ x3 then (if x3 ≤ (nI x0.length) then (some (x0.take ((x3 : Int).toNat))) else (none)) else (none))) else (none)) else (none)) else (if 0 ≤ x3 then (if x3 ≤ (nI x0.length) then (some (x0.take ((x3 : Int).toNat))) else (none)) else (none))
def vernierref04_Cut.f (k : Nat) (l0 : List Int) : Option (List Int) := vernierref04_Cut.l0 k l0 (nI l0.length)
--@ok
noncomputable def vernierref04_Cut.c (k : Nat) : Con := S67.con fun x => vernierref04_Cut.f k x
noncomputable def vernierref04_Cut.G (k : Nat) : List (Go.FuncId × Con) := []
noncomputable def vernierref04_Cut.cuts : List (Cut (TT S67.sb)) := [⟨[6, 4, 0, 1, 1], [.sc 0 (.rd .i64), .sc 3 (.int .i64)], fun k x => vernierref04_Cut.l0 k x.1 x.2⟩]
theorem vernierref04_Cut.w0 (k : Nat) (x : ET [.sc 0 (.rd .i64), .sc 3 (.int .i64)]) : walk E67 (vernierref04_Cut.G k) (cutsAt k vernierref04_Cut.cuts) (retE E67 Go.Proofs.Tryz.f67.results.toList S67) 4000 true (stackAt B67 [6, 4, 0, 1, 1]) (mkE [.sc 0 (.rd .i64), .sc 3 (.int .i64)] x St.nil) = vernierref04_Cut.l0 (k + 1) x.1 x.2 := by kernel_rfl
theorem vernierref04_Cut.w (k : Nat) (x : TT S67.sa) : walk E67 (vernierref04_Cut.G k) (cutsAt k vernierref04_Cut.cuts) (retE E67 Go.Proofs.Tryz.f67.results.toList S67) 4000 true [([], .code B67)] (St0 S67 x) = vernierref04_Cut.f k x := by kernel_rfl
theorem vernierref04_Cut.ok (k : Nat) : FnOk Go.Proofs.Tryz.prog E67.eT 67 (vernierref04_Cut.c k) := FnOk.walk (E := E67) (body := B67) Go.Proofs.Tryz.func67 rfl (by rfl) Go.Proofs.Tryz.ntmps67 S67 rfl (fun k x => vernierref04_Cut.f k x) vernierref04_Cut.G (fun k => trivial) 4000 vernierref04_Cut.cuts ⟨⟨fun _ => rfl, fun k x q h => (vernierref04_Cut.w0 k x).trans h⟩, trivial⟩ (fun k x r h => (vernierref04_Cut.w k x).trans h) k
noncomputable def E35 : En := ⟨Go.Proofs.Tryz.prog, 45, Go.Proofs.Tryz.f35.ntmps⟩
noncomputable def S35 : Sig := ⟨[.s, .s], [(.rd .i64), (.rd .i64)], false, [.s], [(.rd .i64)], true⟩
noncomputable def B35 : Go.Code := Go.Proofs.Tryz.f35.body.get!
mutual
def vernierref04_Mul.j0 : Nat → List Int → List Int → Bool → Option (List Int)
 | 0, _, _, _ => none
 | k + 1, x0, x1, x17 => if x17 = true then (some ([] : List Int)) else (if 0 ≤ (wrap64 ((nI x0.length) + (nI x1.length))) then (if (((wrap64 ((nI x0.length) + (nI x1.length))) : Int).toNat) ≤ 35184372088832 then (vernierref04_Mul.l0 k x0 x1 (List.replicate (((wrap64 ((nI x0.length) + (nI x1.length))) : Int).toNat) 0 : List Int) 0) else (none)) else (none))
def vernierref04_Mul.l0 : Nat → List Int → List Int → List Int → Int → Option (List Int)
 | 0, _, _, _, _ => none
 | k + 1, x0, x1, x5, x6 => if x6 < (nI x0.length) then (vernierref04_Mul.l1 k x0 x1 x5 x6 0 0) else ((vernierref04_Cut.f k x5).bind fun t100 => (some t100))
def vernierref04_Mul.l1 : Nat → List Int → List Int → List Int → Int → Int → Int → Option (List Int)
 | 0, _, _, _, _, _, _ => none
 | k + 1, x0, x1, x5, x6, x7, x8 => if x8 < (nI x1.length) then (if 0 ≤ (wrap64 (x6 + x8)) then (if (wrap64 (x6 + x8)) < (nI x5.length) then (if 0 ≤ x6 then (if x6 < (nI x0.length) then (if 0 ≤ x8 then (vernierref04_Mul.l1 k x0 x1 (x5.set (((wrap64 (x6 + x8)) : Int).toNat) (Int.tmod (wrap64 ((wrap64 ((rd x5 (wrap64 (x6 + x8))) + (wrap64 ((rd x0 x6) * (rd x1 x8))))) + x7)) 16777216)) x6 (wrap64 (Int.tdiv (wrap64 ((wrap64 ((rd x5 (wrap64 (x6 + x8))) + (wrap64 ((rd x0 x6) * (rd x1 x8))))) + x7)) 16777216)) (wrap64 (x8 + 1))) else (none)) else (none)) else (none)) else (none)) else (none)) else (if 0 ≤ (wrap64 (x6 + (nI x1.length))) then (if (wrap64 (x6 + (nI x1.length))) < (nI x5.length) then (vernierref04_Mul.l0 k x0 x1 (x5.set (((wrap64 (x6 + (nI x1.length))) : Int).toNat) x7) (wrap64 (x6 + 1))) else (none)) else (none))
end
def vernierref04_Mul.f (k : Nat) (l0 : List Int) (l1 : List Int) : Option (List Int) := if (nI l0.length) = 0 then (vernierref04_Mul.j0 k l0 l1 true) else (vernierref04_Mul.j0 k l0 l1 ((nI l1.length) == 0))
--@ok
def vernierref04_Mul.l1R (k : Nat) (x0 : List Int) (x1 : List Int) (x5 : List Int) (x6 : Int) (x7 : Int) (x8 : Int) : Option (List Int) := if x8 < (nI x1.length) then (if 0 ≤ (wrap64 (x6 + x8)) then (if (wrap64 (x6 + x8)) < (nI x5.length) then (if 0 ≤ x6 then (if x6 < (nI x0.length) then (if 0 ≤ x8 then (if x8 < (nI x1.length) then (if 0 ≤ (wrap64 (x6 + x8)) then (if (wrap64 (x6 + x8)) < (nI x5.length) then (vernierref04_Mul.l1 k x0 x1 (x5.set (((wrap64 (x6 + x8)) : Int).toNat) (Int.tmod (wrap64 ((wrap64 ((rd x5 (wrap64 (x6 + x8))) + (wrap64 ((rd x0 x6) * (rd x1 x8))))) + x7)) 16777216)) x6 (wrap64 (Int.tdiv (wrap64 ((wrap64 ((rd x5 (wrap64 (x6 + x8))) + (wrap64 ((rd x0 x6) * (rd x1 x8))))) + x7)) 16777216)) (wrap64 (x8 + 1))) else (none)) else (none)) else (none)) else (none)) else (none)) else (none)) else (none)) else (none)) else (if 0 ≤ (wrap64 (x6 + (nI x1.length))) then (if (wrap64 (x6 + (nI x1.length))) < (nI x5.length) then (vernierref04_Mul.l0 k x0 x1 (x5.set (((wrap64 (x6 + (nI x1.length))) : Int).toNat) x7) (wrap64 (x6 + 1))) else (none)) else (none))
theorem vernierref04_Mul.l1E (k : Nat) (x0 : List Int) (x1 : List Int) (x5 : List Int) (x6 : Int) (x7 : Int) (x8 : Int) : vernierref04_Mul.l1R k x0 x1 x5 x6 x7 x8 = vernierref04_Mul.l1 (k + 1) x0 x1 x5 x6 x7 x8 := by
  unfold vernierref04_Mul.l1R
  rw [vernierref04_Mul.l1]
  exact iteC (fun h0 => iteC (fun h1 => iteC (fun h2 => iteC (fun h3 => iteC (fun h4 => iteC (fun h5 => (if_pos h0).trans ((if_pos h1).trans ((if_pos h2).trans (rfl)))) (fun h5 => rfl)) (fun h4 => rfl)) (fun h3 => rfl)) (fun h2 => rfl)) (fun h1 => rfl)) (fun h0 => iteC (fun h1 => iteC (fun h2 => rfl) (fun h2 => rfl)) (fun h1 => rfl))
noncomputable def vernierref04_Mul.c (k : Nat) : Con := S35.con fun x => vernierref04_Mul.f k x.1 x.2
noncomputable def vernierref04_Mul.G (k : Nat) : List (Go.FuncId × Con) := [(67, vernierref04_Cut.c k)]
noncomputable def vernierref04_Mul.cuts : List (Cut (TT S35.sb)) := [⟨[1, 0, 1], [.sc 0 (.rd .i64), .sc 1 (.rd .i64), .sc 17 (.bool)], fun k x => vernierref04_Mul.j0 k x.1 x.2.1 x.2.2⟩, ⟨[6, 4, 1, 0, 1, 1, 1], [.sc 0 (.rd .i64), .sc 1 (.rd .i64), .lst 5 .i64 3, .sc 6 (.int .i64)], fun k x => vernierref04_Mul.l0 k x.1 x.2.1 x.2.2.1 x.2.2.2⟩, ⟨[6, 4, 1, 0, 1, 4, 0, 1, 6, 4, 1, 0, 1, 1, 1], [.sc 0 (.rd .i64), .sc 1 (.rd .i64), .lst 5 .i64 3, .sc 6 (.int .i64), .sc 7 (.int .i64), .sc 8 (.int .i64)], fun k x => vernierref04_Mul.l1 k x.1 x.2.1 x.2.2.1 x.2.2.2.1 x.2.2.2.2.1 x.2.2.2.2.2⟩]
theorem vernierref04_Mul.w0 (k : Nat) (x : ET [.sc 0 (.rd .i64), .sc 1 (.rd .i64), .sc 17 (.bool)]) : walk E35 (vernierref04_Mul.G k) (cutsAt k vernierref04_Mul.cuts) (retE E35 Go.Proofs.Tryz.f35.results.toList S35) 4000 true (stackAt B35 [1, 0, 1]) (mkE [.sc 0 (.rd .i64), .sc 1 (.rd .i64), .sc 17 (.bool)] x St.nil) = vernierref04_Mul.j0 (k + 1) x.1 x.2.1 x.2.2 := by kernel_rfl
theorem vernierref04_Mul.w1 (k : Nat) (x : ET [.sc 0 (.rd .i64), .sc 1 (.rd .i64), .lst 5 .i64 3, .sc 6 (.int .i64)]) : walk E35 (vernierref04_Mul.G k) (cutsAt k vernierref04_Mul.cuts) (retE E35 Go.Proofs.Tryz.f35.results.toList S35) 4000 true (stackAt B35 [6, 4, 1, 0, 1, 1, 1]) (mkE [.sc 0 (.rd .i64), .sc 1 (.rd .i64), .lst 5 .i64 3, .sc 6 (.int .i64)] x St.nil) = vernierref04_Mul.l0 (k + 1) x.1 x.2.1 x.2.2.1 x.2.2.2 := by kernel_rfl
theorem vernierref04_Mul.w2 (k : Nat) (x : ET [.sc 0 (.rd .i64), .sc 1 (.rd .i64), .lst 5 .i64 3, .sc 6 (.int .i64), .sc 7 (.int .i64), .sc 8 (.int .i64)]) : walk E35 (vernierref04_Mul.G k) (cutsAt k vernierref04_Mul.cuts) (retE E35 Go.Proofs.Tryz.f35.results.toList S35) 4000 true (stackAt B35 [6, 4, 1, 0, 1, 4, 0, 1, 6, 4, 1, 0, 1, 1, 1]) (mkE [.sc 0 (.rd .i64), .sc 1 (.rd .i64), .lst 5 .i64 3, .sc 6 (.int .i64), .sc 7 (.int .i64), .sc 8 (.int .i64)] x St.nil) = vernierref04_Mul.l1 (k + 1) x.1 x.2.1 x.2.2.1 x.2.2.2.1 x.2.2.2.2.1 x.2.2.2.2.2 := Eq.trans (b := vernierref04_Mul.l1R k x.1 x.2.1 x.2.2.1 x.2.2.2.1 x.2.2.2.2.1 x.2.2.2.2.2) (by kernel_rfl) (vernierref04_Mul.l1E k x.1 x.2.1 x.2.2.1 x.2.2.2.1 x.2.2.2.2.1 x.2.2.2.2.2)
theorem vernierref04_Mul.w (k : Nat) (x : TT S35.sa) : walk E35 (vernierref04_Mul.G k) (cutsAt k vernierref04_Mul.cuts) (retE E35 Go.Proofs.Tryz.f35.results.toList S35) 4000 true [([], .code B35)] (St0 S35 x) = vernierref04_Mul.f k x.1 x.2 := by kernel_rfl
theorem vernierref04_Mul.ok (k : Nat) : FnOk Go.Proofs.Tryz.prog E35.eT 35 (vernierref04_Mul.c k) := FnOk.walk (E := E35) (body := B35) Go.Proofs.Tryz.func35 rfl (by rfl) Go.Proofs.Tryz.ntmps35 S35 rfl (fun k x => vernierref04_Mul.f k x.1 x.2) vernierref04_Mul.G (fun k => ⟨vernierref04_Cut.ok k, trivial⟩) 4000 vernierref04_Mul.cuts ⟨⟨fun _ => rfl, fun k x q h => (vernierref04_Mul.w0 k x).trans h⟩, ⟨fun _ => rfl, fun k x q h => (vernierref04_Mul.w1 k x).trans h⟩, ⟨fun _ => rfl, fun k x q h => (vernierref04_Mul.w2 k x).trans h⟩, trivial⟩ (fun k x r h => (vernierref04_Mul.w k x).trans h) k
noncomputable def E36 : En := ⟨Go.Proofs.Tryz.prog, 45, Go.Proofs.Tryz.f36.ntmps⟩
noncomputable def S36 : Sig := ⟨[.s, .s], [(.rd .i64), (.rd .i64)], false, [.s], [(.int .i64)], false⟩
noncomputable def B36 : Go.Code := Go.Proofs.Tryz.f36.body.get!
def vernierref04_Cmp.l0 : Nat → List Int → List Int → Int → Option (Int)
 | 0, _, _, _ => none
 | k + 1, x0, x1, x5 => if x5 ≥ 0 then (if 0 ≤ x5 then (if x5 < (nI x0.length) then (if x5 < (nI x1.length) then (if (rd x0 x5) < (rd x1 x5) then (some (-1)) else (if (rd x0 x5) > (rd x1 x5) then (some 1) else (vernierref04_Cmp.l0 k x0 x1 (wrap64 (x5 - 1))))) else (none)) else (none)) else (none)) else (some 0)
def vernierref04_Cmp.f (k : Nat) (l0 : List Int) (l1 : List Int) : Option (Int) := if (nI l0.length) = (nI l1.length) then (vernierref04_Cmp.l0 k l0 l1 (wrap64 ((nI l0.length) - 1))) else (if (nI l0.length) < (nI l1.length) then (some (-1)) else (some 1))
--@ok
def vernierref04_Cmp.l0R (k : Nat) (x0 : List Int) (x1 : List Int) (x5 : Int) : Option (Int) := if x5 ≥ 0 then (if 0 ≤ x5 then (if x5 < (nI x0.length) then (if 0 ≤ x5 then (if x5 < (nI x1.length) then (if (rd x0 x5) < (rd x1 x5) then (some (-1)) else (if 0 ≤ x5 then (if x5 < (nI x0.length) then (if 0 ≤ x5 then (if x5 < (nI x1.length) then (if (rd x0 x5) > (rd x1 x5) then (some 1) else (vernierref04_Cmp.l0 k x0 x1 (wrap64 (x5 - 1)))) else (none)) else (none)) else (none)) else (none))) else (none)) else (none)) else (none)) else (none)) else (some 0)
theorem vernierref04_Cmp.l0E (k : Nat) (x0 : List Int) (x1 : List Int) (x5 : Int) : vernierref04_Cmp.l0R k x0 x1 x5 = vernierref04_Cmp.l0 (k + 1) x0 x1 x5 := by
  unfold vernierref04_Cmp.l0R
  rw [vernierref04_Cmp.l0]
  exact iteC (fun h0 => iteC (fun h1 => iteC (fun h2 => (if_pos h1).trans (iteC (fun h3 => iteC (fun h4 => rfl) (fun h4 => (if_pos h1).trans ((if_pos h2).trans ((if_pos h1).trans ((if_pos h3).trans (iteC (fun h5 => rfl) (fun h5 => rfl))))))) (fun h3 => rfl))) (fun h2 => rfl)) (fun h1 => rfl)) (fun h0 => rfl)
noncomputable def vernierref04_Cmp.c (k : Nat) : Con := S36.con fun x => vernierref04_Cmp.f k x.1 x.2
noncomputable def vernierref04_Cmp.G (k : Nat) : List (Go.FuncId × Con) := []
noncomputable def vernierref04_Cmp.cuts : List (Cut (TT S36.sb)) := [⟨[6, 4, 1, 0, 1, 1], [.sc 0 (.rd .i64), .sc 1 (.rd .i64), .sc 5 (.int .i64)], fun k x => vernierref04_Cmp.l0 k x.1 x.2.1 x.2.2⟩]
theorem vernierref04_Cmp.w0 (k : Nat) (x : ET [.sc 0 (.rd .i64), .sc 1 (.rd .i64), .sc 5 (.int .i64)]) : walk E36 (vernierref04_Cmp.G k) (cutsAt k vernierref04_Cmp.cuts) (retE E36 Go.Proofs.Tryz.f36.results.toList S36) 4000 true (stackAt B36 [6, 4, 1, 0, 1, 1]) (mkE [.sc 0 (.rd .i64), .sc 1 (.rd .i64), .sc 5 (.int .i64)] x St.nil) = vernierref04_Cmp.l0 (k + 1) x.1 x.2.1 x.2.2 := Eq.trans (b := vernierref04_Cmp.l0R k x.1 x.2.1 x.2.2) (by kernel_rfl) (vernierref04_Cmp.l0E k x.1 x.2.1 x.2.2)
theorem vernierref04_Cmp.w (k : Nat) (x : TT S36.sa) : walk E36 (vernierref04_Cmp.G k) (cutsAt k vernierref04_Cmp.cuts) (retE E36 Go.Proofs.Tryz.f36.results.toList S36) 4000 true [([], .code B36)] (St0 S36 x) = vernierref04_Cmp.f k x.1 x.2 := by kernel_rfl
theorem vernierref04_Cmp.ok (k : Nat) : FnOk Go.Proofs.Tryz.prog E36.eT 36 (vernierref04_Cmp.c k) := FnOk.walk (E := E36) (body := B36) Go.Proofs.Tryz.func36 rfl (by rfl) Go.Proofs.Tryz.ntmps36 S36 rfl (fun k x => vernierref04_Cmp.f k x.1 x.2) vernierref04_Cmp.G (fun k => trivial) 4000 vernierref04_Cmp.cuts ⟨⟨fun _ => rfl, fun k x q h => (vernierref04_Cmp.w0 k x).trans h⟩, trivial⟩ (fun k x r h => (vernierref04_Cmp.w k x).trans h) k
noncomputable def E68 : En := ⟨Go.Proofs.Tryz.prog, 45, Go.Proofs.Tryz.f68.ntmps⟩
noncomputable def S68 : Sig := ⟨[.s], [(.rd .i64)], false, [.s], [(.int .i64)], false⟩
noncomputable def B68 : Go.Code := Go.Proofs.Tryz.f68.body.get!
def vernierref04_Bits.l0 : Nat → Int → Int → Option (Int)
 | 0, _, _ => none
 | k + 1, x3, x4 => if x4 > 0 then (vernierref04_Bits.l0 k (wrap64 (x3 + 1)) (wrap64 (Int.tdiv x4 2))) else (some x3)
def vernierref04_Bits.f (k : Nat) (l0 : List Int) : Option (Int) := if (nI l0.length) = 0 then (some 0) else (if 0 ≤ (wrap64 ((nI l0.length) - 1)) then (if (wrap64 ((nI l0.length) - 1)) < (nI l0.length) then (vernierref04_Bits.l0 k (wrap64 (24 * (wrap64 ((nI l0.length) - 1)))) (rd l0 (wrap64 ((nI l0.length) - 1)))) else (none)) else (none))
--@ok
noncomputable def vernierref04_Bits.c (k : Nat) : Con := S68.con fun x => vernierref04_Bits.f k x
noncomputable def vernierref04_Bits.G (k : Nat) : List (Go.FuncId × Con) := []
noncomputable def vernierref04_Bits.cuts : List (Cut (TT S68.sb)) := [⟨[6, 4, 1, 0, 1, 1, 1], [.sc 3 (.int .i64), .sc 4 (.int .i64)], fun k x => vernierref04_Bits.l0 k x.1 x.2⟩]
theorem vernierref04_Bits.w0 (k : Nat) (x : ET [.sc 3 (.int .i64), .sc 4 (.int .i64)]) : walk E68 (vernierref04_Bits.G k) (cutsAt k vernierref04_Bits.cuts) (retE E68 Go.Proofs.Tryz.f68.results.toList S68) 4000 true (stackAt B68 [6, 4, 1, 0, 1, 1, 1]) (mkE [.sc 3 (.int .i64), .sc 4 (.int .i64)] x St.nil) = vernierref04_Bits.l0 (k + 1) x.1 x.2 := by kernel_rfl
theorem vernierref04_Bits.w (k : Nat) (x : TT S68.sa) : walk E68 (vernierref04_Bits.G k) (cutsAt k vernierref04_Bits.cuts) (retE E68 Go.Proofs.Tryz.f68.results.toList S68) 4000 true [([], .code B68)] (St0 S68 x) = vernierref04_Bits.f k x := by kernel_rfl
theorem vernierref04_Bits.ok (k : Nat) : FnOk Go.Proofs.Tryz.prog E68.eT 68 (vernierref04_Bits.c k) := FnOk.walk (E := E68) (body := B68) Go.Proofs.Tryz.func68 rfl (by rfl) Go.Proofs.Tryz.ntmps68 S68 rfl (fun k x => vernierref04_Bits.f k x) vernierref04_Bits.G (fun k => trivial) 4000 vernierref04_Bits.cuts ⟨⟨fun _ => rfl, fun k x q h => (vernierref04_Bits.w0 k x).trans h⟩, trivial⟩ (fun k x r h => (vernierref04_Bits.w k x).trans h) k
noncomputable def E69 : En := ⟨Go.Proofs.Tryz.prog, 45, Go.Proofs.Tryz.f69.ntmps⟩
noncomputable def S69 : Sig := ⟨[.s], [(.int .i64)], false, [.s], [(.int .i64)], false⟩
noncomputable def B69 : Go.Code := Go.Proofs.Tryz.f69.body.get!
def vernierref07_Held.f (a0 : Int) : Option (Int) := if a0 < (-1099511627776) then (some (-1099511627776)) else (if a0 > 1099511627776 then (some 1099511627776) else (some a0))
--@ok
noncomputable def vernierref07_Held.c : Con := S69.con fun x => vernierref07_Held.f x
noncomputable def vernierref07_Held.G (k : Nat) : List (Go.FuncId × Con) := []
noncomputable def vernierref07_Held.cuts : List (Cut (TT S69.sb)) := []
theorem vernierref07_Held.w (k : Nat) (x : TT S69.sa) : walk E69 (vernierref07_Held.G k) (cutsAt k vernierref07_Held.cuts) (retE E69 Go.Proofs.Tryz.f69.results.toList S69) 4000 true [([], .code B69)] (St0 S69 x) = vernierref07_Held.f x := by kernel_rfl
theorem vernierref07_Held.ok : FnOk Go.Proofs.Tryz.prog E69.eT 69 (vernierref07_Held.c) := FnOk.walk (E := E69) (body := B69) Go.Proofs.Tryz.func69 rfl (by rfl) Go.Proofs.Tryz.ntmps69 S69 rfl (fun k x => vernierref07_Held.f x) vernierref07_Held.G (fun k => trivial) 4000 vernierref07_Held.cuts trivial (fun k x r h => (vernierref07_Held.w k x).trans h) 0
noncomputable def E70 : En := ⟨Go.Proofs.Tryz.prog, 45, Go.Proofs.Tryz.f70.ntmps⟩
noncomputable def S70 : Sig := ⟨[.s, .s], [(.rd .i64), (.int .i64)], false, [.s], [.bool], false⟩
noncomputable def B70 : Go.Code := Go.Proofs.Tryz.f70.body.get!
mutual
def vernierref04_Low.l0 : Nat → List Int → Int → Int → Option (Bool)
 | 0, _, _, _ => none
 | k + 1, x0, x1, x5 => if x5 < (nI x0.length) then (vernierref04_Low.j1 k x0 x1 x5 (decide ((wrap64 (24 * x5)) < x1))) else (vernierref04_Low.j1 k x0 x1 x5 false)
def vernierref04_Low.j1 : Nat → List Int → Int → Int → Bool → Option (Bool)
 | 0, _, _, _, _ => none
 | k + 1, x0, x1, x5, x16 => if x16 = true then (if (wrap64 (x1 - (wrap64 (24 * x5)))) < 24 then ((vernierref04_two.f k (wrap64 (x1 - (wrap64 (24 * x5))))).bind fun t100 => (if 0 ≤ x5 then (if x5 < (nI x0.length) then (if t100 = 0 then (none) else (if (Int.tmod (rd x0 x5) t100) = 0 then (vernierref04_Low.l0 k x0 x1 (wrap64 (x5 + 1))) else (some true))) else (none)) else (none))) else (if 0 ≤ x5 then (if x5 < (nI x0.length) then (if (Int.tmod (rd x0 x5) 16777216) = 0 then (vernierref04_Low.l0 k x0 x1 (wrap64 (x5 + 1))) else (some true)) else (none)) else (none))) else (some false)
end
def vernierref04_Low.f (k : Nat) (l0 : List Int) (a1 : Int) : Option (Bool) := vernierref04_Low.l0 k l0 a1 0
--@ok
noncomputable def vernierref04_Low.c (k : Nat) : Con := S70.con fun x => vernierref04_Low.f k x.1 x.2
noncomputable def vernierref04_Low.G (k : Nat) : List (Go.FuncId × Con) := [(62, vernierref04_two.c k)]
noncomputable def vernierref04_Low.cuts : List (Cut (TT S70.sb)) := [⟨[6, 4, 1, 0, 1], [.sc 0 (.rd .i64), .sc 1 (.int .i64), .sc 5 (.int .i64)], fun k x => vernierref04_Low.l0 k x.1 x.2.1 x.2.2⟩, ⟨[1, 0, 6, 4, 1, 0, 1], [.sc 0 (.rd .i64), .sc 1 (.int .i64), .sc 5 (.int .i64), .sc 16 (.bool)], fun k x => vernierref04_Low.j1 k x.1 x.2.1 x.2.2.1 x.2.2.2⟩]
theorem vernierref04_Low.w0 (k : Nat) (x : ET [.sc 0 (.rd .i64), .sc 1 (.int .i64), .sc 5 (.int .i64)]) : walk E70 (vernierref04_Low.G k) (cutsAt k vernierref04_Low.cuts) (retE E70 Go.Proofs.Tryz.f70.results.toList S70) 4000 true (stackAt B70 [6, 4, 1, 0, 1]) (mkE [.sc 0 (.rd .i64), .sc 1 (.int .i64), .sc 5 (.int .i64)] x St.nil) = vernierref04_Low.l0 (k + 1) x.1 x.2.1 x.2.2 := by kernel_rfl
theorem vernierref04_Low.w1 (k : Nat) (x : ET [.sc 0 (.rd .i64), .sc 1 (.int .i64), .sc 5 (.int .i64), .sc 16 (.bool)]) : walk E70 (vernierref04_Low.G k) (cutsAt k vernierref04_Low.cuts) (retE E70 Go.Proofs.Tryz.f70.results.toList S70) 4000 true (stackAt B70 [1, 0, 6, 4, 1, 0, 1]) (mkE [.sc 0 (.rd .i64), .sc 1 (.int .i64), .sc 5 (.int .i64), .sc 16 (.bool)] x St.nil) = vernierref04_Low.j1 (k + 1) x.1 x.2.1 x.2.2.1 x.2.2.2 := by kernel_rfl
theorem vernierref04_Low.w (k : Nat) (x : TT S70.sa) : walk E70 (vernierref04_Low.G k) (cutsAt k vernierref04_Low.cuts) (retE E70 Go.Proofs.Tryz.f70.results.toList S70) 4000 true [([], .code B70)] (St0 S70 x) = vernierref04_Low.f k x.1 x.2 := by kernel_rfl
theorem vernierref04_Low.ok (k : Nat) : FnOk Go.Proofs.Tryz.prog E70.eT 70 (vernierref04_Low.c k) := FnOk.walk (E := E70) (body := B70) Go.Proofs.Tryz.func70 rfl (by rfl) Go.Proofs.Tryz.ntmps70 S70 rfl (fun k x => vernierref04_Low.f k x.1 x.2) vernierref04_Low.G (fun k => ⟨vernierref04_two.ok k, trivial⟩) 4000 vernierref04_Low.cuts ⟨⟨fun _ => rfl, fun k x q h => (vernierref04_Low.w0 k x).trans h⟩, ⟨fun _ => rfl, fun k x q h => (vernierref04_Low.w1 k x).trans h⟩, trivial⟩ (fun k x r h => (vernierref04_Low.w k x).trans h) k
noncomputable def E71 : En := ⟨Go.Proofs.Tryz.prog, 45, Go.Proofs.Tryz.f71.ntmps⟩
noncomputable def S71 : Sig := ⟨[.s, .s], [(.rd .i64), (.int .i64)], false, [.s], [(.rd .i64)], true⟩
noncomputable def B71 : Go.Code := Go.Proofs.Tryz.f71.body.get!
def vernierref04_Shr.l0 : Nat → List Int → Int → List Int → Int → Option (List Int)
 | 0, _, _, _, _ => none
 | k + 1, x5, x6, x7, x8 => if x8 < (nI x5.length) then (if 0 ≤ x8 then (if x6 = 0 then (none) else ((vernierref04_digit.f x5 (wrap64 (x8 + 1))).bind fun t101 => (if x8 < (nI x7.length) then (vernierref04_Shr.l0 k x5 x6 (x7.set ((x8 : Int).toNat) (wrap64 ((wrap64 (Int.tdiv (rd x5 x8) x6)) + (wrap64 ((Int.tmod t101 x6) * (wrap64 (16777216 / x6))))))) (wrap64 (x8 + 1))) else (none)))) else (none)) else ((vernierref04_Cut.f k x7).bind fun t102 => (some t102))
def vernierref04_Shr.f (k : Nat) (l0 : List Int) (a1 : Int) : Option (List Int) := if (wrap64 (Int.tdiv a1 24)) ≥ (nI l0.length) then (some ([] : List Int)) else (if 0 ≤ (wrap64 (Int.tdiv a1 24)) then (if (wrap64 (Int.tdiv a1 24)) ≤ (nI l0.length) then ((vernierref04_two.f k (Int.tmod a1 24)).bind fun t100 => (if (((nI ((l0.drop (((wrap64 (Int.tdiv a1 24)) : Int).toNat)).length)) : Int).toNat) ≤ 35184372088832 then (vernierref04_Shr.l0 k (l0.drop (((wrap64 (Int.tdiv a1 24)) : Int).toNat)) t100 (List.replicate (((nI ((l0.drop (((wrap64 (Int.tdiv a1 24)) : Int).toNat)).length)) : Int).toNat) 0 : List Int) 0) else (none))) else (none)) else (none))
--@ok
def vernierref04_Shr.l0R (k : Nat) (x5 : List Int) (x6 : Int) (x7 : List Int) (x8 : Int) : Option (List Int) := if x8 < (nI x5.length) then (if 0 ≤ x8 then (if x8 < (nI x5.length) then (if x6 = 0 then (none) else (if x6 = 0 then (none) else ((vernierref04_digit.f x5 (wrap64 (x8 + 1))).bind fun t101 => (if x6 = 0 then (none) else (if 0 ≤ x8 then (if x8 < (nI x7.length) then (vernierref04_Shr.l0 k x5 x6 (x7.set ((x8 : Int).toNat) (wrap64 ((wrap64 (Int.tdiv (rd x5 x8) x6)) + (wrap64 ((Int.tmod t101 x6) * (wrap64 (16777216 / x6))))))) (wrap64 (x8 + 1))) else (none)) else (none)))))) else (none)) else (none)) else ((vernierref04_Cut.f k x7).bind fun t102 => (some t102))
theorem vernierref04_Shr.l0E (k : Nat) (x5 : List Int) (x6 : Int) (x7 : List Int) (x8 : Int) : vernierref04_Shr.l0R k x5 x6 x7 x8 = vernierref04_Shr.l0 (k + 1) x5 x6 x7 x8 := by
  unfold vernierref04_Shr.l0R
  rw [vernierref04_Shr.l0]
  exact iteC (fun h0 => iteC (fun h1 => (if_pos h0).trans (iteC (fun h2 => rfl) (fun h2 => (if_neg h2).trans (bindC fun _ => (if_neg h2).trans ((if_pos h1).trans (iteC (fun h3 => rfl) (fun h3 => rfl))))))) (fun h1 => rfl)) (fun h0 => bindC fun _ => rfl)
noncomputable def vernierref04_Shr.c (k : Nat) : Con := S71.con fun x => vernierref04_Shr.f k x.1 x.2
noncomputable def vernierref04_Shr.G (k : Nat) : List (Go.FuncId × Con) := [(62, vernierref04_two.c k), (66, vernierref04_digit.c), (67, vernierref04_Cut.c k)]
noncomputable def vernierref04_Shr.cuts : List (Cut (TT S71.sb)) := [⟨[6, 4, 1, 0, 1, 1, 1, 1, 1], [.sc 5 (.rd .i64), .sc 6 (.int .i64), .lst 7 .i64 3, .sc 8 (.int .i64)], fun k x => vernierref04_Shr.l0 k x.1 x.2.1 x.2.2.1 x.2.2.2⟩]
theorem vernierref04_Shr.w0 (k : Nat) (x : ET [.sc 5 (.rd .i64), .sc 6 (.int .i64), .lst 7 .i64 3, .sc 8 (.int .i64)]) : walk E71 (vernierref04_Shr.G k) (cutsAt k vernierref04_Shr.cuts) (retE E71 Go.Proofs.Tryz.f71.results.toList S71) 4000 true (stackAt B71 [6, 4, 1, 0, 1, 1, 1, 1, 1]) (mkE [.sc 5 (.rd .i64), .sc 6 (.int .i64), .lst 7 .i64 3, .sc 8 (.int .i64)] x St.nil) = vernierref04_Shr.l0 (k + 1) x.1 x.2.1 x.2.2.1 x.2.2.2 := Eq.trans (b := vernierref04_Shr.l0R k x.1 x.2.1 x.2.2.1 x.2.2.2) (by kernel_rfl) (vernierref04_Shr.l0E k x.1 x.2.1 x.2.2.1 x.2.2.2)
theorem vernierref04_Shr.w (k : Nat) (x : TT S71.sa) : walk E71 (vernierref04_Shr.G k) (cutsAt k vernierref04_Shr.cuts) (retE E71 Go.Proofs.Tryz.f71.results.toList S71) 4000 true [([], .code B71)] (St0 S71 x) = vernierref04_Shr.f k x.1 x.2 := by kernel_rfl
theorem vernierref04_Shr.ok (k : Nat) : FnOk Go.Proofs.Tryz.prog E71.eT 71 (vernierref04_Shr.c k) := FnOk.walk (E := E71) (body := B71) Go.Proofs.Tryz.func71 rfl (by rfl) Go.Proofs.Tryz.ntmps71 S71 rfl (fun k x => vernierref04_Shr.f k x.1 x.2) vernierref04_Shr.G (fun k => ⟨vernierref04_two.ok k, vernierref04_digit.ok, vernierref04_Cut.ok k, trivial⟩) 4000 vernierref04_Shr.cuts ⟨⟨fun _ => rfl, fun k x q h => (vernierref04_Shr.w0 k x).trans h⟩, trivial⟩ (fun k x r h => (vernierref04_Shr.w k x).trans h) k
noncomputable def E72 : En := ⟨Go.Proofs.Tryz.prog, 45, Go.Proofs.Tryz.f72.ntmps⟩
noncomputable def S72 : Sig := ⟨[.s], [(.rd .i64)], false, [.s], [(.int .u64)], false⟩
noncomputable def B72 : Go.Code := Go.Proofs.Tryz.f72.body.get!
def vernierref04_Word.l0 : Nat → List Int → Int → Int → Option (Int)
 | 0, _, _, _ => none
 | k + 1, x0, x3, x4 => if x4 ≥ 0 then ((vernierref04_digit.f x0 x4).bind fun t100 => (vernierref04_Word.l0 k x0 (IntKind.u64.wrap ((IntKind.u64.wrap (x3 * 16777216)) + (IntKind.u64.wrap t100))) (wrap64 (x4 - 1)))) else (some x3)
def vernierref04_Word.f (k : Nat) (l0 : List Int) : Option (Int) := vernierref04_Word.l0 k l0 0 2
--@ok
noncomputable def vernierref04_Word.c (k : Nat) : Con := S72.con fun x => vernierref04_Word.f k x
noncomputable def vernierref04_Word.G (k : Nat) : List (Go.FuncId × Con) := [(66, vernierref04_digit.c)]
noncomputable def vernierref04_Word.cuts : List (Cut (TT S72.sb)) := [⟨[6, 4, 1, 0, 1, 1], [.sc 0 (.rd .i64), .sc 3 (.int .u64), .sc 4 (.int .i64)], fun k x => vernierref04_Word.l0 k x.1 x.2.1 x.2.2⟩]
theorem vernierref04_Word.w0 (k : Nat) (x : ET [.sc 0 (.rd .i64), .sc 3 (.int .u64), .sc 4 (.int .i64)]) : walk E72 (vernierref04_Word.G k) (cutsAt k vernierref04_Word.cuts) (retE E72 Go.Proofs.Tryz.f72.results.toList S72) 4000 true (stackAt B72 [6, 4, 1, 0, 1, 1]) (mkE [.sc 0 (.rd .i64), .sc 3 (.int .u64), .sc 4 (.int .i64)] x St.nil) = vernierref04_Word.l0 (k + 1) x.1 x.2.1 x.2.2 := by kernel_rfl
theorem vernierref04_Word.w (k : Nat) (x : TT S72.sa) : walk E72 (vernierref04_Word.G k) (cutsAt k vernierref04_Word.cuts) (retE E72 Go.Proofs.Tryz.f72.results.toList S72) 4000 true [([], .code B72)] (St0 S72 x) = vernierref04_Word.f k x := by kernel_rfl
theorem vernierref04_Word.ok (k : Nat) : FnOk Go.Proofs.Tryz.prog E72.eT 72 (vernierref04_Word.c k) := FnOk.walk (E := E72) (body := B72) Go.Proofs.Tryz.func72 rfl (by rfl) Go.Proofs.Tryz.ntmps72 S72 rfl (fun k x => vernierref04_Word.f k x) vernierref04_Word.G (fun k => ⟨vernierref04_digit.ok, trivial⟩) 4000 vernierref04_Word.cuts ⟨⟨fun _ => rfl, fun k x q h => (vernierref04_Word.w0 k x).trans h⟩, trivial⟩ (fun k x r h => (vernierref04_Word.w k x).trans h) k
noncomputable def E37 : En := ⟨Go.Proofs.Tryz.prog, 45, Go.Proofs.Tryz.f37.ntmps⟩
noncomputable def S37 : Sig := ⟨[.s, .s, .s, .s], [.bool, (.rd .i64), (.int .i64), .bool], false, [.g 6], [(.int .i64), .bool, (.int .i64), (.int .u64), (.int .u64), .bool], false⟩
noncomputable def B37 : Go.Code := Go.Proofs.Tryz.f37.body.get!
mutual
def vernierref07_Exactly.j0 : Nat → List Int → Bool → Int → Int → Bool → Int → Bool → Option (Int × Bool × Int × Int × Int × Bool)
 | 0, _, _, _, _, _, _, _ => none
 | k + 1, x1, x3, x9, x10000, x10001, x10002, x10005 => if x9 > 128 then ((vernierref04_Low.f k x1 (wrap64 (x9 - 128))).bind fun t103 => (if x3 = true then (vernierref07_Exactly.j1 k x1 x9 x10000 x10001 x10002 true) else (vernierref07_Exactly.j1 k x1 x9 x10000 x10001 x10002 t103))) else ((vernierref04_Word.f k x1).bind fun t104 => ((vernierref04_Shr.f k x1 64).bind fun t105 => ((vernierref04_Word.f k t105).bind fun t106 => (some (x10000, x10001, x10002, t106, t104, x10005)))))
def vernierref07_Exactly.j1 : Nat → List Int → Int → Int → Bool → Int → Bool → Option (Int × Bool × Int × Int × Int × Bool)
 | 0, _, _, _, _, _, _ => none
 | k + 1, x1, x9, x10000, x10001, x10002, x10005 => (vernierref04_Shr.f k x1 (wrap64 (x9 - 128))).bind fun t107 => ((vernierref04_Word.f k t107).bind fun t108 => ((vernierref04_Shr.f k t107 64).bind fun t109 => ((vernierref04_Word.f k t109).bind fun t110 => (some (x10000, x10001, x10002, t110, t108, x10005)))))
end
def vernierref07_Exactly.f (k : Nat) (a0 : Bool) (l1 : List Int) (a2 : Int) (a3 : Bool) : Option (Int × Bool × Int × Int × Int × Bool) := (vernierref04_Bits.f k l1).bind fun t100 => (if t100 = 0 then (some (0, false, 0, 0, 0, false)) else ((vernierref07_Held.f (wrap64 ((wrap64 (a2 + t100)) - 1))).bind fun t101 => (if t100 < 128 then ((vernierref04_Shl.f k l1 (wrap64 (128 - t100))).bind fun t102 => (vernierref07_Exactly.j0 k t102 a3 t100 1 a0 t101 a3)) else (vernierref07_Exactly.j0 k l1 a3 t100 1 a0 t101 a3))))
--@ok
noncomputable def vernierref07_Exactly.c (k : Nat) : Con := S37.con fun x => vernierref07_Exactly.f k x.1 x.2.1 x.2.2.1 x.2.2.2
noncomputable def vernierref07_Exactly.G (k : Nat) : List (Go.FuncId × Con) := [(32, vernierref04_Shl.c k), (68, vernierref04_Bits.c k), (69, vernierref07_Held.c), (70, vernierref04_Low.c k), (71, vernierref04_Shr.c k), (72, vernierref04_Word.c k)]
noncomputable def vernierref07_Exactly.cuts : List (Cut (TT S37.sb)) := [⟨[1, 1, 1, 1, 1], [.sc 1 (.rd .i64), .sc 3 (.bool), .sc 9 (.int .i64), .box 8 34 [.int .i64, .bool, .int .i64, .int .u64, .int .u64, .bool], .box 10 34 [.int .i64, .bool, .int .i64, .int .u64, .int .u64, .bool]], fun k x => vernierref07_Exactly.j0 k x.1 x.2.1 x.2.2.1 x.2.2.2.2.1 x.2.2.2.2.2.1 x.2.2.2.2.2.2.1 x.2.2.2.2.2.2.2.2.2⟩, ⟨[1, 1, 2, 1, 0, 1, 1, 1, 1, 1], [.sc 1 (.rd .i64), .sc 9 (.int .i64), .box 8 34 [.int .i64, .bool, .int .i64, .int .u64, .int .u64, .bool], .box 10 34 [.int .i64, .bool, .int .i64, .int .u64, .int .u64, .bool]], fun k x => vernierref07_Exactly.j1 k x.1 x.2.1 x.2.2.2.1 x.2.2.2.2.1 x.2.2.2.2.2.1 x.2.2.2.2.2.2.2.2⟩]
theorem vernierref07_Exactly.w0 (k : Nat) (x : ET [.sc 1 (.rd .i64), .sc 3 (.bool), .sc 9 (.int .i64), .box 8 34 [.int .i64, .bool, .int .i64, .int .u64, .int .u64, .bool], .box 10 34 [.int .i64, .bool, .int .i64, .int .u64, .int .u64, .bool]]) : walk E37 (vernierref07_Exactly.G k) (cutsAt k vernierref07_Exactly.cuts) (retE E37 Go.Proofs.Tryz.f37.results.toList S37) 4000 true (stackAt B37 [1, 1, 1, 1, 1]) (mkE [.sc 1 (.rd .i64), .sc 3 (.bool), .sc 9 (.int .i64), .box 8 34 [.int .i64, .bool, .int .i64, .int .u64, .int .u64, .bool], .box 10 34 [.int .i64, .bool, .int .i64, .int .u64, .int .u64, .bool]] x St.nil) = vernierref07_Exactly.j0 (k + 1) x.1 x.2.1 x.2.2.1 x.2.2.2.2.1 x.2.2.2.2.2.1 x.2.2.2.2.2.2.1 x.2.2.2.2.2.2.2.2.2 := by kernel_rfl
theorem vernierref07_Exactly.w1 (k : Nat) (x : ET [.sc 1 (.rd .i64), .sc 9 (.int .i64), .box 8 34 [.int .i64, .bool, .int .i64, .int .u64, .int .u64, .bool], .box 10 34 [.int .i64, .bool, .int .i64, .int .u64, .int .u64, .bool]]) : walk E37 (vernierref07_Exactly.G k) (cutsAt k vernierref07_Exactly.cuts) (retE E37 Go.Proofs.Tryz.f37.results.toList S37) 4000 true (stackAt B37 [1, 1, 2, 1, 0, 1, 1, 1, 1, 1]) (mkE [.sc 1 (.rd .i64), .sc 9 (.int .i64), .box 8 34 [.int .i64, .bool, .int .i64, .int .u64, .int .u64, .bool], .box 10 34 [.int .i64, .bool, .int .i64, .int .u64, .int .u64, .bool]] x St.nil) = vernierref07_Exactly.j1 (k + 1) x.1 x.2.1 x.2.2.2.1 x.2.2.2.2.1 x.2.2.2.2.2.1 x.2.2.2.2.2.2.2.2 := by kernel_rfl
theorem vernierref07_Exactly.w (k : Nat) (x : TT S37.sa) : walk E37 (vernierref07_Exactly.G k) (cutsAt k vernierref07_Exactly.cuts) (retE E37 Go.Proofs.Tryz.f37.results.toList S37) 4000 true [([], .code B37)] (St0 S37 x) = vernierref07_Exactly.f k x.1 x.2.1 x.2.2.1 x.2.2.2 := by kernel_rfl
theorem vernierref07_Exactly.ok (k : Nat) : FnOk Go.Proofs.Tryz.prog E37.eT 37 (vernierref07_Exactly.c k) := FnOk.walk (E := E37) (body := B37) Go.Proofs.Tryz.func37 rfl (by rfl) Go.Proofs.Tryz.ntmps37 S37 rfl (fun k x => vernierref07_Exactly.f k x.1 x.2.1 x.2.2.1 x.2.2.2) vernierref07_Exactly.G (fun k => ⟨vernierref04_Shl.ok k, vernierref04_Bits.ok k, vernierref07_Held.ok, vernierref04_Low.ok k, vernierref04_Shr.ok k, vernierref04_Word.ok k, trivial⟩) 4000 vernierref07_Exactly.cuts ⟨⟨fun _ => rfl, fun k x q h => (vernierref07_Exactly.w0 k x).trans h⟩, ⟨fun _ => rfl, fun k x q h => (vernierref07_Exactly.w1 k x).trans h⟩, trivial⟩ (fun k x r h => (vernierref07_Exactly.w k x).trans h) k
noncomputable def E38 : En := ⟨Go.Proofs.Tryz.prog, 45, Go.Proofs.Tryz.f38.ntmps⟩
noncomputable def S38 : Sig := ⟨[.g 6], [(.int .i64), .bool, (.int .i64), (.int .u64), (.int .u64), .bool], false, [.g 6], [(.int .i64), .bool, (.int .i64), (.int .u64), (.int .u64), .bool], false⟩
noncomputable def B38 : Go.Code := Go.Proofs.Tryz.f38.body.get!
def vernierref11_Cut.f (a0_0 : Int) (a0_1 : Bool) (a0_2 : Int) (a0_3 : Int) (a0_4 : Int) (a0_5 : Bool) : Option (Int × Bool × Int × Int × Int × Bool) := if a0_5 = true then (some (a0_0, a0_1, a0_2, a0_3, 0, true)) else (some (a0_0, a0_1, a0_2, a0_3, 0, a0_4 != 0))
--@ok
noncomputable def vernierref11_Cut.c : Con := S38.con fun x => vernierref11_Cut.f x.1 x.2.1 x.2.2.1 x.2.2.2.1 x.2.2.2.2.1 x.2.2.2.2.2
noncomputable def vernierref11_Cut.G (k : Nat) : List (Go.FuncId × Con) := []
noncomputable def vernierref11_Cut.cuts : List (Cut (TT S38.sb)) := []
theorem vernierref11_Cut.w (k : Nat) (x : TT S38.sa) : walk E38 (vernierref11_Cut.G k) (cutsAt k vernierref11_Cut.cuts) (retE E38 Go.Proofs.Tryz.f38.results.toList S38) 4000 true [([], .code B38)] (St0 S38 x) = vernierref11_Cut.f x.1 x.2.1 x.2.2.1 x.2.2.2.1 x.2.2.2.2.1 x.2.2.2.2.2 := by kernel_rfl
theorem vernierref11_Cut.ok : FnOk Go.Proofs.Tryz.prog E38.eT 38 (vernierref11_Cut.c) := FnOk.walk (E := E38) (body := B38) Go.Proofs.Tryz.func38 rfl (by rfl) Go.Proofs.Tryz.ntmps38 S38 rfl (fun k x => vernierref11_Cut.f x.1 x.2.1 x.2.2.1 x.2.2.2.1 x.2.2.2.2.1 x.2.2.2.2.2) vernierref11_Cut.G (fun k => trivial) 4000 vernierref11_Cut.cuts trivial (fun k x r h => (vernierref11_Cut.w k x).trans h) 0
end Go.Proofs.YtfbbnpliaokmbaaGreat.Fn
set_option maxRecDepth 100000
set_option linter.unusedVariables false
noncomputable section
namespace Go.Proofs.YtfbbnpliaokmbaaGreat.Fn
open Go Go.RowKit Go.Proofs.YtfbbnpliaokmbaaGreat.Ab
noncomputable def E14 : En := ⟨Go.Proofs.Tryz.prog, 45, Go.Proofs.Tryz.f14.ntmps⟩
noncomputable def S14 : Sig := ⟨[.g 6], [(.int .i64), .bool, (.int .i64), (.int .u64), (.int .u64), .bool], true, [.g 6, .s], [(.int .i64), .bool, (.int .i64), (.int .u64), (.int .u64), .bool, (.int .i64)], false⟩
noncomputable def B14 : Go.Code := Go.Proofs.Tryz.f14.body.get!
mutual
def vernierref12_Exact.j0 : Nat → Bool → Int → Int → Int → Int → Bool → Option (Int × Bool × Int × Int × Int × Bool × Int)
 | 0, _, _, _, _, _, _ => none
 | k + 1, x19, x1000, x1002, x1003, x1004, x1005 => if x19 = true then (some (2, false, 0, 0, 0, false, 0)) else (if x1000 = 0 then (some (0, false, 0, 0, 0, false, 0)) else ((vernierref12_half.f x1002).bind fun t101 => ((vernierref02_Of.f k x1003 x1004).bind fun t102 => ((vernierref04_Shl.f k t102 (wrap64 ((wrap64 (13 + x1002)) - (wrap64 (2 * t101))))).bind fun t103 => (vernierref12_Exact.l0 k t101 t103 ([] : List Int) 70 x1005)))))
def vernierref12_Exact.l0 : Nat → Int → List Int → List Int → Int → Bool → Option (Int × Bool × Int × Int × Int × Bool × Int)
 | 0, _, _, _, _, _ => none
 | k + 1, x5, x6, x7, x8, x1005 => if x8 ≥ 0 then ((vernierref04_Shl.f k ([1] : List Int) x8).bind fun t104 => ((vernierref04_Add.f k x7 t104).bind fun t105 => ((vernierref04_Mul.f k t105 t105).bind fun t106 => ((vernierref04_Cmp.f k t106 x6).bind fun t107 => (if t107 ≤ 0 then (vernierref12_Exact.l0 k x5 x6 t105 (wrap64 (x8 - 1)) x1005) else (vernierref12_Exact.l0 k x5 x6 x7 (wrap64 (x8 - 1)) x1005)))))) else ((vernierref04_Mul.f k x7 x7).bind fun t108 => ((vernierref04_Cmp.f k t108 x6).bind fun t109 => ((vernierref07_Exactly.f k false x7 (wrap64 (x5 - 70)) false).bind fun t110 => ((vernierref11_Cut.f t110.1 t110.2.1 t110.2.2.1 t110.2.2.2.1 t110.2.2.2.2.1 t110.2.2.2.2.2).bind fun t111 => (if t111.2.2.2.2.2 = true then (some (t111.1, t111.2.1, t111.2.2.1, t111.2.2.2.1, t111.2.2.2.2.1, true, 0)) else (if t109 = 0 then (some (t111.1, t111.2.1, t111.2.2.1, t111.2.2.2.1, t111.2.2.2.2.1, x1005, 0)) else (some (t111.1, t111.2.1, t111.2.2.1, t111.2.2.2.1, t111.2.2.2.2.1, true, 0))))))))
end
def vernierref12_Exact.f (k : Nat) (a0_0 : Int) (a0_1 : Bool) (a0_2 : Int) (a0_3 : Int) (a0_4 : Int) (a0_5 : Bool) : Option (Int × Bool × Int × Int × Int × Bool × Int) := (vernierref07_Sound.f a0_0 a0_1 a0_2 a0_3 a0_4 a0_5).bind fun t100 => (if t100 = true then (if a0_0 = 2 then (vernierref12_Exact.j0 k true a0_0 a0_2 a0_3 a0_4 a0_5) else (vernierref12_Exact.j0 k a0_1 a0_0 a0_2 a0_3 a0_4 a0_5)) else (some (0, false, 0, 0, 0, false, 1)))
--@ok
noncomputable def vernierref12_Exact.c (k : Nat) : Con := S14.con fun x => vernierref12_Exact.f k x.1 x.2.1 x.2.2.1 x.2.2.2.1 x.2.2.2.2.1 x.2.2.2.2.2
noncomputable def vernierref12_Exact.G (k : Nat) : List (Go.FuncId × Con) := [(30, vernierref07_Sound.c), (31, vernierref12_half.c), (32, vernierref04_Shl.c k), (33, vernierref02_Of.c k), (34, vernierref04_Add.c k), (35, vernierref04_Mul.c k), (36, vernierref04_Cmp.c k), (37, vernierref07_Exactly.c k), (38, vernierref11_Cut.c)]
noncomputable def vernierref12_Exact.cuts : List (Cut (TT S14.sb)) := [⟨[1, 3, 1, 4, 0, 1, 1], [.sc 19 (.bool), .box 1 34 [.int .i64, .bool, .int .i64, .int .u64, .int .u64, .bool], .box 2 34 [.int .i64, .bool, .int .i64, .int .u64, .int .u64, .bool]], fun k x => vernierref12_Exact.j0 k x.1 x.2.1.1 x.2.1.2.2.1 x.2.1.2.2.2.1 x.2.1.2.2.2.2.1 x.2.1.2.2.2.2.2⟩, ⟨[6, 4, 1, 0, 1, 1, 1, 1, 1, 1], [.sc 5 (.int .i64), .sc 6 (.rd .i64), .sc 7 (.rd .i64), .sc 8 (.int .i64), .box 1 34 [.int .i64, .bool, .int .i64, .int .u64, .int .u64, .bool], .box 2 34 [.int .i64, .bool, .int .i64, .int .u64, .int .u64, .bool]], fun k x => vernierref12_Exact.l0 k x.1 x.2.1 x.2.2.1 x.2.2.2.1 x.2.2.2.2.1.2.2.2.2.2⟩]
theorem vernierref12_Exact.w0 (k : Nat) (x : ET [.sc 19 (.bool), .box 1 34 [.int .i64, .bool, .int .i64, .int .u64, .int .u64, .bool], .box 2 34 [.int .i64, .bool, .int .i64, .int .u64, .int .u64, .bool]]) : walk E14 (vernierref12_Exact.G k) (cutsAt k vernierref12_Exact.cuts) (retE E14 Go.Proofs.Tryz.f14.results.toList S14) 4000 true (stackAt B14 [1, 3, 1, 4, 0, 1, 1]) (mkE [.sc 19 (.bool), .box 1 34 [.int .i64, .bool, .int .i64, .int .u64, .int .u64, .bool], .box 2 34 [.int .i64, .bool, .int .i64, .int .u64, .int .u64, .bool]] x St.nil) = vernierref12_Exact.j0 (k + 1) x.1 x.2.1.1 x.2.1.2.2.1 x.2.1.2.2.2.1 x.2.1.2.2.2.2.1 x.2.1.2.2.2.2.2 := by kernel_rfl
theorem vernierref12_Exact.w1 (k : Nat) (x : ET [.sc 5 (.int .i64), .sc 6 (.rd .i64), .sc 7 (.rd .i64), .sc 8 (.int .i64), .box 1 34 [.int .i64, .bool, .int .i64, .int .u64, .int .u64, .bool], .box 2 34 [.int .i64, .bool, .int .i64, .int .u64, .int .u64, .bool]]) : walk E14 (vernierref12_Exact.G k) (cutsAt k vernierref12_Exact.cuts) (retE E14 Go.Proofs.Tryz.f14.results.toList S14) 4000 true (stackAt B14 [6, 4, 1, 0, 1, 1, 1, 1, 1, 1]) (mkE [.sc 5 (.int .i64), .sc 6 (.rd .i64), .sc 7 (.rd .i64), .sc 8 (.int .i64), .box 1 34 [.int .i64, .bool, .int .i64, .int .u64, .int .u64, .bool], .box 2 34 [.int .i64, .bool, .int .i64, .int .u64, .int .u64, .bool]] x St.nil) = vernierref12_Exact.l0 (k + 1) x.1 x.2.1 x.2.2.1 x.2.2.2.1 x.2.2.2.2.1.2.2.2.2.2 := by kernel_rfl
theorem vernierref12_Exact.w (k : Nat) (x : TT S14.sa) : walk E14 (vernierref12_Exact.G k) (cutsAt k vernierref12_Exact.cuts) (retE E14 Go.Proofs.Tryz.f14.results.toList S14) 4000 true [([], .code B14)] (St0 S14 x) = vernierref12_Exact.f k x.1 x.2.1 x.2.2.1 x.2.2.2.1 x.2.2.2.2.1 x.2.2.2.2.2 := by kernel_rfl
theorem vernierref12_Exact.ok (k : Nat) : FnOk Go.Proofs.Tryz.prog E14.eT 14 (vernierref12_Exact.c k) := FnOk.walk (E := E14) (body := B14) Go.Proofs.Tryz.func14 rfl (by rfl) Go.Proofs.Tryz.ntmps14 S14 rfl (fun k x => vernierref12_Exact.f k x.1 x.2.1 x.2.2.1 x.2.2.2.1 x.2.2.2.2.1 x.2.2.2.2.2) vernierref12_Exact.G (fun k => ⟨vernierref07_Sound.ok, vernierref12_half.ok, vernierref04_Shl.ok k, vernierref02_Of.ok k, vernierref04_Add.ok k, vernierref04_Mul.ok k, vernierref04_Cmp.ok k, vernierref07_Exactly.ok k, vernierref11_Cut.ok, trivial⟩) 4000 vernierref12_Exact.cuts ⟨⟨fun _ => rfl, fun k x q h => (vernierref12_Exact.w0 k x).trans h⟩, ⟨fun _ => rfl, fun k x q h => (vernierref12_Exact.w1 k x).trans h⟩, trivial⟩ (fun k x r h => (vernierref12_Exact.w k x).trans h) k
noncomputable def E39 : En := ⟨Go.Proofs.Tryz.prog, 45, Go.Proofs.Tryz.f39.ntmps⟩
noncomputable def S39 : Sig := ⟨[.s, .s], [(.rd .i64), (.rd .i64)], false, [.s], [(.rd .i64)], true⟩
noncomputable def B39 : Go.Code := Go.Proofs.Tryz.f39.body.get!
def vernierref04_Sub.l0 : Nat → List Int → List Int → List Int → Int → Int → Option (List Int)
 | 0, _, _, _, _, _ => none
 | k + 1, x0, x1, x5, x6, x7 => if x7 < (nI x0.length) then (if 0 ≤ x7 then ((vernierref04_digit.f x1 x7).bind fun t100 => (if (wrap64 ((wrap64 ((rd x0 x7) - t100)) - x6)) < 0 then (if x5.length < 17592186044416 then (vernierref04_Sub.l0 k x0 x1 (x5 ++ ([wrap64 ((wrap64 ((wrap64 ((rd x0 x7) - t100)) - x6)) + 16777216)] : List Int)) 1 (wrap64 (x7 + 1))) else (none)) else (if x5.length < 17592186044416 then (vernierref04_Sub.l0 k x0 x1 (x5 ++ ([wrap64 ((wrap64 ((rd x0 x7) - t100)) - x6)] : List Int)) 0 (wrap64 (x7 + 1))) else (none)))) else (none)) else ((vernierref04_Cut.f k x5).bind fun t101 => (some t101))
def vernierref04_Sub.f (k : Nat) (l0 : List Int) (l1 : List Int) : Option (List Int) := vernierref04_Sub.l0 k l0 l1 ([] : List Int) 0 0
--@ok
def vernierref04_Sub.l0R (k : Nat) (x0 : List Int) (x1 : List Int) (x5 : List Int) (x6 : Int) (x7 : Int) : Option (List Int) := if x7 < (nI x0.length) then (if 0 ≤ x7 then (if x7 < (nI x0.length) then ((vernierref04_digit.f x1 x7).bind fun t100 => (if (wrap64 ((wrap64 ((rd x0 x7) - t100)) - x6)) < 0 then (if x5.length < 17592186044416 then (vernierref04_Sub.l0 k x0 x1 (x5 ++ ([wrap64 ((wrap64 ((wrap64 ((rd x0 x7) - t100)) - x6)) + 16777216)] : List Int)) 1 (wrap64 (x7 + 1))) else (none)) else (if x5.length < 17592186044416 then (vernierref04_Sub.l0 k x0 x1 (x5 ++ ([wrap64 ((wrap64 ((rd x0 x7) - t100)) - x6)] : List Int)) 0 (wrap64 (x7 + 1))) else (none)))) else (none)) else (none)) else ((vernierref04_Cut.f k x5).bind fun t101 => (some t101))
theorem vernierref04_Sub.l0E (k : Nat) (x0 : List Int) (x1 : List Int) (x5 : List Int) (x6 : Int) (x7 : Int) : vernierref04_Sub.l0R k x0 x1 x5 x6 x7 = vernierref04_Sub.l0 (k + 1) x0 x1 x5 x6 x7 := by
  unfold vernierref04_Sub.l0R
  rw [vernierref04_Sub.l0]
  exact iteC (fun h0 => iteC (fun h1 => (if_pos h0).trans (bindC fun _ => iteC (fun h2 => iteC (fun h3 => rfl) (fun h3 => rfl)) (fun h2 => iteC (fun h3 => rfl) (fun h3 => rfl)))) (fun h1 => rfl)) (fun h0 => bindC fun _ => rfl)
noncomputable def vernierref04_Sub.c (k : Nat) : Con := S39.con fun x => vernierref04_Sub.f k x.1 x.2
noncomputable def vernierref04_Sub.G (k : Nat) : List (Go.FuncId × Con) := [(66, vernierref04_digit.c), (67, vernierref04_Cut.c k)]
noncomputable def vernierref04_Sub.cuts : List (Cut (TT S39.sb)) := [⟨[6, 4, 1, 0, 1, 1, 1], [.sc 0 (.rd .i64), .sc 1 (.rd .i64), .lst 5 .i64 3, .sc 6 (.int .i64), .sc 7 (.int .i64)], fun k x => vernierref04_Sub.l0 k x.1 x.2.1 x.2.2.1 x.2.2.2.1 x.2.2.2.2⟩]
theorem vernierref04_Sub.w0 (k : Nat) (x : ET [.sc 0 (.rd .i64), .sc 1 (.rd .i64), .lst 5 .i64 3, .sc 6 (.int .i64), .sc 7 (.int .i64)]) : walk E39 (vernierref04_Sub.G k) (cutsAt k vernierref04_Sub.cuts) (retE E39 Go.Proofs.Tryz.f39.results.toList S39) 4000 true (stackAt B39 [6, 4, 1, 0, 1, 1, 1]) (mkE [.sc 0 (.rd .i64), .sc 1 (.rd .i64), .lst 5 .i64 3, .sc 6 (.int .i64), .sc 7 (.int .i64)] x St.nil) = vernierref04_Sub.l0 (k + 1) x.1 x.2.1 x.2.2.1 x.2.2.2.1 x.2.2.2.2 := Eq.trans (b := vernierref04_Sub.l0R k x.1 x.2.1 x.2.2.1 x.2.2.2.1 x.2.2.2.2) (by kernel_rfl) (vernierref04_Sub.l0E k x.1 x.2.1 x.2.2.1 x.2.2.2.1 x.2.2.2.2)
theorem vernierref04_Sub.w (k : Nat) (x : TT S39.sa) : walk E39 (vernierref04_Sub.G k) (cutsAt k vernierref04_Sub.cuts) (retE E39 Go.Proofs.Tryz.f39.results.toList S39) 4000 true [([], .code B39)] (St0 S39 x) = vernierref04_Sub.f k x.1 x.2 := by kernel_rfl
theorem vernierref04_Sub.ok (k : Nat) : FnOk Go.Proofs.Tryz.prog E39.eT 39 (vernierref04_Sub.c k) := FnOk.walk (E := E39) (body := B39) Go.Proofs.Tryz.func39 rfl (by rfl) Go.Proofs.Tryz.ntmps39 S39 rfl (fun k x => vernierref04_Sub.f k x.1 x.2) vernierref04_Sub.G (fun k => ⟨vernierref04_digit.ok, vernierref04_Cut.ok k, trivial⟩) 4000 vernierref04_Sub.cuts ⟨⟨fun _ => rfl, fun k x q h => (vernierref04_Sub.w0 k x).trans h⟩, trivial⟩ (fun k x r h => (vernierref04_Sub.w k x).trans h) k
noncomputable def E15 : En := ⟨Go.Proofs.Tryz.prog, 45, Go.Proofs.Tryz.f15.ntmps⟩
noncomputable def S15 : Sig := ⟨[.g 6, .g 6], [(.int .i64), .bool, (.int .i64), (.int .u64), (.int .u64), .bool, (.int .i64), .bool, (.int .i64), (.int .u64), (.int .u64), .bool], false, [.g 6], [(.int .i64), .bool, (.int .i64), (.int .u64), (.int .u64), .bool], false⟩
noncomputable def B15 : Go.Code := Go.Proofs.Tryz.f15.body.get!
mutual
def vernierref09_Sum_0.j0 : Nat → Bool → Int → Bool → Int → Int → Int → Bool → Int → Bool → Int → Int → Int → Bool → Option (Int × Bool × Int × Int × Int × Bool)
 | 0, _, _, _, _, _, _, _, _, _, _, _, _, _ => none
 | k + 1, x9, x2000, x2001, x2002, x2003, x2004, x2005, x3000, x3001, x3002, x3003, x3004, x3005 => if x9 = true then (some (2, false, 0, 0, 0, false)) else (if x2000 = 0 then (some (x3000, x3001, x3002, x3003, x3004, x3005)) else (if x3000 = 0 then (some (x2000, x2001, x2002, x2003, x2004, x2005)) else (if x2002 < x3002 then (none) else ((vernierref02_Of.f k x2003 x2004).bind fun t100 => ((vernierref02_Of.f k x3003 x3004).bind fun t101 => (if (wrap64 (x2002 - x3002)) > 400 then (vernierref09_Sum_0.j1 k t100 ([1] : List Int) 400 x2001 x2002 x3001) else (vernierref09_Sum_0.j1 k t100 t101 (wrap64 (x2002 - x3002)) x2001 x2002 x3001)))))))
def vernierref09_Sum_0.j1 : Nat → List Int → List Int → Int → Bool → Int → Bool → Option (Int × Bool × Int × Int × Int × Bool)
 | 0, _, _, _, _, _, _ => none
 | k + 1, x5, x6, x7, x2001, x2002, x3001 => (vernierref04_Shl.f k x5 x7).bind fun t102 => (if (x2001 == x3001) = true then ((vernierref04_Add.f k t102 x6).bind fun t103 => ((vernierref07_Exactly.f k x2001 t103 (wrap64 ((wrap64 (x2002 - 127)) - x7)) false).bind fun t104 => (some (t104.1, t104.2.1, t104.2.2.1, t104.2.2.2.1, t104.2.2.2.2.1, t104.2.2.2.2.2)))) else ((vernierref04_Cmp.f k t102 x6).bind fun t105 => (if t105 ≥ 0 then ((vernierref04_Sub.f k t102 x6).bind fun t106 => ((vernierref07_Exactly.f k x2001 t106 (wrap64 ((wrap64 (x2002 - 127)) - x7)) false).bind fun t107 => (some (t107.1, t107.2.1, t107.2.2.1, t107.2.2.2.1, t107.2.2.2.2.1, t107.2.2.2.2.2)))) else ((vernierref04_Sub.f k x6 t102).bind fun t108 => ((vernierref07_Exactly.f k x3001 t108 (wrap64 ((wrap64 (x2002 - 127)) - x7)) false).bind fun t109 => (some (t109.1, t109.2.1, t109.2.2.1, t109.2.2.2.1, t109.2.2.2.2.1, t109.2.2.2.2.2)))))))
end
def vernierref09_Sum_0.f (k : Nat) (a0_0 : Int) (a0_1 : Bool) (a0_2 : Int) (a0_3 : Int) (a0_4 : Int) (a0_5 : Bool) (a1_0 : Int) (a1_1 : Bool) (a1_2 : Int) (a1_3 : Int) (a1_4 : Int) (a1_5 : Bool) : Option (Int × Bool × Int × Int × Int × Bool) := if a0_0 = 2 then (vernierref09_Sum_0.j0 k true a0_0 a0_1 a0_2 a0_3 a0_4 a0_5 a1_0 a1_1 a1_2 a1_3 a1_4 a1_5) else (vernierref09_Sum_0.j0 k (a1_0 == 2) a0_0 a0_1 a0_2 a0_3 a0_4 a0_5 a1_0 a1_1 a1_2 a1_3 a1_4 a1_5)
--@ok
noncomputable def vernierref09_Sum_0.c (k : Nat) : Con := S15.con fun x => vernierref09_Sum_0.f k x.1 x.2.1 x.2.2.1 x.2.2.2.1 x.2.2.2.2.1 x.2.2.2.2.2.1 x.2.2.2.2.2.2.1 x.2.2.2.2.2.2.2.1 x.2.2.2.2.2.2.2.2.1 x.2.2.2.2.2.2.2.2.2.1 x.2.2.2.2.2.2.2.2.2.2.1 x.2.2.2.2.2.2.2.2.2.2.2
noncomputable def vernierref09_Sum_0.G (k : Nat) : List (Go.FuncId × Con) := [(32, vernierref04_Shl.c k), (33, vernierref02_Of.c k), (34, vernierref04_Add.c k), (36, vernierref04_Cmp.c k), (37, vernierref07_Exactly.c k), (39, vernierref04_Sub.c k)]
noncomputable def vernierref09_Sum_0.cuts : List (Cut (TT S15.sb)) := [⟨[1, 4, 0, 1], [.sc 9 (.bool), .box 2 34 [.int .i64, .bool, .int .i64, .int .u64, .int .u64, .bool], .box 3 34 [.int .i64, .bool, .int .i64, .int .u64, .int .u64, .bool], .box 4 34 [.int .i64, .bool, .int .i64, .int .u64, .int .u64, .bool]], fun k x => vernierref09_Sum_0.j0 k x.1 x.2.1.1 x.2.1.2.1 x.2.1.2.2.1 x.2.1.2.2.2.1 x.2.1.2.2.2.2.1 x.2.1.2.2.2.2.2 x.2.2.1.1 x.2.2.1.2.1 x.2.2.1.2.2.1 x.2.2.1.2.2.2.1 x.2.2.1.2.2.2.2.1 x.2.2.1.2.2.2.2.2⟩, ⟨[1, 1, 1, 1, 1, 1], [.sc 5 (.rd .i64), .sc 6 (.rd .i64), .sc 7 (.int .i64), .box 2 34 [.int .i64, .bool, .int .i64, .int .u64, .int .u64, .bool], .box 3 34 [.int .i64, .bool, .int .i64, .int .u64, .int .u64, .bool], .box 4 34 [.int .i64, .bool, .int .i64, .int .u64, .int .u64, .bool]], fun k x => vernierref09_Sum_0.j1 k x.1 x.2.1 x.2.2.1 x.2.2.2.1.2.1 x.2.2.2.1.2.2.1 x.2.2.2.2.1.2.1⟩]
theorem vernierref09_Sum_0.w0 (k : Nat) (x : ET [.sc 9 (.bool), .box 2 34 [.int .i64, .bool, .int .i64, .int .u64, .int .u64, .bool], .box 3 34 [.int .i64, .bool, .int .i64, .int .u64, .int .u64, .bool], .box 4 34 [.int .i64, .bool, .int .i64, .int .u64, .int .u64, .bool]]) : walk E15 (vernierref09_Sum_0.G k) (cutsAt k vernierref09_Sum_0.cuts) (retE E15 Go.Proofs.Tryz.f15.results.toList S15) 4000 true (stackAt B15 [1, 4, 0, 1]) (mkE [.sc 9 (.bool), .box 2 34 [.int .i64, .bool, .int .i64, .int .u64, .int .u64, .bool], .box 3 34 [.int .i64, .bool, .int .i64, .int .u64, .int .u64, .bool], .box 4 34 [.int .i64, .bool, .int .i64, .int .u64, .int .u64, .bool]] x St.nil) = vernierref09_Sum_0.j0 (k + 1) x.1 x.2.1.1 x.2.1.2.1 x.2.1.2.2.1 x.2.1.2.2.2.1 x.2.1.2.2.2.2.1 x.2.1.2.2.2.2.2 x.2.2.1.1 x.2.2.1.2.1 x.2.2.1.2.2.1 x.2.2.1.2.2.2.1 x.2.2.1.2.2.2.2.1 x.2.2.1.2.2.2.2.2 := by kernel_rfl
theorem vernierref09_Sum_0.w1 (k : Nat) (x : ET [.sc 5 (.rd .i64), .sc 6 (.rd .i64), .sc 7 (.int .i64), .box 2 34 [.int .i64, .bool, .int .i64, .int .u64, .int .u64, .bool], .box 3 34 [.int .i64, .bool, .int .i64, .int .u64, .int .u64, .bool], .box 4 34 [.int .i64, .bool, .int .i64, .int .u64, .int .u64, .bool]]) : walk E15 (vernierref09_Sum_0.G k) (cutsAt k vernierref09_Sum_0.cuts) (retE E15 Go.Proofs.Tryz.f15.results.toList S15) 4000 true (stackAt B15 [1, 1, 1, 1, 1, 1]) (mkE [.sc 5 (.rd .i64), .sc 6 (.rd .i64), .sc 7 (.int .i64), .box 2 34 [.int .i64, .bool, .int .i64, .int .u64, .int .u64, .bool], .box 3 34 [.int .i64, .bool, .int .i64, .int .u64, .int .u64, .bool], .box 4 34 [.int .i64, .bool, .int .i64, .int .u64, .int .u64, .bool]] x St.nil) = vernierref09_Sum_0.j1 (k + 1) x.1 x.2.1 x.2.2.1 x.2.2.2.1.2.1 x.2.2.2.1.2.2.1 x.2.2.2.2.1.2.1 := by kernel_rfl
theorem vernierref09_Sum_0.w (k : Nat) (x : TT S15.sa) : walk E15 (vernierref09_Sum_0.G k) (cutsAt k vernierref09_Sum_0.cuts) (retE E15 Go.Proofs.Tryz.f15.results.toList S15) 4000 true [([], .code B15)] (St0 S15 x) = vernierref09_Sum_0.f k x.1 x.2.1 x.2.2.1 x.2.2.2.1 x.2.2.2.2.1 x.2.2.2.2.2.1 x.2.2.2.2.2.2.1 x.2.2.2.2.2.2.2.1 x.2.2.2.2.2.2.2.2.1 x.2.2.2.2.2.2.2.2.2.1 x.2.2.2.2.2.2.2.2.2.2.1 x.2.2.2.2.2.2.2.2.2.2.2 := by kernel_rfl
theorem vernierref09_Sum_0.ok (k : Nat) : FnOk Go.Proofs.Tryz.prog E15.eT 15 (vernierref09_Sum_0.c k) := FnOk.walk (E := E15) (body := B15) Go.Proofs.Tryz.func15 rfl (by rfl) Go.Proofs.Tryz.ntmps15 S15 rfl (fun k x => vernierref09_Sum_0.f k x.1 x.2.1 x.2.2.1 x.2.2.2.1 x.2.2.2.2.1 x.2.2.2.2.2.1 x.2.2.2.2.2.2.1 x.2.2.2.2.2.2.2.1 x.2.2.2.2.2.2.2.2.1 x.2.2.2.2.2.2.2.2.2.1 x.2.2.2.2.2.2.2.2.2.2.1 x.2.2.2.2.2.2.2.2.2.2.2) vernierref09_Sum_0.G (fun k => ⟨vernierref04_Shl.ok k, vernierref02_Of.ok k, vernierref04_Add.ok k, vernierref04_Cmp.ok k, vernierref07_Exactly.ok k, vernierref04_Sub.ok k, trivial⟩) 4000 vernierref09_Sum_0.cuts ⟨⟨fun _ => rfl, fun k x q h => (vernierref09_Sum_0.w0 k x).trans h⟩, ⟨fun _ => rfl, fun k x q h => (vernierref09_Sum_0.w1 k x).trans h⟩, trivial⟩ (fun k x r h => (vernierref09_Sum_0.w k x).trans h) k
mutual
def vernierref09_Sum.j0 : Nat → Bool → Int → Bool → Int → Int → Int → Bool → Int → Bool → Int → Int → Int → Bool → Option (Int × Bool × Int × Int × Int × Bool)
 | 0, _, _, _, _, _, _, _, _, _, _, _, _, _ => none
 | k + 1, x9, x2000, x2001, x2002, x2003, x2004, x2005, x3000, x3001, x3002, x3003, x3004, x3005 => if x9 = true then (some (2, false, 0, 0, 0, false)) else (if x2000 = 0 then (some (x3000, x3001, x3002, x3003, x3004, x3005)) else (if x3000 = 0 then (some (x2000, x2001, x2002, x2003, x2004, x2005)) else (if x2002 < x3002 then ((vernierref09_Sum_0.f k x3000 x3001 x3002 x3003 x3004 x3005 x2000 x2001 x2002 x2003 x2004 x2005).bind fun t100 => (some (t100.1, t100.2.1, t100.2.2.1, t100.2.2.2.1, t100.2.2.2.2.1, t100.2.2.2.2.2))) else ((vernierref02_Of.f k x2003 x2004).bind fun t101 => ((vernierref02_Of.f k x3003 x3004).bind fun t102 => (if (wrap64 (x2002 - x3002)) > 400 then (vernierref09_Sum.j1 k t101 ([1] : List Int) 400 x2001 x2002 x3001) else (vernierref09_Sum.j1 k t101 t102 (wrap64 (x2002 - x3002)) x2001 x2002 x3001)))))))
def vernierref09_Sum.j1 : Nat → List Int → List Int → Int → Bool → Int → Bool → Option (Int × Bool × Int × Int × Int × Bool)
 | 0, _, _, _, _, _, _ => none
 | k + 1, x5, x6, x7, x2001, x2002, x3001 => (vernierref04_Shl.f k x5 x7).bind fun t103 => (if (x2001 == x3001) = true then ((vernierref04_Add.f k t103 x6).bind fun t104 => ((vernierref07_Exactly.f k x2001 t104 (wrap64 ((wrap64 (x2002 - 127)) - x7)) false).bind fun t105 => (some (t105.1, t105.2.1, t105.2.2.1, t105.2.2.2.1, t105.2.2.2.2.1, t105.2.2.2.2.2)))) else ((vernierref04_Cmp.f k t103 x6).bind fun t106 => (if t106 ≥ 0 then ((vernierref04_Sub.f k t103 x6).bind fun t107 => ((vernierref07_Exactly.f k x2001 t107 (wrap64 ((wrap64 (x2002 - 127)) - x7)) false).bind fun t108 => (some (t108.1, t108.2.1, t108.2.2.1, t108.2.2.2.1, t108.2.2.2.2.1, t108.2.2.2.2.2)))) else ((vernierref04_Sub.f k x6 t103).bind fun t109 => ((vernierref07_Exactly.f k x3001 t109 (wrap64 ((wrap64 (x2002 - 127)) - x7)) false).bind fun t110 => (some (t110.1, t110.2.1, t110.2.2.1, t110.2.2.2.1, t110.2.2.2.2.1, t110.2.2.2.2.2)))))))
end
def vernierref09_Sum.f (k : Nat) (a0_0 : Int) (a0_1 : Bool) (a0_2 : Int) (a0_3 : Int) (a0_4 : Int) (a0_5 : Bool) (a1_0 : Int) (a1_1 : Bool) (a1_2 : Int) (a1_3 : Int) (a1_4 : Int) (a1_5 : Bool) : Option (Int × Bool × Int × Int × Int × Bool) := if a0_0 = 2 then (vernierref09_Sum.j0 k true a0_0 a0_1 a0_2 a0_3 a0_4 a0_5 a1_0 a1_1 a1_2 a1_3 a1_4 a1_5) else (vernierref09_Sum.j0 k (a1_0 == 2) a0_0 a0_1 a0_2 a0_3 a0_4 a0_5 a1_0 a1_1 a1_2 a1_3 a1_4 a1_5)
--@ok
noncomputable def vernierref09_Sum.c (k : Nat) : Con := S15.con fun x => vernierref09_Sum.f k x.1 x.2.1 x.2.2.1 x.2.2.2.1 x.2.2.2.2.1 x.2.2.2.2.2.1 x.2.2.2.2.2.2.1 x.2.2.2.2.2.2.2.1 x.2.2.2.2.2.2.2.2.1 x.2.2.2.2.2.2.2.2.2.1 x.2.2.2.2.2.2.2.2.2.2.1 x.2.2.2.2.2.2.2.2.2.2.2
noncomputable def vernierref09_Sum.G (k : Nat) : List (Go.FuncId × Con) := [(32, vernierref04_Shl.c k), (33, vernierref02_Of.c k), (34, vernierref04_Add.c k), (36, vernierref04_Cmp.c k), (37, vernierref07_Exactly.c k), (39, vernierref04_Sub.c k), (15, vernierref09_Sum_0.c k)]
noncomputable def vernierref09_Sum.cuts : List (Cut (TT S15.sb)) := [⟨[1, 4, 0, 1], [.sc 9 (.bool), .box 2 34 [.int .i64, .bool, .int .i64, .int .u64, .int .u64, .bool], .box 3 34 [.int .i64, .bool, .int .i64, .int .u64, .int .u64, .bool], .box 4 34 [.int .i64, .bool, .int .i64, .int .u64, .int .u64, .bool]], fun k x => vernierref09_Sum.j0 k x.1 x.2.1.1 x.2.1.2.1 x.2.1.2.2.1 x.2.1.2.2.2.1 x.2.1.2.2.2.2.1 x.2.1.2.2.2.2.2 x.2.2.1.1 x.2.2.1.2.1 x.2.2.1.2.2.1 x.2.2.1.2.2.2.1 x.2.2.1.2.2.2.2.1 x.2.2.1.2.2.2.2.2⟩, ⟨[1, 1, 1, 1, 1, 1], [.sc 5 (.rd .i64), .sc 6 (.rd .i64), .sc 7 (.int .i64), .box 2 34 [.int .i64, .bool, .int .i64, .int .u64, .int .u64, .bool], .box 3 34 [.int .i64, .bool, .int .i64, .int .u64, .int .u64, .bool], .box 4 34 [.int .i64, .bool, .int .i64, .int .u64, .int .u64, .bool]], fun k x => vernierref09_Sum.j1 k x.1 x.2.1 x.2.2.1 x.2.2.2.1.2.1 x.2.2.2.1.2.2.1 x.2.2.2.2.1.2.1⟩]
theorem vernierref09_Sum.w0 (k : Nat) (x : ET [.sc 9 (.bool), .box 2 34 [.int .i64, .bool, .int .i64, .int .u64, .int .u64, .bool], .box 3 34 [.int .i64, .bool, .int .i64, .int .u64, .int .u64, .bool], .box 4 34 [.int .i64, .bool, .int .i64, .int .u64, .int .u64, .bool]]) : walk E15 (vernierref09_Sum.G k) (cutsAt k vernierref09_Sum.cuts) (retE E15 Go.Proofs.Tryz.f15.results.toList S15) 4000 true (stackAt B15 [1, 4, 0, 1]) (mkE [.sc 9 (.bool), .box 2 34 [.int .i64, .bool, .int .i64, .int .u64, .int .u64, .bool], .box 3 34 [.int .i64, .bool, .int .i64, .int .u64, .int .u64, .bool], .box 4 34 [.int .i64, .bool, .int .i64, .int .u64, .int .u64, .bool]] x St.nil) = vernierref09_Sum.j0 (k + 1) x.1 x.2.1.1 x.2.1.2.1 x.2.1.2.2.1 x.2.1.2.2.2.1 x.2.1.2.2.2.2.1 x.2.1.2.2.2.2.2 x.2.2.1.1 x.2.2.1.2.1 x.2.2.1.2.2.1 x.2.2.1.2.2.2.1 x.2.2.1.2.2.2.2.1 x.2.2.1.2.2.2.2.2 := by kernel_rfl
theorem vernierref09_Sum.w1 (k : Nat) (x : ET [.sc 5 (.rd .i64), .sc 6 (.rd .i64), .sc 7 (.int .i64), .box 2 34 [.int .i64, .bool, .int .i64, .int .u64, .int .u64, .bool], .box 3 34 [.int .i64, .bool, .int .i64, .int .u64, .int .u64, .bool], .box 4 34 [.int .i64, .bool, .int .i64, .int .u64, .int .u64, .bool]]) : walk E15 (vernierref09_Sum.G k) (cutsAt k vernierref09_Sum.cuts) (retE E15 Go.Proofs.Tryz.f15.results.toList S15) 4000 true (stackAt B15 [1, 1, 1, 1, 1, 1]) (mkE [.sc 5 (.rd .i64), .sc 6 (.rd .i64), .sc 7 (.int .i64), .box 2 34 [.int .i64, .bool, .int .i64, .int .u64, .int .u64, .bool], .box 3 34 [.int .i64, .bool, .int .i64, .int .u64, .int .u64, .bool], .box 4 34 [.int .i64, .bool, .int .i64, .int .u64, .int .u64, .bool]] x St.nil) = vernierref09_Sum.j1 (k + 1) x.1 x.2.1 x.2.2.1 x.2.2.2.1.2.1 x.2.2.2.1.2.2.1 x.2.2.2.2.1.2.1 := by kernel_rfl
theorem vernierref09_Sum.w (k : Nat) (x : TT S15.sa) : walk E15 (vernierref09_Sum.G k) (cutsAt k vernierref09_Sum.cuts) (retE E15 Go.Proofs.Tryz.f15.results.toList S15) 4000 true [([], .code B15)] (St0 S15 x) = vernierref09_Sum.f k x.1 x.2.1 x.2.2.1 x.2.2.2.1 x.2.2.2.2.1 x.2.2.2.2.2.1 x.2.2.2.2.2.2.1 x.2.2.2.2.2.2.2.1 x.2.2.2.2.2.2.2.2.1 x.2.2.2.2.2.2.2.2.2.1 x.2.2.2.2.2.2.2.2.2.2.1 x.2.2.2.2.2.2.2.2.2.2.2 := by kernel_rfl
theorem vernierref09_Sum.ok (k : Nat) : FnOk Go.Proofs.Tryz.prog E15.eT 15 (vernierref09_Sum.c k) := FnOk.walk (E := E15) (body := B15) Go.Proofs.Tryz.func15 rfl (by rfl) Go.Proofs.Tryz.ntmps15 S15 rfl (fun k x => vernierref09_Sum.f k x.1 x.2.1 x.2.2.1 x.2.2.2.1 x.2.2.2.2.1 x.2.2.2.2.2.1 x.2.2.2.2.2.2.1 x.2.2.2.2.2.2.2.1 x.2.2.2.2.2.2.2.2.1 x.2.2.2.2.2.2.2.2.2.1 x.2.2.2.2.2.2.2.2.2.2.1 x.2.2.2.2.2.2.2.2.2.2.2) vernierref09_Sum.G (fun k => ⟨vernierref04_Shl.ok k, vernierref02_Of.ok k, vernierref04_Add.ok k, vernierref04_Cmp.ok k, vernierref07_Exactly.ok k, vernierref04_Sub.ok k, vernierref09_Sum_0.ok k, trivial⟩) 4000 vernierref09_Sum.cuts ⟨⟨fun _ => rfl, fun k x q h => (vernierref09_Sum.w0 k x).trans h⟩, ⟨fun _ => rfl, fun k x q h => (vernierref09_Sum.w1 k x).trans h⟩, trivial⟩ (fun k x r h => (vernierref09_Sum.w k x).trans h) k
noncomputable def E73 : En := ⟨Go.Proofs.Tryz.prog, 45, Go.Proofs.Tryz.f73.ntmps⟩
noncomputable def S73 : Sig := ⟨[.g 4], [(.int .i64), .bool, (.int .i64), (.int .u64)], false, [.s], [.bool], false⟩
noncomputable def B73 : Go.Code := Go.Proofs.Tryz.f73.body.get!
def vernierref06_Sound.f (a0_0 : Int) (a0_1 : Bool) (a0_2 : Int) (a0_3 : Int) : Option (Bool) := if a0_0 = 0 then (some ((a0_0 == a0_0) && ((!a0_1) && ((a0_2 == 0) && (a0_3 == 0))))) else (if a0_0 = 2 then (some ((a0_0 == a0_0) && ((!a0_1) && ((a0_2 == 0) && (a0_3 == 0))))) else (if a0_0 = 1 then (if a0_3 ≥ 9223372036854775808 then (if a0_2 ≥ (-1073741824) then (some (decide (a0_2 ≤ 1073741824))) else (some false)) else (some false)) else (some false)))
--@ok
noncomputable def vernierref06_Sound.c : Con := S73.con fun x => vernierref06_Sound.f x.1 x.2.1 x.2.2.1 x.2.2.2
noncomputable def vernierref06_Sound.G (k : Nat) : List (Go.FuncId × Con) := []
noncomputable def vernierref06_Sound.cuts : List (Cut (TT S73.sb)) := []
theorem vernierref06_Sound.w (k : Nat) (x : TT S73.sa) : walk E73 (vernierref06_Sound.G k) (cutsAt k vernierref06_Sound.cuts) (retE E73 Go.Proofs.Tryz.f73.results.toList S73) 4000 true [([], .code B73)] (St0 S73 x) = vernierref06_Sound.f x.1 x.2.1 x.2.2.1 x.2.2.2 := by kernel_rfl
theorem vernierref06_Sound.ok : FnOk Go.Proofs.Tryz.prog E73.eT 73 (vernierref06_Sound.c) := FnOk.walk (E := E73) (body := B73) Go.Proofs.Tryz.func73 rfl (by rfl) Go.Proofs.Tryz.ntmps73 S73 rfl (fun k x => vernierref06_Sound.f x.1 x.2.1 x.2.2.1 x.2.2.2) vernierref06_Sound.G (fun k => trivial) 4000 vernierref06_Sound.cuts trivial (fun k x r h => (vernierref06_Sound.w k x).trans h) 0
noncomputable def E74 : En := ⟨Go.Proofs.Tryz.prog, 45, Go.Proofs.Tryz.f74.ntmps⟩
noncomputable def S74 : Sig := ⟨[.s], [(.int .u64)], false, [.s], [(.rd .i64)], true⟩
noncomputable def B74 : Go.Code := Go.Proofs.Tryz.f74.body.get!
def vernierref04_Of.l0 : Nat → Int → List Int → Option (List Int)
 | 0, _, _ => none
 | k + 1, x0, x3 => if x0 > 0 then (if x3.length < 17592186044416 then (vernierref04_Of.l0 k (IntKind.u64.wrap (Int.tdiv x0 16777216)) (x3 ++ ([wrap64 (Int.tmod x0 16777216)] : List Int))) else (none)) else (some x3)
def vernierref04_Of.f (k : Nat) (a0 : Int) : Option (List Int) := vernierref04_Of.l0 k a0 ([] : List Int)
--@ok
noncomputable def vernierref04_Of.c (k : Nat) : Con := S74.con fun x => vernierref04_Of.f k x
noncomputable def vernierref04_Of.G (k : Nat) : List (Go.FuncId × Con) := []
noncomputable def vernierref04_Of.cuts : List (Cut (TT S74.sb)) := [⟨[6, 4, 0, 1, 1], [.sc 0 (.int .u64), .lst 3 .i64 3], fun k x => vernierref04_Of.l0 k x.1 x.2⟩]
theorem vernierref04_Of.w0 (k : Nat) (x : ET [.sc 0 (.int .u64), .lst 3 .i64 3]) : walk E74 (vernierref04_Of.G k) (cutsAt k vernierref04_Of.cuts) (retE E74 Go.Proofs.Tryz.f74.results.toList S74) 4000 true (stackAt B74 [6, 4, 0, 1, 1]) (mkE [.sc 0 (.int .u64), .lst 3 .i64 3] x St.nil) = vernierref04_Of.l0 (k + 1) x.1 x.2 := by kernel_rfl
theorem vernierref04_Of.w (k : Nat) (x : TT S74.sa) : walk E74 (vernierref04_Of.G k) (cutsAt k vernierref04_Of.cuts) (retE E74 Go.Proofs.Tryz.f74.results.toList S74) 4000 true [([], .code B74)] (St0 S74 x) = vernierref04_Of.f k x := by kernel_rfl
theorem vernierref04_Of.ok (k : Nat) : FnOk Go.Proofs.Tryz.prog E74.eT 74 (vernierref04_Of.c k) := FnOk.walk (E := E74) (body := B74) Go.Proofs.Tryz.func74 rfl (by rfl) Go.Proofs.Tryz.ntmps74 S74 rfl (fun k x => vernierref04_Of.f k x) vernierref04_Of.G (fun k => trivial) 4000 vernierref04_Of.cuts ⟨⟨fun _ => rfl, fun k x q h => (vernierref04_Of.w0 k x).trans h⟩, trivial⟩ (fun k x r h => (vernierref04_Of.w k x).trans h) k
noncomputable def E40 : En := ⟨Go.Proofs.Tryz.prog, 45, Go.Proofs.Tryz.f40.ntmps⟩
noncomputable def S40 : Sig := ⟨[.g 4, .g 4], [(.int .i64), .bool, (.int .i64), (.int .u64), (.int .i64), .bool, (.int .i64), (.int .u64)], true, [.g 6, .s], [(.int .i64), .bool, (.int .i64), (.int .u64), (.int .u64), .bool, (.int .i64)], false⟩
noncomputable def B40 : Go.Code := Go.Proofs.Tryz.f40.body.get!
mutual
def vernierref10_Exact.j0 : Nat → Bool → Int → Bool → Int → Int → Int → Bool → Int → Int → Option (Int × Bool × Int × Int × Int × Bool × Int)
 | 0, _, _, _, _, _, _, _, _, _ => none
 | k + 1, x13, x2000, x2001, x2002, x2003, x3000, x3001, x3002, x3003 => if x13 = true then (some (0, false, 0, 0, 0, false, 1)) else (if x2000 = 2 then (vernierref10_Exact.j1 k true x2000 x2001 x2002 x2003 x3000 x3001 x3002 x3003) else (vernierref10_Exact.j1 k (x3000 == 2) x2000 x2001 x2002 x2003 x3000 x3001 x3002 x3003))
def vernierref10_Exact.j1 : Nat → Bool → Int → Bool → Int → Int → Int → Bool → Int → Int → Option (Int × Bool × Int × Int × Int × Bool × Int)
 | 0, _, _, _, _, _, _, _, _, _ => none
 | k + 1, x21, x2000, x2001, x2002, x2003, x3000, x3001, x3002, x3003 => if x21 = true then (some (2, false, 0, 0, 0, false, 0)) else (if x2000 = 0 then (vernierref10_Exact.j2 k true x2001 x2002 x2003 x3001 x3002 x3003) else (vernierref10_Exact.j2 k (x3000 == 0) x2001 x2002 x2003 x3001 x3002 x3003))
def vernierref10_Exact.j2 : Nat → Bool → Bool → Int → Int → Bool → Int → Int → Option (Int × Bool × Int × Int × Int × Bool × Int)
 | 0, _, _, _, _, _, _, _ => none
 | k + 1, x31, x2001, x2002, x2003, x3001, x3002, x3003 => if x31 = true then (some (0, false, 0, 0, 0, false, 0)) else ((vernierref04_Of.f k x2003).bind fun t102 => ((vernierref04_Of.f k x3003).bind fun t103 => ((vernierref04_Mul.f k t102 t103).bind fun t104 => ((vernierref07_Exactly.f k (!(x2001 == x3001)) t104 (wrap64 ((wrap64 (x2002 + x3002)) - 126)) false).bind fun t105 => (some (t105.1, t105.2.1, t105.2.2.1, t105.2.2.2.1, t105.2.2.2.2.1, t105.2.2.2.2.2, 0))))))
end
def vernierref10_Exact.f (k : Nat) (a0_0 : Int) (a0_1 : Bool) (a0_2 : Int) (a0_3 : Int) (a1_0 : Int) (a1_1 : Bool) (a1_2 : Int) (a1_3 : Int) : Option (Int × Bool × Int × Int × Int × Bool × Int) := (vernierref06_Sound.f a0_0 a0_1 a0_2 a0_3).bind fun t100 => ((vernierref06_Sound.f a1_0 a1_1 a1_2 a1_3).bind fun t101 => (if t100 = true then (vernierref10_Exact.j0 k (!t101) a0_0 a0_1 a0_2 a0_3 a1_0 a1_1 a1_2 a1_3) else (vernierref10_Exact.j0 k true a0_0 a0_1 a0_2 a0_3 a1_0 a1_1 a1_2 a1_3)))
--@ok
noncomputable def vernierref10_Exact.c (k : Nat) : Con := S40.con fun x => vernierref10_Exact.f k x.1 x.2.1 x.2.2.1 x.2.2.2.1 x.2.2.2.2.1 x.2.2.2.2.2.1 x.2.2.2.2.2.2.1 x.2.2.2.2.2.2.2
noncomputable def vernierref10_Exact.G (k : Nat) : List (Go.FuncId × Con) := [(35, vernierref04_Mul.c k), (37, vernierref07_Exactly.c k), (73, vernierref06_Sound.c), (74, vernierref04_Of.c k)]
noncomputable def vernierref10_Exact.cuts : List (Cut (TT S40.sb)) := [⟨[1, 4, 0, 1, 1, 1], [.sc 13 (.bool), .box 2 47 [.int .i64, .bool, .int .i64, .int .u64], .box 3 47 [.int .i64, .bool, .int .i64, .int .u64], .box 4 34 [.int .i64, .bool, .int .i64, .int .u64, .int .u64, .bool]], fun k x => vernierref10_Exact.j0 k x.1 x.2.1.1 x.2.1.2.1 x.2.1.2.2.1 x.2.1.2.2.2 x.2.2.1.1 x.2.2.1.2.1 x.2.2.1.2.2.1 x.2.2.1.2.2.2⟩, ⟨[1, 3, 1, 4, 0, 1, 1, 1], [.sc 21 (.bool), .box 2 47 [.int .i64, .bool, .int .i64, .int .u64], .box 3 47 [.int .i64, .bool, .int .i64, .int .u64], .box 4 34 [.int .i64, .bool, .int .i64, .int .u64, .int .u64, .bool]], fun k x => vernierref10_Exact.j1 k x.1 x.2.1.1 x.2.1.2.1 x.2.1.2.2.1 x.2.1.2.2.2 x.2.2.1.1 x.2.2.1.2.1 x.2.2.1.2.2.1 x.2.2.1.2.2.2⟩, ⟨[1, 3, 1, 3, 1, 4, 0, 1, 1, 1], [.sc 31 (.bool), .box 2 47 [.int .i64, .bool, .int .i64, .int .u64], .box 3 47 [.int .i64, .bool, .int .i64, .int .u64], .box 4 34 [.int .i64, .bool, .int .i64, .int .u64, .int .u64, .bool]], fun k x => vernierref10_Exact.j2 k x.1 x.2.1.2.1 x.2.1.2.2.1 x.2.1.2.2.2 x.2.2.1.2.1 x.2.2.1.2.2.1 x.2.2.1.2.2.2⟩]
theorem vernierref10_Exact.w0 (k : Nat) (x : ET [.sc 13 (.bool), .box 2 47 [.int .i64, .bool, .int .i64, .int .u64], .box 3 47 [.int .i64, .bool, .int .i64, .int .u64], .box 4 34 [.int .i64, .bool, .int .i64, .int .u64, .int .u64, .bool]]) : walk E40 (vernierref10_Exact.G k) (cutsAt k vernierref10_Exact.cuts) (retE E40 Go.Proofs.Tryz.f40.results.toList S40) 4000 true (stackAt B40 [1, 4, 0, 1, 1, 1]) (mkE [.sc 13 (.bool), .box 2 47 [.int .i64, .bool, .int .i64, .int .u64], .box 3 47 [.int .i64, .bool, .int .i64, .int .u64], .box 4 34 [.int .i64, .bool, .int .i64, .int .u64, .int .u64, .bool]] x St.nil) = vernierref10_Exact.j0 (k + 1) x.1 x.2.1.1 x.2.1.2.1 x.2.1.2.2.1 x.2.1.2.2.2 x.2.2.1.1 x.2.2.1.2.1 x.2.2.1.2.2.1 x.2.2.1.2.2.2 := by kernel_rfl
theorem vernierref10_Exact.w1 (k : Nat) (x : ET [.sc 21 (.bool), .box 2 47 [.int .i64, .bool, .int .i64, .int .u64], .box 3 47 [.int .i64, .bool, .int .i64, .int .u64], .box 4 34 [.int .i64, .bool, .int .i64, .int .u64, .int .u64, .bool]]) : walk E40 (vernierref10_Exact.G k) (cutsAt k vernierref10_Exact.cuts) (retE E40 Go.Proofs.Tryz.f40.results.toList S40) 4000 true (stackAt B40 [1, 3, 1, 4, 0, 1, 1, 1]) (mkE [.sc 21 (.bool), .box 2 47 [.int .i64, .bool, .int .i64, .int .u64], .box 3 47 [.int .i64, .bool, .int .i64, .int .u64], .box 4 34 [.int .i64, .bool, .int .i64, .int .u64, .int .u64, .bool]] x St.nil) = vernierref10_Exact.j1 (k + 1) x.1 x.2.1.1 x.2.1.2.1 x.2.1.2.2.1 x.2.1.2.2.2 x.2.2.1.1 x.2.2.1.2.1 x.2.2.1.2.2.1 x.2.2.1.2.2.2 := by kernel_rfl
theorem vernierref10_Exact.w2 (k : Nat) (x : ET [.sc 31 (.bool), .box 2 47 [.int .i64, .bool, .int .i64, .int .u64], .box 3 47 [.int .i64, .bool, .int .i64, .int .u64], .box 4 34 [.int .i64, .bool, .int .i64, .int .u64, .int .u64, .bool]]) : walk E40 (vernierref10_Exact.G k) (cutsAt k vernierref10_Exact.cuts) (retE E40 Go.Proofs.Tryz.f40.results.toList S40) 4000 true (stackAt B40 [1, 3, 1, 3, 1, 4, 0, 1, 1, 1]) (mkE [.sc 31 (.bool), .box 2 47 [.int .i64, .bool, .int .i64, .int .u64], .box 3 47 [.int .i64, .bool, .int .i64, .int .u64], .box 4 34 [.int .i64, .bool, .int .i64, .int .u64, .int .u64, .bool]] x St.nil) = vernierref10_Exact.j2 (k + 1) x.1 x.2.1.2.1 x.2.1.2.2.1 x.2.1.2.2.2 x.2.2.1.2.1 x.2.2.1.2.2.1 x.2.2.1.2.2.2 := by kernel_rfl
theorem vernierref10_Exact.w (k : Nat) (x : TT S40.sa) : walk E40 (vernierref10_Exact.G k) (cutsAt k vernierref10_Exact.cuts) (retE E40 Go.Proofs.Tryz.f40.results.toList S40) 4000 true [([], .code B40)] (St0 S40 x) = vernierref10_Exact.f k x.1 x.2.1 x.2.2.1 x.2.2.2.1 x.2.2.2.2.1 x.2.2.2.2.2.1 x.2.2.2.2.2.2.1 x.2.2.2.2.2.2.2 := by kernel_rfl
theorem vernierref10_Exact.ok (k : Nat) : FnOk Go.Proofs.Tryz.prog E40.eT 40 (vernierref10_Exact.c k) := FnOk.walk (E := E40) (body := B40) Go.Proofs.Tryz.func40 rfl (by rfl) Go.Proofs.Tryz.ntmps40 S40 rfl (fun k x => vernierref10_Exact.f k x.1 x.2.1 x.2.2.1 x.2.2.2.1 x.2.2.2.2.1 x.2.2.2.2.2.1 x.2.2.2.2.2.2.1 x.2.2.2.2.2.2.2) vernierref10_Exact.G (fun k => ⟨vernierref04_Mul.ok k, vernierref07_Exactly.ok k, vernierref06_Sound.ok, vernierref04_Of.ok k, trivial⟩) 4000 vernierref10_Exact.cuts ⟨⟨fun _ => rfl, fun k x q h => (vernierref10_Exact.w0 k x).trans h⟩, ⟨fun _ => rfl, fun k x q h => (vernierref10_Exact.w1 k x).trans h⟩, ⟨fun _ => rfl, fun k x q h => (vernierref10_Exact.w2 k x).trans h⟩, trivial⟩ (fun k x r h => (vernierref10_Exact.w k x).trans h) k
noncomputable def E94 : En := ⟨Go.Proofs.Tryz.prog, 45, Go.Proofs.Tryz.f94.ntmps⟩
noncomputable def S94 : Sig := ⟨[.s], [(.int .i64)], false, [.s], [(.int .u64)], false⟩
noncomputable def B94 : Go.Code := Go.Proofs.Tryz.f94.body.get!
def vernierref05_Power.l0 : Nat → Int → Int → Int → Option (Int)
 | 0, _, _, _ => none
 | k + 1, x0, x3, x4 => if x4 < x0 then (vernierref05_Power.l0 k x0 (IntKind.u64.wrap (2 * x3)) (wrap64 (x4 + 1))) else (some x3)
def vernierref05_Power.f (k : Nat) (a0 : Int) : Option (Int) := vernierref05_Power.l0 k a0 1 0
--@ok
noncomputable def vernierref05_Power.c (k : Nat) : Con := S94.con fun x => vernierref05_Power.f k x
noncomputable def vernierref05_Power.G (k : Nat) : List (Go.FuncId × Con) := []
noncomputable def vernierref05_Power.cuts : List (Cut (TT S94.sb)) := [⟨[6, 4, 1, 0, 1, 1], [.sc 0 (.int .i64), .sc 3 (.int .u64), .sc 4 (.int .i64)], fun k x => vernierref05_Power.l0 k x.1 x.2.1 x.2.2⟩]
theorem vernierref05_Power.w0 (k : Nat) (x : ET [.sc 0 (.int .i64), .sc 3 (.int .u64), .sc 4 (.int .i64)]) : walk E94 (vernierref05_Power.G k) (cutsAt k vernierref05_Power.cuts) (retE E94 Go.Proofs.Tryz.f94.results.toList S94) 4000 true (stackAt B94 [6, 4, 1, 0, 1, 1]) (mkE [.sc 0 (.int .i64), .sc 3 (.int .u64), .sc 4 (.int .i64)] x St.nil) = vernierref05_Power.l0 (k + 1) x.1 x.2.1 x.2.2 := by kernel_rfl
theorem vernierref05_Power.w (k : Nat) (x : TT S94.sa) : walk E94 (vernierref05_Power.G k) (cutsAt k vernierref05_Power.cuts) (retE E94 Go.Proofs.Tryz.f94.results.toList S94) 4000 true [([], .code B94)] (St0 S94 x) = vernierref05_Power.f k x := by kernel_rfl
theorem vernierref05_Power.ok (k : Nat) : FnOk Go.Proofs.Tryz.prog E94.eT 94 (vernierref05_Power.c k) := FnOk.walk (E := E94) (body := B94) Go.Proofs.Tryz.func94 rfl (by rfl) Go.Proofs.Tryz.ntmps94 S94 rfl (fun k x => vernierref05_Power.f k x) vernierref05_Power.G (fun k => trivial) 4000 vernierref05_Power.cuts ⟨⟨fun _ => rfl, fun k x q h => (vernierref05_Power.w0 k x).trans h⟩, trivial⟩ (fun k x r h => (vernierref05_Power.w k x).trans h) k
noncomputable def E92 : En := ⟨Go.Proofs.Tryz.prog, 45, Go.Proofs.Tryz.f92.ntmps⟩
noncomputable def S92 : Sig := ⟨[.s, .s], [(.int .u64), (.int .i64)], false, [.s], [.str], false⟩
noncomputable def B92 : Go.Code := Go.Proofs.Tryz.f92.body.get!
def vernierref01_Text.l0 : Nat → Int → List Int → Int → Option (ByteArray)
 | 0, _, _, _ => none
 | k + 1, x0, x5, x6 => if x6 ≥ 0 then (if 0 ≤ x6 then (if x5.length < 140737488355328 then (vernierref01_Text.l0 k x0 (x5 ++ ([(48 + ((Int.tmod (shr .u64 x0 x6) 2) % 256)) % 256] : List Int)) (wrap64 (x6 - 1))) else (none)) else (none)) else (some (strOfNums x5))
def vernierref01_Text.f (k : Nat) (a0 : Int) (a1 : Int) : Option (ByteArray) := vernierref01_Text.l0 k a0 ([] : List Int) (wrap64 (a1 - 1))
--@ok
noncomputable def vernierref01_Text.c (k : Nat) : Con := S92.con fun x => vernierref01_Text.f k x.1 x.2
noncomputable def vernierref01_Text.G (k : Nat) : List (Go.FuncId × Con) := []
noncomputable def vernierref01_Text.cuts : List (Cut (TT S92.sb)) := [⟨[6, 4, 1, 0, 1, 1], [.sc 0 (.int .u64), .lst 5 .u8 5, .sc 6 (.int .i64)], fun k x => vernierref01_Text.l0 k x.1 x.2.1 x.2.2⟩]
theorem vernierref01_Text.w0 (k : Nat) (x : ET [.sc 0 (.int .u64), .lst 5 .u8 5, .sc 6 (.int .i64)]) : walk E92 (vernierref01_Text.G k) (cutsAt k vernierref01_Text.cuts) (retE E92 Go.Proofs.Tryz.f92.results.toList S92) 4000 true (stackAt B92 [6, 4, 1, 0, 1, 1]) (mkE [.sc 0 (.int .u64), .lst 5 .u8 5, .sc 6 (.int .i64)] x St.nil) = vernierref01_Text.l0 (k + 1) x.1 x.2.1 x.2.2 := by kernel_rfl
theorem vernierref01_Text.w (k : Nat) (x : TT S92.sa) : walk E92 (vernierref01_Text.G k) (cutsAt k vernierref01_Text.cuts) (retE E92 Go.Proofs.Tryz.f92.results.toList S92) 4000 true [([], .code B92)] (St0 S92 x) = vernierref01_Text.f k x.1 x.2 := by kernel_rfl
theorem vernierref01_Text.ok (k : Nat) : FnOk Go.Proofs.Tryz.prog E92.eT 92 (vernierref01_Text.c k) := FnOk.walk (E := E92) (body := B92) Go.Proofs.Tryz.func92 rfl (by rfl) Go.Proofs.Tryz.ntmps92 S92 rfl (fun k x => vernierref01_Text.f k x.1 x.2) vernierref01_Text.G (fun k => trivial) 4000 vernierref01_Text.cuts ⟨⟨fun _ => rfl, fun k x q h => (vernierref01_Text.w0 k x).trans h⟩, trivial⟩ (fun k x r h => (vernierref01_Text.w k x).trans h) k
noncomputable def E93 : En := ⟨Go.Proofs.Tryz.prog, 45, Go.Proofs.Tryz.f93.ntmps⟩
noncomputable def S93 : Sig := ⟨[.s], [.str], false, [.s], [(.int .u64)], false⟩
noncomputable def B93 : Go.Code := Go.Proofs.Tryz.f93.body.get!
def vernierref01_Number.l0 : Nat → ByteArray → Int → Int → Option (Int)
 | 0, _, _, _ => none
 | k + 1, x0, x3, x4 => if x4 < (nI x0.size) then (if 0 ≤ x4 then (vernierref01_Number.l0 k x0 (IntKind.u64.wrap ((IntKind.u64.wrap (2 * x3)) + (((bt x0 x4) - 48) % 256))) (wrap64 (x4 + 1))) else (none)) else (some x3)
def vernierref01_Number.f (k : Nat) (a0 : ByteArray) : Option (Int) := vernierref01_Number.l0 k a0 0 0
--@ok
def vernierref01_Number.l0R (k : Nat) (x0 : ByteArray) (x3 : Int) (x4 : Int) : Option (Int) := if x4 < (nI x0.size) then (if 0 ≤ x4 then (if x4 < (nI x0.size) then (vernierref01_Number.l0 k x0 (IntKind.u64.wrap ((IntKind.u64.wrap (2 * x3)) + (((bt x0 x4) - 48) % 256))) (wrap64 (x4 + 1))) else (none)) else (none)) else (some x3)
theorem vernierref01_Number.l0E (k : Nat) (x0 : ByteArray) (x3 : Int) (x4 : Int) : vernierref01_Number.l0R k x0 x3 x4 = vernierref01_Number.l0 (k + 1) x0 x3 x4 := by
  unfold vernierref01_Number.l0R
  rw [vernierref01_Number.l0]
  exact iteC (fun h0 => iteC (fun h1 => (if_pos h0).trans (rfl)) (fun h1 => rfl)) (fun h0 => rfl)
noncomputable def vernierref01_Number.c (k : Nat) : Con := S93.con fun x => vernierref01_Number.f k x
noncomputable def vernierref01_Number.G (k : Nat) : List (Go.FuncId × Con) := []
noncomputable def vernierref01_Number.cuts : List (Cut (TT S93.sb)) := [⟨[6, 4, 1, 0, 1, 1], [.sc 0 (.str), .sc 3 (.int .u64), .sc 4 (.int .i64)], fun k x => vernierref01_Number.l0 k x.1 x.2.1 x.2.2⟩]
theorem vernierref01_Number.w0 (k : Nat) (x : ET [.sc 0 (.str), .sc 3 (.int .u64), .sc 4 (.int .i64)]) : walk E93 (vernierref01_Number.G k) (cutsAt k vernierref01_Number.cuts) (retE E93 Go.Proofs.Tryz.f93.results.toList S93) 4000 true (stackAt B93 [6, 4, 1, 0, 1, 1]) (mkE [.sc 0 (.str), .sc 3 (.int .u64), .sc 4 (.int .i64)] x St.nil) = vernierref01_Number.l0 (k + 1) x.1 x.2.1 x.2.2 := Eq.trans (b := vernierref01_Number.l0R k x.1 x.2.1 x.2.2) (by kernel_rfl) (vernierref01_Number.l0E k x.1 x.2.1 x.2.2)
theorem vernierref01_Number.w (k : Nat) (x : TT S93.sa) : walk E93 (vernierref01_Number.G k) (cutsAt k vernierref01_Number.cuts) (retE E93 Go.Proofs.Tryz.f93.results.toList S93) 4000 true [([], .code B93)] (St0 S93 x) = vernierref01_Number.f k x := by kernel_rfl
theorem vernierref01_Number.ok (k : Nat) : FnOk Go.Proofs.Tryz.prog E93.eT 93 (vernierref01_Number.c k) := FnOk.walk (E := E93) (body := B93) Go.Proofs.Tryz.func93 rfl (by rfl) Go.Proofs.Tryz.ntmps93 S93 rfl (fun k x => vernierref01_Number.f k x) vernierref01_Number.G (fun k => trivial) 4000 vernierref01_Number.cuts ⟨⟨fun _ => rfl, fun k x q h => (vernierref01_Number.w0 k x).trans h⟩, trivial⟩ (fun k x r h => (vernierref01_Number.w k x).trans h) k
noncomputable def E101 : En := ⟨Go.Proofs.Tryz.prog, 45, Go.Proofs.Tryz.f101.ntmps⟩
noncomputable def S101 : Sig := ⟨[.s, .s], [(.int .i64), (.int .u64)], true, [.s, .s], [(.int .u64), (.int .i64)], false⟩
noncomputable def B101 : Go.Code := Go.Proofs.Tryz.f101.body.get!
def vernierref05_Fold.f (k : Nat) (a0 : Int) (a1 : Int) : Option (Int × Int) := (vernierref05_Is.f a0).bind fun t100 => (if t100 = true then ((vernierref01_Text.f k a1 a0).bind fun t101 => ((vernierref01_Number.f k t101).bind fun t102 => (some (t102, 0)))) else (some (0, 2)))
--@ok
noncomputable def vernierref05_Fold.c (k : Nat) : Con := S101.con fun x => vernierref05_Fold.f k x.1 x.2
noncomputable def vernierref05_Fold.G (k : Nat) : List (Go.FuncId × Con) := [(13, vernierref05_Is.c), (92, vernierref01_Text.c k), (93, vernierref01_Number.c k)]
noncomputable def vernierref05_Fold.cuts : List (Cut (TT S101.sb)) := []
theorem vernierref05_Fold.w (k : Nat) (x : TT S101.sa) : walk E101 (vernierref05_Fold.G k) (cutsAt k vernierref05_Fold.cuts) (retE E101 Go.Proofs.Tryz.f101.results.toList S101) 4000 true [([], .code B101)] (St0 S101 x) = vernierref05_Fold.f k x.1 x.2 := by kernel_rfl
theorem vernierref05_Fold.ok (k : Nat) : FnOk Go.Proofs.Tryz.prog E101.eT 101 (vernierref05_Fold.c k) := FnOk.walk (E := E101) (body := B101) Go.Proofs.Tryz.func101 rfl (by rfl) Go.Proofs.Tryz.ntmps101 S101 rfl (fun k x => vernierref05_Fold.f k x.1 x.2) vernierref05_Fold.G (fun k => ⟨vernierref05_Is.ok, vernierref01_Text.ok k, vernierref01_Number.ok k, trivial⟩) 4000 vernierref05_Fold.cuts trivial (fun k x r h => (vernierref05_Fold.w k x).trans h) k
noncomputable def E90 : En := ⟨Go.Proofs.Tryz.prog, 45, Go.Proofs.Tryz.f90.ntmps⟩
noncomputable def S90 : Sig := ⟨[.s, .s], [(.int .i64), (.int .u64)], true, [.s, .s], [(.int .i64), (.int .i64)], false⟩
noncomputable def B90 : Go.Code := Go.Proofs.Tryz.f90.body.get!
def vernierref05_Kind.f (k : Nat) (a0 : Int) (a1 : Int) : Option (Int × Int) := (vernierref05_Fold.f k a0 a1).bind fun t100 => (if t100.2 = 0 then (if t100.1 = 0 then (some (0, 0)) else ((vernierref05_Power.f k (wrap64 (a0 - 1))).bind fun t101 => (if t100.1 = t101 then (some (2, 0)) else (some (1, 0))))) else (some (0, t100.2)))
--@ok
noncomputable def vernierref05_Kind.c (k : Nat) : Con := S90.con fun x => vernierref05_Kind.f k x.1 x.2
noncomputable def vernierref05_Kind.G (k : Nat) : List (Go.FuncId × Con) := [(94, vernierref05_Power.c k), (101, vernierref05_Fold.c k)]
noncomputable def vernierref05_Kind.cuts : List (Cut (TT S90.sb)) := []
theorem vernierref05_Kind.w (k : Nat) (x : TT S90.sa) : walk E90 (vernierref05_Kind.G k) (cutsAt k vernierref05_Kind.cuts) (retE E90 Go.Proofs.Tryz.f90.results.toList S90) 4000 true [([], .code B90)] (St0 S90 x) = vernierref05_Kind.f k x.1 x.2 := by kernel_rfl
theorem vernierref05_Kind.ok (k : Nat) : FnOk Go.Proofs.Tryz.prog E90.eT 90 (vernierref05_Kind.c k) := FnOk.walk (E := E90) (body := B90) Go.Proofs.Tryz.func90 rfl (by rfl) Go.Proofs.Tryz.ntmps90 S90 rfl (fun k x => vernierref05_Kind.f k x.1 x.2) vernierref05_Kind.G (fun k => ⟨vernierref05_Power.ok k, vernierref05_Fold.ok k, trivial⟩) 4000 vernierref05_Kind.cuts trivial (fun k x r h => (vernierref05_Kind.w k x).trans h) k
noncomputable def E102 : En := ⟨Go.Proofs.Tryz.prog, 45, Go.Proofs.Tryz.f102.ntmps⟩
noncomputable def S102 : Sig := ⟨[.s, .s], [(.int .i64), (.int .u64)], false, [.s], [.str], false⟩
noncomputable def B102 : Go.Code := Go.Proofs.Tryz.f102.body.get!
def vernierref06_String.f (k : Nat) (a0 : Int) (a1 : Int) : Option (ByteArray) := (vernierref01_Text.f k a1 a0).bind fun t100 => (if 0 < (nI t100.size) then (if (bt t100 0) = 49 then ((vernierref01_Text.f k (IntKind.u64.wrap (-a1)) a0).bind fun t101 => (if 1 ≤ (nI t101.size) then (some (t101.extract 1 t101.size)) else (none))) else (if 1 ≤ (nI t100.size) then (some (t100.extract 1 t100.size)) else (none))) else (none))
--@ok
noncomputable def vernierref06_String.c (k : Nat) : Con := S102.con fun x => vernierref06_String.f k x.1 x.2
noncomputable def vernierref06_String.G (k : Nat) : List (Go.FuncId × Con) := [(92, vernierref01_Text.c k)]
noncomputable def vernierref06_String.cuts : List (Cut (TT S102.sb)) := []
theorem vernierref06_String.w (k : Nat) (x : TT S102.sa) : walk E102 (vernierref06_String.G k) (cutsAt k vernierref06_String.cuts) (retE E102 Go.Proofs.Tryz.f102.results.toList S102) 4000 true [([], .code B102)] (St0 S102 x) = vernierref06_String.f k x.1 x.2 := by kernel_rfl
theorem vernierref06_String.ok (k : Nat) : FnOk Go.Proofs.Tryz.prog E102.eT 102 (vernierref06_String.c k) := FnOk.walk (E := E102) (body := B102) Go.Proofs.Tryz.func102 rfl (by rfl) Go.Proofs.Tryz.ntmps102 S102 rfl (fun k x => vernierref06_String.f k x.1 x.2) vernierref06_String.G (fun k => ⟨vernierref01_Text.ok k, trivial⟩) 4000 vernierref06_String.cuts trivial (fun k x r h => (vernierref06_String.w k x).trans h) k
end Go.Proofs.YtfbbnpliaokmbaaGreat.Fn
set_option maxRecDepth 100000
set_option linter.unusedVariables false
noncomputable section
namespace Go.Proofs.YtfbbnpliaokmbaaGreat.Fn
open Go Go.RowKit Go.Proofs.YtfbbnpliaokmbaaGreat.Ab
noncomputable def E103 : En := ⟨Go.Proofs.Tryz.prog, 45, Go.Proofs.Tryz.f103.ntmps⟩
noncomputable def S103 : Sig := ⟨[.s], [.str], false, [.s], [(.int .i64)], false⟩
noncomputable def B103 : Go.Code := Go.Proofs.Tryz.f103.body.get!
def vernierref06_run.l0 : Nat → ByteArray → Int → Option (Int)
 | 0, _, _ => none
 | k + 1, x0, x3 => if x3 < (nI x0.size) then (if 0 ≤ x3 then (if 0 < (nI x0.size) then (if (bt x0 x3) = (bt x0 0) then (vernierref06_run.l0 k x0 (wrap64 (x3 + 1))) else (some x3)) else (none)) else (none)) else (some x3)
def vernierref06_run.f (k : Nat) (a0 : ByteArray) : Option (Int) := vernierref06_run.l0 k a0 0
--@ok
def vernierref06_run.l0R (k : Nat) (x0 : ByteArray) (x3 : Int) : Option (Int) := if x3 < (nI x0.size) then (if 0 ≤ x3 then (if x3 < (nI x0.size) then (if 0 < (nI x0.size) then (if (bt x0 x3) = (bt x0 0) then (vernierref06_run.l0 k x0 (wrap64 (x3 + 1))) else (some x3)) else (none)) else (none)) else (none)) else (some x3)
theorem vernierref06_run.l0E (k : Nat) (x0 : ByteArray) (x3 : Int) : vernierref06_run.l0R k x0 x3 = vernierref06_run.l0 (k + 1) x0 x3 := by
  unfold vernierref06_run.l0R
  rw [vernierref06_run.l0]
  exact iteC (fun h0 => iteC (fun h1 => (if_pos h0).trans (iteC (fun h2 => iteC (fun h3 => rfl) (fun h3 => rfl)) (fun h2 => rfl))) (fun h1 => rfl)) (fun h0 => rfl)
noncomputable def vernierref06_run.c (k : Nat) : Con := S103.con fun x => vernierref06_run.f k x
noncomputable def vernierref06_run.G (k : Nat) : List (Go.FuncId × Con) := []
noncomputable def vernierref06_run.cuts : List (Cut (TT S103.sb)) := [⟨[6, 4, 0, 1, 1], [.sc 0 (.str), .sc 3 (.int .i64)], fun k x => vernierref06_run.l0 k x.1 x.2⟩]
theorem vernierref06_run.w0 (k : Nat) (x : ET [.sc 0 (.str), .sc 3 (.int .i64)]) : walk E103 (vernierref06_run.G k) (cutsAt k vernierref06_run.cuts) (retE E103 Go.Proofs.Tryz.f103.results.toList S103) 4000 true (stackAt B103 [6, 4, 0, 1, 1]) (mkE [.sc 0 (.str), .sc 3 (.int .i64)] x St.nil) = vernierref06_run.l0 (k + 1) x.1 x.2 := Eq.trans (b := vernierref06_run.l0R k x.1 x.2) (by kernel_rfl) (vernierref06_run.l0E k x.1 x.2)
theorem vernierref06_run.w (k : Nat) (x : TT S103.sa) : walk E103 (vernierref06_run.G k) (cutsAt k vernierref06_run.cuts) (retE E103 Go.Proofs.Tryz.f103.results.toList S103) 4000 true [([], .code B103)] (St0 S103 x) = vernierref06_run.f k x := by kernel_rfl
theorem vernierref06_run.ok (k : Nat) : FnOk Go.Proofs.Tryz.prog E103.eT 103 (vernierref06_run.c k) := FnOk.walk (E := E103) (body := B103) Go.Proofs.Tryz.func103 rfl (by rfl) Go.Proofs.Tryz.ntmps103 S103 rfl (fun k x => vernierref06_run.f k x) vernierref06_run.G (fun k => trivial) 4000 vernierref06_run.cuts ⟨⟨fun _ => rfl, fun k x q h => (vernierref06_run.w0 k x).trans h⟩, trivial⟩ (fun k x r h => (vernierref06_run.w k x).trans h) k
noncomputable def E91 : En := ⟨Go.Proofs.Tryz.prog, 45, Go.Proofs.Tryz.f91.ntmps⟩
noncomputable def S91 : Sig := ⟨[.s, .s], [(.int .i64), (.int .u64)], true, [.g 8, .s], [.bool, .bool, (.int .i64), (.int .i64), (.int .i64), (.int .i64), (.int .i64), (.int .u64), (.int .i64)], false⟩
noncomputable def B91 : Go.Code := Go.Proofs.Tryz.f91.body.get!
mutual
def vernierref06_Split.j0 : Nat → Int → Int → Int → Bool → Option (Bool × Bool × Int × Int × Int × Int × Int × Int × Int)
 | 0, _, _, _, _ => none
 | k + 1, x0, x1, x7, x23 => if x23 = true then (some (false, false, 0, 0, 0, 0, 0, 0, x7)) else ((vernierref06_String.f k x0 x1).bind fun t101 => (if 0 < (nI t101.size) then ((vernierref01_Text.f k x1 x0).bind fun t102 => (if 0 < (nI t102.size) then ((vernierref06_run.f k t101).bind fun t103 => (if (bt t101 0) = 49 then (vernierref06_Split.j1 k t101 ((bt t102 0) == 49) ((bt t101 0) == 49) t103 (wrap64 (t103 - 1))) else (vernierref06_Split.j1 k t101 ((bt t102 0) == 49) ((bt t101 0) == 49) t103 (wrap64 (-t103))))) else (none))) else (none)))
def vernierref06_Split.j1 : Nat → ByteArray → Bool → Bool → Int → Int → Option (Bool × Bool × Int × Int × Int × Int × Int × Int × Int)
 | 0, _, _, _, _, _ => none
 | k + 1, x8, x9000, x9001, x9002, x9003 => if x9002 < (nI x8.size) then (if 0 ≤ (wrap64 (x9002 + 1)) then (if (wrap64 (x9002 + 1)) ≤ (nI x8.size) then (vernierref06_Split.j2 k (x8.extract (((wrap64 (x9002 + 1)) : Int).toNat) x8.size) x9000 x9001 x9002 x9003) else (none)) else (none)) else (vernierref06_Split.j2 k (⟨#[]⟩ : ByteArray) x9000 x9001 x9002 x9003)
def vernierref06_Split.j2 : Nat → ByteArray → Bool → Bool → Int → Int → Option (Bool × Bool × Int × Int × Int × Int × Int × Int × Int)
 | 0, _, _, _, _, _ => none
 | k + 1, x10, x9000, x9001, x9002, x9003 => if (nI x10.size) > 2 then (if 2 ≤ (nI x10.size) then (if (((x10.extract 0 2).size) + 2) ≤ 9223372036854775807 then (if 2 ≤ (nI (((x10.extract 0 2) ++ (⟨#[48, 48]⟩ : ByteArray)).size)) then ((vernierref01_Number.f k (((x10.extract 0 2) ++ (⟨#[48, 48]⟩ : ByteArray)).extract 0 2)).bind fun t104 => ((vernierref01_Number.f k (x10.extract 2 x10.size)).bind fun t105 => (some (x9000, x9001, x9002, x9003, 2, wrap64 t104, wrap64 ((nI x10.size) - 2), t105, 0)))) else (none)) else (none)) else (none)) else (if (nI x10.size) ≤ (nI x10.size) then (if (((x10.extract 0 (((nI x10.size) : Int).toNat)).size) + 2) ≤ 9223372036854775807 then (if 2 ≤ (nI (((x10.extract 0 (((nI x10.size) : Int).toNat)) ++ (⟨#[48, 48]⟩ : ByteArray)).size)) then ((vernierref01_Number.f k (((x10.extract 0 (((nI x10.size) : Int).toNat)) ++ (⟨#[48, 48]⟩ : ByteArray)).extract 0 2)).bind fun t106 => ((vernierref01_Number.f k (x10.extract (((nI x10.size) : Int).toNat) x10.size)).bind fun t107 => (some (x9000, x9001, x9002, x9003, nI x10.size, wrap64 t106, wrap64 ((nI x10.size) - (nI x10.size)), t107, 0)))) else (none)) else (none)) else (none))
end
def vernierref06_Split.f (k : Nat) (a0 : Int) (a1 : Int) : Option (Bool × Bool × Int × Int × Int × Int × Int × Int × Int) := (vernierref05_Kind.f k a0 a1).bind fun t100 => (if t100.2 = 0 then (vernierref06_Split.j0 k a0 a1 t100.2 (t100.1 != 1)) else (vernierref06_Split.j0 k a0 a1 t100.2 true))
--@ok
def vernierref06_Split.j2R (k : Nat) (x10 : ByteArray) (x9000 : Bool) (x9001 : Bool) (x9002 : Int) (x9003 : Int) : Option (Bool × Bool × Int × Int × Int × Int × Int × Int × Int) := if (nI x10.size) > 2 then (if 2 ≤ (nI x10.size) then (if (((x10.extract 0 2).size) + 2) ≤ 9223372036854775807 then (if 2 ≤ (nI (((x10.extract 0 2) ++ (⟨#[48, 48]⟩ : ByteArray)).size)) then ((vernierref01_Number.f k (((x10.extract 0 2) ++ (⟨#[48, 48]⟩ : ByteArray)).extract 0 2)).bind fun t104 => (if 2 ≤ (nI x10.size) then ((vernierref01_Number.f k (x10.extract 2 x10.size)).bind fun t105 => (some (x9000, x9001, x9002, x9003, 2, wrap64 t104, wrap64 ((nI x10.size) - 2), t105, 0))) else (none))) else (none)) else (none)) else (none)) else (if (nI x10.size) ≤ (nI x10.size) then (if (((x10.extract 0 (((nI x10.size) : Int).toNat)).size) + 2) ≤ 9223372036854775807 then (if 2 ≤ (nI (((x10.extract 0 (((nI x10.size) : Int).toNat)) ++ (⟨#[48, 48]⟩ : ByteArray)).size)) then ((vernierref01_Number.f k (((x10.extract 0 (((nI x10.size) : Int).toNat)) ++ (⟨#[48, 48]⟩ : ByteArray)).extract 0 2)).bind fun t106 => (if (nI x10.size) ≤ (nI x10.size) then ((vernierref01_Number.f k (x10.extract (((nI x10.size) : Int).toNat) x10.size)).bind fun t107 => (some (x9000, x9001, x9002, x9003, nI x10.size, wrap64 t106, wrap64 ((nI x10.size) - (nI x10.size)), t107, 0))) else (none))) else (none)) else (none)) else (none))
theorem vernierref06_Split.j2E (k : Nat) (x10 : ByteArray) (x9000 : Bool) (x9001 : Bool) (x9002 : Int) (x9003 : Int) : vernierref06_Split.j2R k x10 x9000 x9001 x9002 x9003 = vernierref06_Split.j2 (k + 1) x10 x9000 x9001 x9002 x9003 := by
  unfold vernierref06_Split.j2R
  rw [vernierref06_Split.j2]
  exact iteC (fun h0 => iteC (fun h1 => iteC (fun h2 => iteC (fun h3 => bindC fun _ => (if_pos h1).trans (bindC fun _ => rfl)) (fun h3 => rfl)) (fun h2 => rfl)) (fun h1 => rfl)) (fun h0 => iteC (fun h1 => iteC (fun h2 => iteC (fun h3 => bindC fun _ => (if_pos h1).trans (bindC fun _ => rfl)) (fun h3 => rfl)) (fun h2 => rfl)) (fun h1 => rfl))
noncomputable def vernierref06_Split.c (k : Nat) : Con := S91.con fun x => vernierref06_Split.f k x.1 x.2
noncomputable def vernierref06_Split.G (k : Nat) : List (Go.FuncId × Con) := [(90, vernierref05_Kind.c k), (92, vernierref01_Text.c k), (93, vernierref01_Number.c k), (102, vernierref06_String.c k), (103, vernierref06_run.c k)]
noncomputable def vernierref06_Split.cuts : List (Cut (TT S91.sb)) := [⟨[1, 0, 1, 1], [.sc 0 (.int .i64), .sc 1 (.int .u64), .sc 7 (.int .i64), .sc 23 (.bool), .box 4 86 [.bool, .bool, .int .i64, .int .i64, .int .i64, .int .i64, .int .i64, .int .u64]], fun k x => vernierref06_Split.j0 k x.1 x.2.1 x.2.2.1 x.2.2.2.1⟩, ⟨[1, 1, 1, 1, 1, 1, 1], [.sc 8 (.str), .box 4 86 [.bool, .bool, .int .i64, .int .i64, .int .i64, .int .i64, .int .i64, .int .u64], .box 9 86 [.bool, .bool, .int .i64, .int .i64, .int .i64, .int .i64, .int .i64, .int .u64]], fun k x => vernierref06_Split.j1 k x.1 x.2.2.1 x.2.2.2.1 x.2.2.2.2.1 x.2.2.2.2.2.1⟩, ⟨[1, 1, 1, 1, 1, 1, 1, 1, 1], [.sc 10 (.str), .box 4 86 [.bool, .bool, .int .i64, .int .i64, .int .i64, .int .i64, .int .i64, .int .u64], .box 9 86 [.bool, .bool, .int .i64, .int .i64, .int .i64, .int .i64, .int .i64, .int .u64]], fun k x => vernierref06_Split.j2 k x.1 x.2.2.1 x.2.2.2.1 x.2.2.2.2.1 x.2.2.2.2.2.1⟩]
theorem vernierref06_Split.w0 (k : Nat) (x : ET [.sc 0 (.int .i64), .sc 1 (.int .u64), .sc 7 (.int .i64), .sc 23 (.bool), .box 4 86 [.bool, .bool, .int .i64, .int .i64, .int .i64, .int .i64, .int .i64, .int .u64]]) : walk E91 (vernierref06_Split.G k) (cutsAt k vernierref06_Split.cuts) (retE E91 Go.Proofs.Tryz.f91.results.toList S91) 4000 true (stackAt B91 [1, 0, 1, 1]) (mkE [.sc 0 (.int .i64), .sc 1 (.int .u64), .sc 7 (.int .i64), .sc 23 (.bool), .box 4 86 [.bool, .bool, .int .i64, .int .i64, .int .i64, .int .i64, .int .i64, .int .u64]] x St.nil) = vernierref06_Split.j0 (k + 1) x.1 x.2.1 x.2.2.1 x.2.2.2.1 := by kernel_rfl
theorem vernierref06_Split.w1 (k : Nat) (x : ET [.sc 8 (.str), .box 4 86 [.bool, .bool, .int .i64, .int .i64, .int .i64, .int .i64, .int .i64, .int .u64], .box 9 86 [.bool, .bool, .int .i64, .int .i64, .int .i64, .int .i64, .int .i64, .int .u64]]) : walk E91 (vernierref06_Split.G k) (cutsAt k vernierref06_Split.cuts) (retE E91 Go.Proofs.Tryz.f91.results.toList S91) 4000 true (stackAt B91 [1, 1, 1, 1, 1, 1, 1]) (mkE [.sc 8 (.str), .box 4 86 [.bool, .bool, .int .i64, .int .i64, .int .i64, .int .i64, .int .i64, .int .u64], .box 9 86 [.bool, .bool, .int .i64, .int .i64, .int .i64, .int .i64, .int .i64, .int .u64]] x St.nil) = vernierref06_Split.j1 (k + 1) x.1 x.2.2.1 x.2.2.2.1 x.2.2.2.2.1 x.2.2.2.2.2.1 := by kernel_rfl
theorem vernierref06_Split.w2 (k : Nat) (x : ET [.sc 10 (.str), .box 4 86 [.bool, .bool, .int .i64, .int .i64, .int .i64, .int .i64, .int .i64, .int .u64], .box 9 86 [.bool, .bool, .int .i64, .int .i64, .int .i64, .int .i64, .int .i64, .int .u64]]) : walk E91 (vernierref06_Split.G k) (cutsAt k vernierref06_Split.cuts) (retE E91 Go.Proofs.Tryz.f91.results.toList S91) 4000 true (stackAt B91 [1, 1, 1, 1, 1, 1, 1, 1, 1]) (mkE [.sc 10 (.str), .box 4 86 [.bool, .bool, .int .i64, .int .i64, .int .i64, .int .i64, .int .i64, .int .u64], .box 9 86 [.bool, .bool, .int .i64, .int .i64, .int .i64, .int .i64, .int .i64, .int .u64]] x St.nil) = vernierref06_Split.j2 (k + 1) x.1 x.2.2.1 x.2.2.2.1 x.2.2.2.2.1 x.2.2.2.2.2.1 := Eq.trans (b := vernierref06_Split.j2R k x.1 x.2.2.1 x.2.2.2.1 x.2.2.2.2.1 x.2.2.2.2.2.1) (by kernel_rfl) (vernierref06_Split.j2E k x.1 x.2.2.1 x.2.2.2.1 x.2.2.2.2.1 x.2.2.2.2.2.1)
theorem vernierref06_Split.w (k : Nat) (x : TT S91.sa) : walk E91 (vernierref06_Split.G k) (cutsAt k vernierref06_Split.cuts) (retE E91 Go.Proofs.Tryz.f91.results.toList S91) 4000 true [([], .code B91)] (St0 S91 x) = vernierref06_Split.f k x.1 x.2 := by kernel_rfl
theorem vernierref06_Split.ok (k : Nat) : FnOk Go.Proofs.Tryz.prog E91.eT 91 (vernierref06_Split.c k) := FnOk.walk (E := E91) (body := B91) Go.Proofs.Tryz.func91 rfl (by rfl) Go.Proofs.Tryz.ntmps91 S91 rfl (fun k x => vernierref06_Split.f k x.1 x.2) vernierref06_Split.G (fun k => ⟨vernierref05_Kind.ok k, vernierref01_Text.ok k, vernierref01_Number.ok k, vernierref06_String.ok k, vernierref06_run.ok k, trivial⟩) 4000 vernierref06_Split.cuts ⟨⟨fun _ => rfl, fun k x q h => (vernierref06_Split.w0 k x).trans h⟩, ⟨fun _ => rfl, fun k x q h => (vernierref06_Split.w1 k x).trans h⟩, ⟨fun _ => rfl, fun k x q h => (vernierref06_Split.w2 k x).trans h⟩, trivial⟩ (fun k x r h => (vernierref06_Split.w k x).trans h) k
noncomputable def E75 : En := ⟨Go.Proofs.Tryz.prog, 45, Go.Proofs.Tryz.f75.ntmps⟩
noncomputable def S75 : Sig := ⟨[.s, .s], [(.int .i64), (.int .u64)], true, [.g 4, .s], [(.int .i64), .bool, (.int .i64), (.int .u64), (.int .i64)], false⟩
noncomputable def B75 : Go.Code := Go.Proofs.Tryz.f75.body.get!
mutual
def vernierref06_Decodes.j0 : Nat → Int → Int → Int → Int → Bool → Option (Int × Bool × Int × Int × Int)
 | 0, _, _, _, _, _ => none
 | k + 1, x0, x1, x6, x7, x23 => if x23 = true then (some (x6, false, 0, 0, x7)) else ((vernierref06_Split.f k x0 x1).bind fun t101 => ((vernierref01_Text.f k t101.2.2.2.2.2.2.2.1 t101.2.2.2.2.2.2.1).bind fun t102 => (if (1 + t102.size) ≤ 9223372036854775807 then (vernierref06_Decodes.l0 k ((⟨#[49]⟩ : ByteArray) ++ t102) x6 t101.1 (wrap64 ((wrap64 (4 * t101.2.2.2.1)) + t101.2.2.2.2.2.1))) else (none))))
def vernierref06_Decodes.l0 : Nat → ByteArray → Int → Bool → Int → Option (Int × Bool × Int × Int × Int)
 | 0, _, _, _, _ => none
 | k + 1, x11, x10000, x10001, x10002 => if (nI x11.size) < 64 then (if x11.size < 9223372036854775807 then (vernierref06_Decodes.l0 k (x11 ++ (⟨#[48]⟩ : ByteArray)) x10000 x10001 x10002) else (none)) else ((vernierref01_Number.f k x11).bind fun t103 => (some (x10000, x10001, x10002, t103, 0)))
end
def vernierref06_Decodes.f (k : Nat) (a0 : Int) (a1 : Int) : Option (Int × Bool × Int × Int × Int) := (vernierref05_Kind.f k a0 a1).bind fun t100 => (if t100.2 = 0 then (vernierref06_Decodes.j0 k a0 a1 t100.1 t100.2 (t100.1 != 1)) else (vernierref06_Decodes.j0 k a0 a1 t100.1 t100.2 true))
--@ok
noncomputable def vernierref06_Decodes.c (k : Nat) : Con := S75.con fun x => vernierref06_Decodes.f k x.1 x.2
noncomputable def vernierref06_Decodes.G (k : Nat) : List (Go.FuncId × Con) := [(90, vernierref05_Kind.c k), (91, vernierref06_Split.c k), (92, vernierref01_Text.c k), (93, vernierref01_Number.c k)]
noncomputable def vernierref06_Decodes.cuts : List (Cut (TT S75.sb)) := [⟨[1, 0, 1, 1], [.sc 0 (.int .i64), .sc 1 (.int .u64), .sc 6 (.int .i64), .sc 7 (.int .i64), .sc 23 (.bool), .box 4 47 [.int .i64, .bool, .int .i64, .int .u64]], fun k x => vernierref06_Decodes.j0 k x.1 x.2.1 x.2.2.1 x.2.2.2.1 x.2.2.2.2.1⟩, ⟨[6, 4, 0, 1, 1, 1, 1, 1, 1], [.sc 11 (.str), .box 4 47 [.int .i64, .bool, .int .i64, .int .u64], .box 10 47 [.int .i64, .bool, .int .i64, .int .u64]], fun k x => vernierref06_Decodes.l0 k x.1 x.2.2.1 x.2.2.2.1 x.2.2.2.2.1⟩]
theorem vernierref06_Decodes.w0 (k : Nat) (x : ET [.sc 0 (.int .i64), .sc 1 (.int .u64), .sc 6 (.int .i64), .sc 7 (.int .i64), .sc 23 (.bool), .box 4 47 [.int .i64, .bool, .int .i64, .int .u64]]) : walk E75 (vernierref06_Decodes.G k) (cutsAt k vernierref06_Decodes.cuts) (retE E75 Go.Proofs.Tryz.f75.results.toList S75) 4000 true (stackAt B75 [1, 0, 1, 1]) (mkE [.sc 0 (.int .i64), .sc 1 (.int .u64), .sc 6 (.int .i64), .sc 7 (.int .i64), .sc 23 (.bool), .box 4 47 [.int .i64, .bool, .int .i64, .int .u64]] x St.nil) = vernierref06_Decodes.j0 (k + 1) x.1 x.2.1 x.2.2.1 x.2.2.2.1 x.2.2.2.2.1 := by kernel_rfl
theorem vernierref06_Decodes.w1 (k : Nat) (x : ET [.sc 11 (.str), .box 4 47 [.int .i64, .bool, .int .i64, .int .u64], .box 10 47 [.int .i64, .bool, .int .i64, .int .u64]]) : walk E75 (vernierref06_Decodes.G k) (cutsAt k vernierref06_Decodes.cuts) (retE E75 Go.Proofs.Tryz.f75.results.toList S75) 4000 true (stackAt B75 [6, 4, 0, 1, 1, 1, 1, 1, 1]) (mkE [.sc 11 (.str), .box 4 47 [.int .i64, .bool, .int .i64, .int .u64], .box 10 47 [.int .i64, .bool, .int .i64, .int .u64]] x St.nil) = vernierref06_Decodes.l0 (k + 1) x.1 x.2.2.1 x.2.2.2.1 x.2.2.2.2.1 := by kernel_rfl
theorem vernierref06_Decodes.w (k : Nat) (x : TT S75.sa) : walk E75 (vernierref06_Decodes.G k) (cutsAt k vernierref06_Decodes.cuts) (retE E75 Go.Proofs.Tryz.f75.results.toList S75) 4000 true [([], .code B75)] (St0 S75 x) = vernierref06_Decodes.f k x.1 x.2 := by kernel_rfl
theorem vernierref06_Decodes.ok (k : Nat) : FnOk Go.Proofs.Tryz.prog E75.eT 75 (vernierref06_Decodes.c k) := FnOk.walk (E := E75) (body := B75) Go.Proofs.Tryz.func75 rfl (by rfl) Go.Proofs.Tryz.ntmps75 S75 rfl (fun k x => vernierref06_Decodes.f k x.1 x.2) vernierref06_Decodes.G (fun k => ⟨vernierref05_Kind.ok k, vernierref06_Split.ok k, vernierref01_Text.ok k, vernierref01_Number.ok k, trivial⟩) 4000 vernierref06_Decodes.cuts ⟨⟨fun _ => rfl, fun k x q h => (vernierref06_Decodes.w0 k x).trans h⟩, ⟨fun _ => rfl, fun k x q h => (vernierref06_Decodes.w1 k x).trans h⟩, trivial⟩ (fun k x r h => (vernierref06_Decodes.w k x).trans h) k
noncomputable def E41 : En := ⟨Go.Proofs.Tryz.prog, 45, Go.Proofs.Tryz.f41.ntmps⟩
noncomputable def S41 : Sig := ⟨[.s, .s], [(.int .i64), (.int .u64)], false, [.g 4], [(.int .i64), .bool, (.int .i64), (.int .u64)], false⟩
noncomputable def B41 : Go.Code := Go.Proofs.Tryz.f41.body.get!
def vernierref06_Decode.f (k : Nat) (a0 : Int) (a1 : Int) : Option (Int × Bool × Int × Int) := (vernierref06_Decodes.f k a0 a1).bind fun t100 => (some (t100.1, t100.2.1, t100.2.2.1, t100.2.2.2.1))
--@ok
noncomputable def vernierref06_Decode.c (k : Nat) : Con := S41.con fun x => vernierref06_Decode.f k x.1 x.2
noncomputable def vernierref06_Decode.G (k : Nat) : List (Go.FuncId × Con) := [(75, vernierref06_Decodes.c k)]
noncomputable def vernierref06_Decode.cuts : List (Cut (TT S41.sb)) := []
theorem vernierref06_Decode.w (k : Nat) (x : TT S41.sa) : walk E41 (vernierref06_Decode.G k) (cutsAt k vernierref06_Decode.cuts) (retE E41 Go.Proofs.Tryz.f41.results.toList S41) 4000 true [([], .code B41)] (St0 S41 x) = vernierref06_Decode.f k x.1 x.2 := by kernel_rfl
theorem vernierref06_Decode.ok (k : Nat) : FnOk Go.Proofs.Tryz.prog E41.eT 41 (vernierref06_Decode.c k) := FnOk.walk (E := E41) (body := B41) Go.Proofs.Tryz.func41 rfl (by rfl) Go.Proofs.Tryz.ntmps41 S41 rfl (fun k x => vernierref06_Decode.f k x.1 x.2) vernierref06_Decode.G (fun k => ⟨vernierref06_Decodes.ok k, trivial⟩) 4000 vernierref06_Decode.cuts trivial (fun k x r h => (vernierref06_Decode.w k x).trans h) k
noncomputable def E16 : En := ⟨Go.Proofs.Tryz.prog, 45, Go.Proofs.Tryz.f16.ntmps⟩
noncomputable def S16 : Sig := ⟨[.s, .s, .s], [(.int .i64), (.int .u64), (.int .u64)], false, [.g 6], [(.int .i64), .bool, (.int .i64), (.int .u64), (.int .u64), .bool], false⟩
noncomputable def B16 : Go.Code := Go.Proofs.Tryz.f16.body.get!
def vernierref13_product.f (k : Nat) (a0 : Int) (a1 : Int) (a2 : Int) : Option (Int × Bool × Int × Int × Int × Bool) := (vernierref06_Decode.f k a0 a1).bind fun t100 => ((vernierref06_Decode.f k a0 a2).bind fun t101 => ((vernierref10_Exact.f k t100.1 t100.2.1 t100.2.2.1 t100.2.2.2 t101.1 t101.2.1 t101.2.2.1 t101.2.2.2).bind fun t102 => (some (t102.1, t102.2.1, t102.2.2.1, t102.2.2.2.1, t102.2.2.2.2.1, t102.2.2.2.2.2.1))))
--@ok
noncomputable def vernierref13_product.c (k : Nat) : Con := S16.con fun x => vernierref13_product.f k x.1 x.2.1 x.2.2
noncomputable def vernierref13_product.G (k : Nat) : List (Go.FuncId × Con) := [(40, vernierref10_Exact.c k), (41, vernierref06_Decode.c k)]
noncomputable def vernierref13_product.cuts : List (Cut (TT S16.sb)) := []
theorem vernierref13_product.w (k : Nat) (x : TT S16.sa) : walk E16 (vernierref13_product.G k) (cutsAt k vernierref13_product.cuts) (retE E16 Go.Proofs.Tryz.f16.results.toList S16) 4000 true [([], .code B16)] (St0 S16 x) = vernierref13_product.f k x.1 x.2.1 x.2.2 := by kernel_rfl
theorem vernierref13_product.ok (k : Nat) : FnOk Go.Proofs.Tryz.prog E16.eT 16 (vernierref13_product.c k) := FnOk.walk (E := E16) (body := B16) Go.Proofs.Tryz.func16 rfl (by rfl) Go.Proofs.Tryz.ntmps16 S16 rfl (fun k x => vernierref13_product.f k x.1 x.2.1 x.2.2) vernierref13_product.G (fun k => ⟨vernierref10_Exact.ok k, vernierref06_Decode.ok k, trivial⟩) 4000 vernierref13_product.cuts trivial (fun k x r h => (vernierref13_product.w k x).trans h) k
noncomputable def E95 : En := ⟨Go.Proofs.Tryz.prog, 45, Go.Proofs.Tryz.f95.ntmps⟩
noncomputable def S95 : Sig := ⟨[.s], [.str], false, [.s], [.bool], false⟩
noncomputable def B95 : Go.Code := Go.Proofs.Tryz.f95.body.get!
def vernierref07_some.l0 : Nat → ByteArray → Int → Option (Bool)
 | 0, _, _ => none
 | k + 1, x0, x3 => if x3 < (nI x0.size) then (if 0 ≤ x3 then (if (bt x0 x3) = 49 then (some true) else (vernierref07_some.l0 k x0 (wrap64 (x3 + 1)))) else (none)) else (some false)
def vernierref07_some.f (k : Nat) (a0 : ByteArray) : Option (Bool) := vernierref07_some.l0 k a0 0
--@ok
def vernierref07_some.l0R (k : Nat) (x0 : ByteArray) (x3 : Int) : Option (Bool) := if x3 < (nI x0.size) then (if 0 ≤ x3 then (if x3 < (nI x0.size) then (if (bt x0 x3) = 49 then (some true) else (vernierref07_some.l0 k x0 (wrap64 (x3 + 1)))) else (none)) else (none)) else (some false)
theorem vernierref07_some.l0E (k : Nat) (x0 : ByteArray) (x3 : Int) : vernierref07_some.l0R k x0 x3 = vernierref07_some.l0 (k + 1) x0 x3 := by
  unfold vernierref07_some.l0R
  rw [vernierref07_some.l0]
  exact iteC (fun h0 => iteC (fun h1 => (if_pos h0).trans (iteC (fun h2 => rfl) (fun h2 => rfl))) (fun h1 => rfl)) (fun h0 => rfl)
noncomputable def vernierref07_some.c (k : Nat) : Con := S95.con fun x => vernierref07_some.f k x
noncomputable def vernierref07_some.G (k : Nat) : List (Go.FuncId × Con) := []
noncomputable def vernierref07_some.cuts : List (Cut (TT S95.sb)) := [⟨[6, 4, 1, 0, 1], [.sc 0 (.str), .sc 3 (.int .i64)], fun k x => vernierref07_some.l0 k x.1 x.2⟩]
theorem vernierref07_some.w0 (k : Nat) (x : ET [.sc 0 (.str), .sc 3 (.int .i64)]) : walk E95 (vernierref07_some.G k) (cutsAt k vernierref07_some.cuts) (retE E95 Go.Proofs.Tryz.f95.results.toList S95) 4000 true (stackAt B95 [6, 4, 1, 0, 1]) (mkE [.sc 0 (.str), .sc 3 (.int .i64)] x St.nil) = vernierref07_some.l0 (k + 1) x.1 x.2 := Eq.trans (b := vernierref07_some.l0R k x.1 x.2) (by kernel_rfl) (vernierref07_some.l0E k x.1 x.2)
theorem vernierref07_some.w (k : Nat) (x : TT S95.sa) : walk E95 (vernierref07_some.G k) (cutsAt k vernierref07_some.cuts) (retE E95 Go.Proofs.Tryz.f95.results.toList S95) 4000 true [([], .code B95)] (St0 S95 x) = vernierref07_some.f k x := by kernel_rfl
theorem vernierref07_some.ok (k : Nat) : FnOk Go.Proofs.Tryz.prog E95.eT 95 (vernierref07_some.c k) := FnOk.walk (E := E95) (body := B95) Go.Proofs.Tryz.func95 rfl (by rfl) Go.Proofs.Tryz.ntmps95 S95 rfl (fun k x => vernierref07_some.f k x) vernierref07_some.G (fun k => trivial) 4000 vernierref07_some.cuts ⟨⟨fun _ => rfl, fun k x q h => (vernierref07_some.w0 k x).trans h⟩, trivial⟩ (fun k x r h => (vernierref07_some.w k x).trans h) k
noncomputable def E104 : En := ⟨Go.Proofs.Tryz.prog, 45, Go.Proofs.Tryz.f104.ntmps⟩
noncomputable def S104 : Sig := ⟨[.s], [(.int .i64)], false, [.s], [(.int .i64)], false⟩
noncomputable def B104 : Go.Code := Go.Proofs.Tryz.f104.body.get!
def vernierref06_regime.f (a0 : Int) : Option (Int) := if (wrap64 (4 * (wrap64 (Int.tdiv a0 4)))) > a0 then (some (wrap64 ((wrap64 (Int.tdiv a0 4)) - 1))) else (some (wrap64 (Int.tdiv a0 4)))
--@ok
noncomputable def vernierref06_regime.c : Con := S104.con fun x => vernierref06_regime.f x
noncomputable def vernierref06_regime.G (k : Nat) : List (Go.FuncId × Con) := []
noncomputable def vernierref06_regime.cuts : List (Cut (TT S104.sb)) := []
theorem vernierref06_regime.w (k : Nat) (x : TT S104.sa) : walk E104 (vernierref06_regime.G k) (cutsAt k vernierref06_regime.cuts) (retE E104 Go.Proofs.Tryz.f104.results.toList S104) 4000 true [([], .code B104)] (St0 S104 x) = vernierref06_regime.f x := by kernel_rfl
theorem vernierref06_regime.ok : FnOk Go.Proofs.Tryz.prog E104.eT 104 (vernierref06_regime.c) := FnOk.walk (E := E104) (body := B104) Go.Proofs.Tryz.func104 rfl (by rfl) Go.Proofs.Tryz.ntmps104 S104 rfl (fun k x => vernierref06_regime.f x) vernierref06_regime.G (fun k => trivial) 4000 vernierref06_regime.cuts trivial (fun k x r h => (vernierref06_regime.w k x).trans h) 0
noncomputable def E96 : En := ⟨Go.Proofs.Tryz.prog, 45, Go.Proofs.Tryz.f96.ntmps⟩
noncomputable def S96 : Sig := ⟨[.s], [(.int .i64)], false, [.s], [.str], false⟩
noncomputable def B96 : Go.Code := Go.Proofs.Tryz.f96.body.get!
mutual
def vernierref06_Head.l0 : Nat → Int → Int → List Int → Int → Option (ByteArray)
 | 0, _, _, _, _ => none
 | k + 1, x0, x3, x4, x5 => if x5 ≤ x3 then (if x4.length < 140737488355328 then (vernierref06_Head.l0 k x0 x3 (x4 ++ ([49] : List Int)) (wrap64 (x5 + 1))) else (none)) else (vernierref06_Head.l1 k x0 x3 x4 0)
def vernierref06_Head.l1 : Nat → Int → Int → List Int → Int → Option (ByteArray)
 | 0, _, _, _, _ => none
 | k + 1, x0, x3, x4, x6 => if x6 > x3 then (if x4.length < 140737488355328 then (vernierref06_Head.l1 k x0 x3 (x4 ++ ([48] : List Int)) (wrap64 (x6 - 1))) else (none)) else (if x3 ≥ 0 then (if x4.length < 140737488355328 then ((vernierref01_Text.f k (IntKind.u64.wrap (wrap64 (x0 - (wrap64 (4 * x3))))) 2).bind fun t101 => (if (((strOfNums (x4 ++ ([48] : List Int))).size) + t101.size) ≤ 9223372036854775807 then (some ((strOfNums (x4 ++ ([48] : List Int))) ++ t101)) else (none))) else (none)) else (if x4.length < 140737488355328 then ((vernierref01_Text.f k (IntKind.u64.wrap (wrap64 (x0 - (wrap64 (4 * x3))))) 2).bind fun t102 => (if (((strOfNums (x4 ++ ([49] : List Int))).size) + t102.size) ≤ 9223372036854775807 then (some ((strOfNums (x4 ++ ([49] : List Int))) ++ t102)) else (none))) else (none)))
end
def vernierref06_Head.f (k : Nat) (a0 : Int) : Option (ByteArray) := (vernierref06_regime.f a0).bind fun t100 => (vernierref06_Head.l0 k a0 t100 ([] : List Int) 0)
--@ok
noncomputable def vernierref06_Head.c (k : Nat) : Con := S96.con fun x => vernierref06_Head.f k x
noncomputable def vernierref06_Head.G (k : Nat) : List (Go.FuncId × Con) := [(92, vernierref01_Text.c k), (104, vernierref06_regime.c)]
noncomputable def vernierref06_Head.cuts : List (Cut (TT S96.sb)) := [⟨[6, 4, 1, 0, 1, 1, 1], [.sc 0 (.int .i64), .sc 3 (.int .i64), .lst 4 .u8 5, .sc 5 (.int .i64)], fun k x => vernierref06_Head.l0 k x.1 x.2.1 x.2.2.1 x.2.2.2⟩, ⟨[6, 4, 1, 0, 1, 1, 1, 1], [.sc 0 (.int .i64), .sc 3 (.int .i64), .lst 4 .u8 5, .sc 6 (.int .i64)], fun k x => vernierref06_Head.l1 k x.1 x.2.1 x.2.2.1 x.2.2.2⟩]
theorem vernierref06_Head.w0 (k : Nat) (x : ET [.sc 0 (.int .i64), .sc 3 (.int .i64), .lst 4 .u8 5, .sc 5 (.int .i64)]) : walk E96 (vernierref06_Head.G k) (cutsAt k vernierref06_Head.cuts) (retE E96 Go.Proofs.Tryz.f96.results.toList S96) 4000 true (stackAt B96 [6, 4, 1, 0, 1, 1, 1]) (mkE [.sc 0 (.int .i64), .sc 3 (.int .i64), .lst 4 .u8 5, .sc 5 (.int .i64)] x St.nil) = vernierref06_Head.l0 (k + 1) x.1 x.2.1 x.2.2.1 x.2.2.2 := by kernel_rfl
theorem vernierref06_Head.w1 (k : Nat) (x : ET [.sc 0 (.int .i64), .sc 3 (.int .i64), .lst 4 .u8 5, .sc 6 (.int .i64)]) : walk E96 (vernierref06_Head.G k) (cutsAt k vernierref06_Head.cuts) (retE E96 Go.Proofs.Tryz.f96.results.toList S96) 4000 true (stackAt B96 [6, 4, 1, 0, 1, 1, 1, 1]) (mkE [.sc 0 (.int .i64), .sc 3 (.int .i64), .lst 4 .u8 5, .sc 6 (.int .i64)] x St.nil) = vernierref06_Head.l1 (k + 1) x.1 x.2.1 x.2.2.1 x.2.2.2 := by kernel_rfl
theorem vernierref06_Head.w (k : Nat) (x : TT S96.sa) : walk E96 (vernierref06_Head.G k) (cutsAt k vernierref06_Head.cuts) (retE E96 Go.Proofs.Tryz.f96.results.toList S96) 4000 true [([], .code B96)] (St0 S96 x) = vernierref06_Head.f k x := by kernel_rfl
theorem vernierref06_Head.ok (k : Nat) : FnOk Go.Proofs.Tryz.prog E96.eT 96 (vernierref06_Head.c k) := FnOk.walk (E := E96) (body := B96) Go.Proofs.Tryz.func96 rfl (by rfl) Go.Proofs.Tryz.ntmps96 S96 rfl (fun k x => vernierref06_Head.f k x) vernierref06_Head.G (fun k => ⟨vernierref01_Text.ok k, vernierref06_regime.ok, trivial⟩) 4000 vernierref06_Head.cuts ⟨⟨fun _ => rfl, fun k x q h => (vernierref06_Head.w0 k x).trans h⟩, ⟨fun _ => rfl, fun k x q h => (vernierref06_Head.w1 k x).trans h⟩, trivial⟩ (fun k x r h => (vernierref06_Head.w k x).trans h) k
noncomputable def E97 : En := ⟨Go.Proofs.Tryz.prog, 45, Go.Proofs.Tryz.f97.ntmps⟩
noncomputable def S97 : Sig := ⟨[.s, .s], [.str, .bool], false, [.s], [(.int .i64)], false⟩
noncomputable def B97 : Go.Code := Go.Proofs.Tryz.f97.body.get!
mutual
def vernierref07_left.j0 : Nat → ByteArray → Bool → Option (Int)
 | 0, _, _ => none
 | k + 1, x0, x1 => if 1 ≤ (nI x0.size) then ((vernierref07_some.f k (x0.extract 1 x0.size)).bind fun t100 => (if 0 < (nI x0.size) then (if (bt x0 0) = 49 then (if t100 = true then (vernierref07_left.j1 k x0 x1 t100 true) else (vernierref07_left.j1 k x0 x1 t100 x1)) else (vernierref07_left.j1 k x0 x1 t100 false)) else (none))) else (none)
def vernierref07_left.j1 : Nat → ByteArray → Bool → Bool → Bool → Option (Int)
 | 0, _, _, _, _ => none
 | k + 1, x0, x1, x5, x11 => if x11 = true then (some 3) else (if 0 < (nI x0.size) then (if (bt x0 0) = 49 then (some 2) else (if x5 = true then (some 1) else (if x1 = true then (some 1) else (some 0)))) else (none))
end
def vernierref07_left.f (k : Nat) (a0 : ByteArray) (a1 : Bool) : Option (Int) := if (a0.toList == ([] : List UInt8)) = true then (vernierref07_left.j0 k (⟨#[48]⟩ : ByteArray) a1) else (vernierref07_left.j0 k a0 a1)
--@ok
noncomputable def vernierref07_left.c (k : Nat) : Con := S97.con fun x => vernierref07_left.f k x.1 x.2
noncomputable def vernierref07_left.G (k : Nat) : List (Go.FuncId × Con) := [(95, vernierref07_some.c k)]
noncomputable def vernierref07_left.cuts : List (Cut (TT S97.sb)) := [⟨[1, 1], [.sc 0 (.str), .sc 1 (.bool)], fun k x => vernierref07_left.j0 k x.1 x.2⟩, ⟨[1, 4, 0, 1, 1, 1], [.sc 0 (.str), .sc 1 (.bool), .sc 5 (.bool), .sc 11 (.bool)], fun k x => vernierref07_left.j1 k x.1 x.2.1 x.2.2.1 x.2.2.2⟩]
theorem vernierref07_left.w0 (k : Nat) (x : ET [.sc 0 (.str), .sc 1 (.bool)]) : walk E97 (vernierref07_left.G k) (cutsAt k vernierref07_left.cuts) (retE E97 Go.Proofs.Tryz.f97.results.toList S97) 4000 true (stackAt B97 [1, 1]) (mkE [.sc 0 (.str), .sc 1 (.bool)] x St.nil) = vernierref07_left.j0 (k + 1) x.1 x.2 := by kernel_rfl
theorem vernierref07_left.w1 (k : Nat) (x : ET [.sc 0 (.str), .sc 1 (.bool), .sc 5 (.bool), .sc 11 (.bool)]) : walk E97 (vernierref07_left.G k) (cutsAt k vernierref07_left.cuts) (retE E97 Go.Proofs.Tryz.f97.results.toList S97) 4000 true (stackAt B97 [1, 4, 0, 1, 1, 1]) (mkE [.sc 0 (.str), .sc 1 (.bool), .sc 5 (.bool), .sc 11 (.bool)] x St.nil) = vernierref07_left.j1 (k + 1) x.1 x.2.1 x.2.2.1 x.2.2.2 := by kernel_rfl
theorem vernierref07_left.w (k : Nat) (x : TT S97.sa) : walk E97 (vernierref07_left.G k) (cutsAt k vernierref07_left.cuts) (retE E97 Go.Proofs.Tryz.f97.results.toList S97) 4000 true [([], .code B97)] (St0 S97 x) = vernierref07_left.f k x.1 x.2 := by kernel_rfl
theorem vernierref07_left.ok (k : Nat) : FnOk Go.Proofs.Tryz.prog E97.eT 97 (vernierref07_left.c k) := FnOk.walk (E := E97) (body := B97) Go.Proofs.Tryz.func97 rfl (by rfl) Go.Proofs.Tryz.ntmps97 S97 rfl (fun k x => vernierref07_left.f k x.1 x.2) vernierref07_left.G (fun k => ⟨vernierref07_some.ok k, trivial⟩) 4000 vernierref07_left.cuts ⟨⟨fun _ => rfl, fun k x q h => (vernierref07_left.w0 k x).trans h⟩, ⟨fun _ => rfl, fun k x q h => (vernierref07_left.w1 k x).trans h⟩, trivial⟩ (fun k x r h => (vernierref07_left.w k x).trans h) k
noncomputable def E76 : En := ⟨Go.Proofs.Tryz.prog, 45, Go.Proofs.Tryz.f76.ntmps⟩
noncomputable def S76 : Sig := ⟨[.s, .g 6], [(.int .i64), (.int .i64), .bool, (.int .i64), (.int .u64), (.int .u64), .bool], true, [.s, .s, .s], [(.int .u64), (.int .i64), (.int .i64)], false⟩
noncomputable def B76 : Go.Code := Go.Proofs.Tryz.f76.body.get!
mutual
def vernierref07_Cut.j0 : Nat → Int → Option (Int × Int × Int)
 | 0, _ => none
 | k + 1, x9 => some (x9, 0, 0)
def vernierref07_Cut.j1 : Nat → Int → ByteArray → Bool → Int → Bool → Option (Int × Int × Int)
 | 0, _, _, _, _, _ => none
 | k + 1, x0, x10, x11, x3002, x3005 => if x3002 ≥ (wrap64 ((wrap64 (4 * x0)) - 8)) then ((vernierref05_Power.f k (wrap64 (x0 - 1))).bind fun t106 => (some (IntKind.u64.wrap (t106 - 1), 0, 0))) else (if x3002 < (wrap64 (-(wrap64 ((wrap64 (4 * x0)) - 8)))) then (vernierref07_Cut.j2 k x0 x10 true x3002 x3005) else (if x3002 = (wrap64 (-(wrap64 ((wrap64 (4 * x0)) - 8)))) then (vernierref07_Cut.j2 k x0 x10 x11 x3002 x3005) else (vernierref07_Cut.j2 k x0 x10 false x3002 x3005)))
def vernierref07_Cut.j2 : Nat → Int → ByteArray → Bool → Int → Bool → Option (Int × Int × Int)
 | 0, _, _, _, _, _ => none
 | k + 1, x0, x10, x73, x3002, x3005 => if x73 = true then (some (1, 0, 0)) else ((vernierref06_Head.f k x3002).bind fun t107 => (if (t107.size + x10.size) ≤ 9223372036854775807 then (if 0 ≤ (wrap64 (x0 - 1)) then (if (wrap64 (x0 - 1)) ≤ (nI ((t107 ++ x10).size)) then ((vernierref01_Number.f k ((t107 ++ x10).extract 0 (((wrap64 (x0 - 1)) : Int).toNat))).bind fun t108 => ((vernierref07_left.f k ((t107 ++ x10).extract (((wrap64 (x0 - 1)) : Int).toNat) ((t107 ++ x10).size)) x3005).bind fun t109 => (some (t108, t109, 0)))) else (none)) else (none)) else (none)))
end
def vernierref07_Cut.f (k : Nat) (a0 : Int) (a1_0 : Int) (a1_1 : Bool) (a1_2 : Int) (a1_3 : Int) (a1_4 : Int) (a1_5 : Bool) : Option (Int × Int × Int) := (vernierref05_Is.f a0).bind fun t100 => ((vernierref07_Sound.f a1_0 a1_1 a1_2 a1_3 a1_4 a1_5).bind fun t101 => (if t100 = true then (if t101 = true then (if a1_0 = 1 then ((vernierref01_Text.f k a1_3 64).bind fun t102 => (if 1 ≤ (nI t102.size) then ((vernierref01_Text.f k a1_4 64).bind fun t103 => (if (((t102.extract 1 t102.size).size) + t103.size) ≤ 9223372036854775807 then (if a1_5 = true then (vernierref07_Cut.j1 k a0 ((t102.extract 1 t102.size) ++ t103) false a1_2 a1_5) else ((vernierref07_some.f k ((t102.extract 1 t102.size) ++ t103)).bind fun t104 => (vernierref07_Cut.j1 k a0 ((t102.extract 1 t102.size) ++ t103) (!t104) a1_2 a1_5))) else (none))) else (none))) else (if a1_0 = 2 then ((vernierref05_Power.f k (wrap64 (a0 - 1))).bind fun t105 => (vernierref07_Cut.j0 k t105)) else (vernierref07_Cut.j0 k 0))) else (some (0, 0, 1))) else (some (0, 0, 2))))
--@ok
def vernierref07_Cut.j2R (k : Nat) (x0 : Int) (x10 : ByteArray) (x73 : Bool) (x3002 : Int) (x3005 : Bool) : Option (Int × Int × Int) := if x73 = true then (some (1, 0, 0)) else ((vernierref06_Head.f k x3002).bind fun t107 => (if (t107.size + x10.size) ≤ 9223372036854775807 then (if 0 ≤ (wrap64 (x0 - 1)) then (if (wrap64 (x0 - 1)) ≤ (nI ((t107 ++ x10).size)) then (if 0 ≤ (wrap64 (x0 - 1)) then (if (wrap64 (x0 - 1)) ≤ (nI ((t107 ++ x10).size)) then ((vernierref01_Number.f k ((t107 ++ x10).extract 0 (((wrap64 (x0 - 1)) : Int).toNat))).bind fun t108 => ((vernierref07_left.f k ((t107 ++ x10).extract (((wrap64 (x0 - 1)) : Int).toNat) ((t107 ++ x10).size)) x3005).bind fun t109 => (some (t108, t109, 0)))) else (none)) else (none)) else (none)) else (none)) else (none)))
theorem vernierref07_Cut.j2E (k : Nat) (x0 : Int) (x10 : ByteArray) (x73 : Bool) (x3002 : Int) (x3005 : Bool) : vernierref07_Cut.j2R k x0 x10 x73 x3002 x3005 = vernierref07_Cut.j2 (k + 1) x0 x10 x73 x3002 x3005 := by
  unfold vernierref07_Cut.j2R
  rw [vernierref07_Cut.j2]
  exact iteC (fun h0 => rfl) (fun h0 => bindC fun _ => iteC (fun h1 => iteC (fun h2 => iteC (fun h3 => (if_pos h2).trans ((if_pos h3).trans (bindC fun _ => bindC fun _ => rfl))) (fun h3 => rfl)) (fun h2 => rfl)) (fun h1 => rfl))
noncomputable def vernierref07_Cut.c (k : Nat) : Con := S76.con fun x => vernierref07_Cut.f k x.1 x.2.1 x.2.2.1 x.2.2.2.1 x.2.2.2.2.1 x.2.2.2.2.2.1 x.2.2.2.2.2.2
noncomputable def vernierref07_Cut.G (k : Nat) : List (Go.FuncId × Con) := [(13, vernierref05_Is.c), (30, vernierref07_Sound.c), (92, vernierref01_Text.c k), (93, vernierref01_Number.c k), (94, vernierref05_Power.c k), (95, vernierref07_some.c k), (96, vernierref06_Head.c k), (97, vernierref07_left.c k)]
noncomputable def vernierref07_Cut.cuts : List (Cut (TT S76.sb)) := [⟨[1, 1, 2, 1, 0, 1, 1, 1, 1, 1], [.sc 9 (.int .u64)], fun k x => vernierref07_Cut.j0 k x⟩, ⟨[1, 1, 1, 1, 1, 1, 1, 1], [.sc 0 (.int .i64), .sc 10 (.str), .sc 11 (.bool), .box 3 34 [.int .i64, .bool, .int .i64, .int .u64, .int .u64, .bool]], fun k x => vernierref07_Cut.j1 k x.1 x.2.1 x.2.2.1 x.2.2.2.2.2.1 x.2.2.2.2.2.2.2.2⟩, ⟨[1, 0, 1, 1, 1, 1, 1, 1, 1, 1, 1, 1], [.sc 0 (.int .i64), .sc 10 (.str), .sc 73 (.bool), .box 3 34 [.int .i64, .bool, .int .i64, .int .u64, .int .u64, .bool]], fun k x => vernierref07_Cut.j2 k x.1 x.2.1 x.2.2.1 x.2.2.2.2.2.1 x.2.2.2.2.2.2.2.2⟩]
theorem vernierref07_Cut.w0 (k : Nat) (x : ET [.sc 9 (.int .u64)]) : walk E76 (vernierref07_Cut.G k) (cutsAt k vernierref07_Cut.cuts) (retE E76 Go.Proofs.Tryz.f76.results.toList S76) 4000 true (stackAt B76 [1, 1, 2, 1, 0, 1, 1, 1, 1, 1]) (mkE [.sc 9 (.int .u64)] x St.nil) = vernierref07_Cut.j0 (k + 1) x := by kernel_rfl
theorem vernierref07_Cut.w1 (k : Nat) (x : ET [.sc 0 (.int .i64), .sc 10 (.str), .sc 11 (.bool), .box 3 34 [.int .i64, .bool, .int .i64, .int .u64, .int .u64, .bool]]) : walk E76 (vernierref07_Cut.G k) (cutsAt k vernierref07_Cut.cuts) (retE E76 Go.Proofs.Tryz.f76.results.toList S76) 4000 true (stackAt B76 [1, 1, 1, 1, 1, 1, 1, 1]) (mkE [.sc 0 (.int .i64), .sc 10 (.str), .sc 11 (.bool), .box 3 34 [.int .i64, .bool, .int .i64, .int .u64, .int .u64, .bool]] x St.nil) = vernierref07_Cut.j1 (k + 1) x.1 x.2.1 x.2.2.1 x.2.2.2.2.2.1 x.2.2.2.2.2.2.2.2 := by kernel_rfl
theorem vernierref07_Cut.w2 (k : Nat) (x : ET [.sc 0 (.int .i64), .sc 10 (.str), .sc 73 (.bool), .box 3 34 [.int .i64, .bool, .int .i64, .int .u64, .int .u64, .bool]]) : walk E76 (vernierref07_Cut.G k) (cutsAt k vernierref07_Cut.cuts) (retE E76 Go.Proofs.Tryz.f76.results.toList S76) 4000 true (stackAt B76 [1, 0, 1, 1, 1, 1, 1, 1, 1, 1, 1, 1]) (mkE [.sc 0 (.int .i64), .sc 10 (.str), .sc 73 (.bool), .box 3 34 [.int .i64, .bool, .int .i64, .int .u64, .int .u64, .bool]] x St.nil) = vernierref07_Cut.j2 (k + 1) x.1 x.2.1 x.2.2.1 x.2.2.2.2.2.1 x.2.2.2.2.2.2.2.2 := Eq.trans (b := vernierref07_Cut.j2R k x.1 x.2.1 x.2.2.1 x.2.2.2.2.2.1 x.2.2.2.2.2.2.2.2) (by kernel_rfl) (vernierref07_Cut.j2E k x.1 x.2.1 x.2.2.1 x.2.2.2.2.2.1 x.2.2.2.2.2.2.2.2)
theorem vernierref07_Cut.w (k : Nat) (x : TT S76.sa) : walk E76 (vernierref07_Cut.G k) (cutsAt k vernierref07_Cut.cuts) (retE E76 Go.Proofs.Tryz.f76.results.toList S76) 4000 true [([], .code B76)] (St0 S76 x) = vernierref07_Cut.f k x.1 x.2.1 x.2.2.1 x.2.2.2.1 x.2.2.2.2.1 x.2.2.2.2.2.1 x.2.2.2.2.2.2 := by kernel_rfl
theorem vernierref07_Cut.ok (k : Nat) : FnOk Go.Proofs.Tryz.prog E76.eT 76 (vernierref07_Cut.c k) := FnOk.walk (E := E76) (body := B76) Go.Proofs.Tryz.func76 rfl (by rfl) Go.Proofs.Tryz.ntmps76 S76 rfl (fun k x => vernierref07_Cut.f k x.1 x.2.1 x.2.2.1 x.2.2.2.1 x.2.2.2.2.1 x.2.2.2.2.2.1 x.2.2.2.2.2.2) vernierref07_Cut.G (fun k => ⟨vernierref05_Is.ok, vernierref07_Sound.ok, vernierref01_Text.ok k, vernierref01_Number.ok k, vernierref05_Power.ok k, vernierref07_some.ok k, vernierref06_Head.ok k, vernierref07_left.ok k, trivial⟩) 4000 vernierref07_Cut.cuts ⟨⟨fun _ => rfl, fun k x q h => (vernierref07_Cut.w0 k x).trans h⟩, ⟨fun _ => rfl, fun k x q h => (vernierref07_Cut.w1 k x).trans h⟩, ⟨fun _ => rfl, fun k x q h => (vernierref07_Cut.w2 k x).trans h⟩, trivial⟩ (fun k x r h => (vernierref07_Cut.w k x).trans h) k
noncomputable def E98 : En := ⟨Go.Proofs.Tryz.prog, 45, Go.Proofs.Tryz.f98.ntmps⟩
noncomputable def S98 : Sig := ⟨[.s, .s], [(.int .i64), (.int .u64)], false, [.s], [(.int .u64)], false⟩
noncomputable def B98 : Go.Code := Go.Proofs.Tryz.f98.body.get!
def vernierref06_Fold.f (k : Nat) (a0 : Int) (a1 : Int) : Option (Int) := (vernierref05_Fold.f k a0 a1).bind fun t100 => (some t100.1)
--@ok
noncomputable def vernierref06_Fold.c (k : Nat) : Con := S98.con fun x => vernierref06_Fold.f k x.1 x.2
noncomputable def vernierref06_Fold.G (k : Nat) : List (Go.FuncId × Con) := [(101, vernierref05_Fold.c k)]
noncomputable def vernierref06_Fold.cuts : List (Cut (TT S98.sb)) := []
theorem vernierref06_Fold.w (k : Nat) (x : TT S98.sa) : walk E98 (vernierref06_Fold.G k) (cutsAt k vernierref06_Fold.cuts) (retE E98 Go.Proofs.Tryz.f98.results.toList S98) 4000 true [([], .code B98)] (St0 S98 x) = vernierref06_Fold.f k x.1 x.2 := by kernel_rfl
theorem vernierref06_Fold.ok (k : Nat) : FnOk Go.Proofs.Tryz.prog E98.eT 98 (vernierref06_Fold.c k) := FnOk.walk (E := E98) (body := B98) Go.Proofs.Tryz.func98 rfl (by rfl) Go.Proofs.Tryz.ntmps98 S98 rfl (fun k x => vernierref06_Fold.f k x.1 x.2) vernierref06_Fold.G (fun k => ⟨vernierref05_Fold.ok k, trivial⟩) 4000 vernierref06_Fold.cuts trivial (fun k x r h => (vernierref06_Fold.w k x).trans h) k
noncomputable def E77 : En := ⟨Go.Proofs.Tryz.prog, 45, Go.Proofs.Tryz.f77.ntmps⟩
noncomputable def S77 : Sig := ⟨[.s, .s], [(.int .i64), (.int .u64)], false, [.s], [(.int .u64)], false⟩
noncomputable def B77 : Go.Code := Go.Proofs.Tryz.f77.body.get!
def vernierref06_Neg.f (k : Nat) (a0 : Int) (a1 : Int) : Option (Int) := (vernierref06_Fold.f k a0 (IntKind.u64.wrap (-a1))).bind fun t100 => (some t100)
--@ok
noncomputable def vernierref06_Neg.c (k : Nat) : Con := S77.con fun x => vernierref06_Neg.f k x.1 x.2
noncomputable def vernierref06_Neg.G (k : Nat) : List (Go.FuncId × Con) := [(98, vernierref06_Fold.c k)]
noncomputable def vernierref06_Neg.cuts : List (Cut (TT S77.sb)) := []
theorem vernierref06_Neg.w (k : Nat) (x : TT S77.sa) : walk E77 (vernierref06_Neg.G k) (cutsAt k vernierref06_Neg.cuts) (retE E77 Go.Proofs.Tryz.f77.results.toList S77) 4000 true [([], .code B77)] (St0 S77 x) = vernierref06_Neg.f k x.1 x.2 := by kernel_rfl
theorem vernierref06_Neg.ok (k : Nat) : FnOk Go.Proofs.Tryz.prog E77.eT 77 (vernierref06_Neg.c k) := FnOk.walk (E := E77) (body := B77) Go.Proofs.Tryz.func77 rfl (by rfl) Go.Proofs.Tryz.ntmps77 S77 rfl (fun k x => vernierref06_Neg.f k x.1 x.2) vernierref06_Neg.G (fun k => ⟨vernierref06_Fold.ok k, trivial⟩) 4000 vernierref06_Neg.cuts trivial (fun k x r h => (vernierref06_Neg.w k x).trans h) k
end Go.Proofs.YtfbbnpliaokmbaaGreat.Fn
