-- Written by a program of this session out of its own texts (wip/tools/link.py).
import Derived.Below
import Derived.ChangeKeysEq
import Derived.Deep.MidRow
import Derived.Deep.RegionHeld3
import Derived.Great.BuildSlice
import Derived.IntWalk
import Derived.KernelRfl
import Derived.LaidEql
import Derived.Laws.Bits64
import Derived.Laws.BitsLemmas
import Derived.Laws.BytesArg
import Derived.Laws.IdiomCopy
import Derived.Laws.OwnMore
import Derived.Laws.Rows
import Derived.Laws.Slices
import Derived.Laws.StructEq
import Derived.Laws.Tables
import Derived.Lib.BitFns
import Derived.Lib.Slices
import Derived.Lib.Small
import Derived.Lib.Strings
import Derived.Lib.Walk
import Derived.Maps.AppendAt
import Derived.OrdersHeld
import Derived.RowKit
import Derived.Shelf.Spec.BitsCarry
import Derived.Test.YtnjhblakghjdoaaGreatProg
import Derived.Test.YtnjhblakghjdoaaGreatCGenHorners1
import Derived.Test.YtnjhblakghjdoaaGreatCGenHorners3
import Derived.Test.YtnjhblakghjdoaaGreatCGenHorners7
set_option maxRecDepth 100000
set_option linter.unusedVariables false
noncomputable section
namespace Go.Proofs.YtnjhblakghjdoaaGreat.Fn
open Go Go.RowKit Go.Proofs.YtnjhblakghjdoaaGreat.Ab
noncomputable def E148 : En := ⟨Go.Proofs.Tryz.prog, 156, Go.Proofs.Tryz.f148.ntmps⟩
noncomputable def S148 : Sig := ⟨[.s], [(.int .i64)], false, [.s], [.bool], false⟩
noncomputable def B148 : Go.Code := Go.Proofs.Tryz.f148.body.get!
def shape_is.f (a0 : Int) : Option (Bool) := if a0 = 8 then (some true) else (if a0 = 16 then (some true) else (if a0 = 32 then (some true) else (if a0 = 64 then (some true) else (some false))))
--@ok
def shape_is.fR (a0 : Int) : Option (Bool) := if a0 = 8 then (if a0 = 8 then (some true) else (some false)) else (if a0 = 16 then (if a0 = 16 then (some true) else (some false)) else (if a0 = 32 then (if a0 = 32 then (some true) else (some false)) else (if a0 = 64 then (some true) else (some false))))
theorem shape_is.fE (a0 : Int) : shape_is.fR a0 = shape_is.f a0 := by
  unfold shape_is.fR shape_is.f
  exact iteC (fun h0 => (if_pos h0).trans (rfl)) (fun h0 => iteC (fun h1 => (if_pos h1).trans (rfl)) (fun h1 => iteC (fun h2 => (if_pos h2).trans (rfl)) (fun h2 => iteC (fun h3 => rfl) (fun h3 => rfl))))
noncomputable def shape_is.c : Con := S148.con fun x => shape_is.f x
noncomputable def shape_is.G (k : Nat) : List (Go.FuncId × Con) := []
noncomputable def shape_is.cuts : List (Cut (TT S148.sb)) := []
theorem shape_is.w (k : Nat) (x : TT S148.sa) : walk E148 (shape_is.G k) (cutsAt k shape_is.cuts) (retE E148 Go.Proofs.Tryz.f148.results.toList S148) 4000 true [([], .code B148)] (St0 S148 x) = shape_is.f x := Eq.trans (b := shape_is.fR x) (by kernel_rfl) (shape_is.fE x)
theorem shape_is.ok : FnOk Go.Proofs.Tryz.prog E148.eT 148 (shape_is.c) := FnOk.walk (E := E148) (body := B148) Go.Proofs.Tryz.func148 rfl (by rfl) Go.Proofs.Tryz.ntmps148 S148 rfl (fun k x => shape_is.f x) shape_is.G (fun k => trivial) 4000 shape_is.cuts trivial (fun k x r h => (shape_is.w k x).trans h) 0
noncomputable def E178 : En := ⟨Go.Proofs.Tryz.prog, 156, Go.Proofs.Tryz.f178.ntmps⟩
noncomputable def S178 : Sig := ⟨[.s], [(.int .i64)], false, [.s], [(.int .u64)], false⟩
noncomputable def B178 : Go.Code := Go.Proofs.Tryz.f178.body.get!
def lead_ones.f (a0 : Int) : Option (Int) := if a0 = 64 then (some 18446744073709551615) else (if 0 ≤ a0 then (some (IntKind.u64.wrap ((shl .u64 1 a0) - 1))) else (none))
--@ok
noncomputable def lead_ones.c : Con := S178.con fun x => lead_ones.f x
noncomputable def lead_ones.G (k : Nat) : List (Go.FuncId × Con) := []
noncomputable def lead_ones.cuts : List (Cut (TT S178.sb)) := []
theorem lead_ones.w (k : Nat) (x : TT S178.sa) : walk E178 (lead_ones.G k) (cutsAt k lead_ones.cuts) (retE E178 Go.Proofs.Tryz.f178.results.toList S178) 4000 true [([], .code B178)] (St0 S178 x) = lead_ones.f x := by kernel_rfl
theorem lead_ones.ok : FnOk Go.Proofs.Tryz.prog E178.eT 178 (lead_ones.c) := FnOk.walk (E := E178) (body := B178) Go.Proofs.Tryz.func178 rfl (by rfl) Go.Proofs.Tryz.ntmps178 S178 rfl (fun k x => lead_ones.f x) lead_ones.G (fun k => trivial) 4000 lead_ones.cuts trivial (fun k x r h => (lead_ones.w k x).trans h) 0
noncomputable def E149 : En := ⟨Go.Proofs.Tryz.prog, 156, Go.Proofs.Tryz.f149.ntmps⟩
noncomputable def S149 : Sig := ⟨[.s], [(.int .i64)], true, [.s, .s], [(.int .u64), .err], false⟩
noncomputable def B149 : Go.Code := Go.Proofs.Tryz.f149.body.get!
def lead_Mask.f (a0 : Int) : Option (Int × Option Int) := if a0 < 0 then (some (0, some 1)) else (if a0 > 64 then (some (0, some 1)) else ((lead_ones.f a0).bind fun t100 => (some (t100, none))))
--@ok
noncomputable def lead_Mask.c : Con := S149.con fun x => lead_Mask.f x
noncomputable def lead_Mask.G (k : Nat) : List (Go.FuncId × Con) := [(178, lead_ones.c)]
noncomputable def lead_Mask.cuts : List (Cut (TT S149.sb)) := []
theorem lead_Mask.w (k : Nat) (x : TT S149.sa) : walk E149 (lead_Mask.G k) (cutsAt k lead_Mask.cuts) (retE E149 Go.Proofs.Tryz.f149.results.toList S149) 4000 true [([], .code B149)] (St0 S149 x) = lead_Mask.f x := by kernel_rfl
theorem lead_Mask.ok : FnOk Go.Proofs.Tryz.prog E149.eT 149 (lead_Mask.c) := FnOk.walk (E := E149) (body := B149) Go.Proofs.Tryz.func149 rfl (by rfl) Go.Proofs.Tryz.ntmps149 S149 rfl (fun k x => lead_Mask.f x) lead_Mask.G (fun k => ⟨lead_ones.ok, trivial⟩) 4000 lead_Mask.cuts trivial (fun k x r h => (lead_Mask.w k x).trans h) 0
noncomputable def E113 : En := ⟨Go.Proofs.Tryz.prog, 156, Go.Proofs.Tryz.f113.ntmps⟩
noncomputable def S113 : Sig := ⟨[.s, .s], [(.int .i64), (.int .u64)], true, [.s, .s], [(.int .u64), .err], false⟩
noncomputable def B113 : Go.Code := Go.Proofs.Tryz.f113.body.get!
def shape_Fold.f (a0 : Int) (a1 : Int) : Option (Int × Option Int) := (shape_is.f a0).bind fun t100 => (if t100 = true then ((lead_Mask.f a0).bind fun t101 => (some (Go.bits .and .u64 a1 t101.1, t101.2))) else (some (0, some 2)))
--@ok
noncomputable def shape_Fold.c : Con := S113.con fun x => shape_Fold.f x.1 x.2
noncomputable def shape_Fold.G (k : Nat) : List (Go.FuncId × Con) := [(148, shape_is.c), (149, lead_Mask.c)]
noncomputable def shape_Fold.cuts : List (Cut (TT S113.sb)) := []
theorem shape_Fold.w (k : Nat) (x : TT S113.sa) : walk E113 (shape_Fold.G k) (cutsAt k shape_Fold.cuts) (retE E113 Go.Proofs.Tryz.f113.results.toList S113) 4000 true [([], .code B113)] (St0 S113 x) = shape_Fold.f x.1 x.2 := by kernel_rfl
theorem shape_Fold.ok : FnOk Go.Proofs.Tryz.prog E113.eT 113 (shape_Fold.c) := FnOk.walk (E := E113) (body := B113) Go.Proofs.Tryz.func113 rfl (by rfl) Go.Proofs.Tryz.ntmps113 S113 rfl (fun k x => shape_Fold.f x.1 x.2) shape_Fold.G (fun k => ⟨shape_is.ok, lead_Mask.ok, trivial⟩) 4000 shape_Fold.cuts trivial (fun k x r h => (shape_Fold.w k x).trans h) 0
noncomputable def E118 : En := ⟨Go.Proofs.Tryz.prog, 156, Go.Proofs.Tryz.f118.ntmps⟩
noncomputable def S118 : Sig := ⟨[.s, .s], [(.int .i64), (.int .u64)], true, [.s, .s], [(.int .i64), .err], false⟩
noncomputable def B118 : Go.Code := Go.Proofs.Tryz.f118.body.get!
def shape_Kind.f (a0 : Int) (a1 : Int) : Option (Int × Option Int) := (shape_Fold.f a0 a1).bind fun t100 => (if t100.2.isNone = true then (if t100.1 = 0 then (some (0, none)) else (if 0 ≤ (wrap64 (a0 - 1)) then (if t100.1 = (shl .u64 1 (wrap64 (a0 - 1))) then (some (2, none)) else (some (1, none))) else (none))) else (some (0, some (t100.2.getD 0))))
--@ok
noncomputable def shape_Kind.c : Con := S118.con fun x => shape_Kind.f x.1 x.2
noncomputable def shape_Kind.G (k : Nat) : List (Go.FuncId × Con) := [(113, shape_Fold.c)]
noncomputable def shape_Kind.cuts : List (Cut (TT S118.sb)) := []
theorem shape_Kind.w (k : Nat) (x : TT S118.sa) : walk E118 (shape_Kind.G k) (cutsAt k shape_Kind.cuts) (retE E118 Go.Proofs.Tryz.f118.results.toList S118) 4000 true [([], .code B118)] (St0 S118 x) = shape_Kind.f x.1 x.2 := by kernel_rfl
theorem shape_Kind.ok : FnOk Go.Proofs.Tryz.prog E118.eT 118 (shape_Kind.c) := FnOk.walk (E := E118) (body := B118) Go.Proofs.Tryz.func118 rfl (by rfl) Go.Proofs.Tryz.ntmps118 S118 rfl (fun k x => shape_Kind.f x.1 x.2) shape_Kind.G (fun k => ⟨shape_Fold.ok, trivial⟩) 4000 shape_Kind.cuts trivial (fun k x r h => (shape_Kind.w k x).trans h) 0
noncomputable def E151 : En := ⟨Go.Proofs.Tryz.prog, 156, Go.Proofs.Tryz.f151.ntmps⟩
noncomputable def S151 : Sig := ⟨[.s, .s], [(.int .u64), (.int .i64)], true, [.s, .s], [(.int .i64), .err], false⟩
noncomputable def B151 : Go.Code := Go.Proofs.Tryz.f151.body.get!
def lead_Extend.f (a0 : Int) (a1 : Int) : Option (Int × Option Int) := if a1 < 1 then (some (0, some 1)) else (if a1 > 64 then (some (0, some 1)) else (if 0 ≤ (wrap64 (64 - a1)) then (some (shr .i64 (wrap64 (shl .u64 a0 (wrap64 (64 - a1)))) (wrap64 (64 - a1)), none)) else (none)))
--@ok
def lead_Extend.fR (a0 : Int) (a1 : Int) : Option (Int × Option Int) := if a1 < 1 then (some (0, some 1)) else (if a1 > 64 then (some (0, some 1)) else (if 0 ≤ (wrap64 (64 - a1)) then (if 0 ≤ (wrap64 (64 - a1)) then (some (shr .i64 (wrap64 (shl .u64 a0 (wrap64 (64 - a1)))) (wrap64 (64 - a1)), none)) else (none)) else (none)))
theorem lead_Extend.fE (a0 : Int) (a1 : Int) : lead_Extend.fR a0 a1 = lead_Extend.f a0 a1 := by
  unfold lead_Extend.fR lead_Extend.f
  exact iteC (fun h0 => rfl) (fun h0 => iteC (fun h1 => rfl) (fun h1 => iteC (fun h2 => (if_pos h2).trans (rfl)) (fun h2 => rfl)))
noncomputable def lead_Extend.c : Con := S151.con fun x => lead_Extend.f x.1 x.2
noncomputable def lead_Extend.G (k : Nat) : List (Go.FuncId × Con) := []
noncomputable def lead_Extend.cuts : List (Cut (TT S151.sb)) := []
theorem lead_Extend.w (k : Nat) (x : TT S151.sa) : walk E151 (lead_Extend.G k) (cutsAt k lead_Extend.cuts) (retE E151 Go.Proofs.Tryz.f151.results.toList S151) 4000 true [([], .code B151)] (St0 S151 x) = lead_Extend.f x.1 x.2 := Eq.trans (b := lead_Extend.fR x.1 x.2) (by kernel_rfl) (lead_Extend.fE x.1 x.2)
theorem lead_Extend.ok : FnOk Go.Proofs.Tryz.prog E151.eT 151 (lead_Extend.c) := FnOk.walk (E := E151) (body := B151) Go.Proofs.Tryz.func151 rfl (by rfl) Go.Proofs.Tryz.ntmps151 S151 rfl (fun k x => lead_Extend.f x.1 x.2) lead_Extend.G (fun k => trivial) 4000 lead_Extend.cuts trivial (fun k x r h => (lead_Extend.w k x).trans h) 0
noncomputable def E115 : En := ⟨Go.Proofs.Tryz.prog, 156, Go.Proofs.Tryz.f115.ntmps⟩
noncomputable def S115 : Sig := ⟨[.s, .s], [(.int .i64), (.int .u64)], true, [.s, .s], [(.int .i64), .err], false⟩
noncomputable def B115 : Go.Code := Go.Proofs.Tryz.f115.body.get!
def shape_Rank.f (a0 : Int) (a1 : Int) : Option (Int × Option Int) := (shape_is.f a0).bind fun t100 => (if t100 = true then ((lead_Extend.f a1 a0).bind fun t101 => (some (t101.1, t101.2))) else (some (0, some 2)))
--@ok
noncomputable def shape_Rank.c : Con := S115.con fun x => shape_Rank.f x.1 x.2
noncomputable def shape_Rank.G (k : Nat) : List (Go.FuncId × Con) := [(148, shape_is.c), (151, lead_Extend.c)]
noncomputable def shape_Rank.cuts : List (Cut (TT S115.sb)) := []
theorem shape_Rank.w (k : Nat) (x : TT S115.sa) : walk E115 (shape_Rank.G k) (cutsAt k shape_Rank.cuts) (retE E115 Go.Proofs.Tryz.f115.results.toList S115) 4000 true [([], .code B115)] (St0 S115 x) = shape_Rank.f x.1 x.2 := by kernel_rfl
theorem shape_Rank.ok : FnOk Go.Proofs.Tryz.prog E115.eT 115 (shape_Rank.c) := FnOk.walk (E := E115) (body := B115) Go.Proofs.Tryz.func115 rfl (by rfl) Go.Proofs.Tryz.ntmps115 S115 rfl (fun k x => shape_Rank.f x.1 x.2) shape_Rank.G (fun k => ⟨shape_is.ok, lead_Extend.ok, trivial⟩) 4000 shape_Rank.cuts trivial (fun k x r h => (shape_Rank.w k x).trans h) 0
noncomputable def S182 : Sig := ⟨[.s], [(.int .u64)], false, [.s], [(.int .i64)], false⟩
def bits_Len64.f (a0 : Int) : Option (Int) := if 0 ≤ a0 ∧ a0 ≤ 18446744073709551615 then some (Lib.bitLen a0.toNat : Int) else none
--@ok
noncomputable def bits_Len64.c : Con := S182.con fun x => bits_Len64.f x
theorem bits_Len64.ok : FnOk Go.Proofs.Tryz.prog 156 182 bits_Len64.c := by
  intro (x : Int) (r : Int) w ok vs hF hv
  refine .inl ⟨enters Go.Proofs.Tryz.func182 rfl rfl vs w, ?_⟩
  have hF' : bits_Len64.f x = some r := hF
  unfold bits_Len64.f at hF'
  split at hF'
  · rename_i hx
    injection hF' with hF'
    subst hF'
    obtain ⟨l⟩ := vs
    match l, hv with
    | [], h => exact h.elim
    | [v], h =>
      obtain ⟨⟨rfl, -⟩, -⟩ := h
      refine (GLen.len64 x w hx.1 hx.2).mono ?_
      rintro e w' ⟨rfl, rfl⟩
      refine ⟨_, rfl, ⟨_, rfl, rfl, ?_, by simp, by simp⟩, .refl _ _⟩
      have h64 : (2 : Nat) ^ 64 = 18446744073709551616 := by decide
      have := Lib.bitLen_le x.toNat 64 (Nat.le_refl _) (by rw [h64]; have := hx.2; have := hx.1; generalize (show Int from x) = y at *; omega)
      constructor <;> simp only [kLo, kHi] <;> omega
    | _ :: _ :: _, h => exact h.2.elim
  · cases hF'
noncomputable def E177 : En := ⟨Go.Proofs.Tryz.prog, 156, Go.Proofs.Tryz.f177.ntmps⟩
noncomputable def S177 : Sig := ⟨[.s], [(.int .u64)], false, [.s], [(.int .i64)], false⟩
noncomputable def B177 : Go.Code := Go.Proofs.Tryz.f177.body.get!
def bits_LeadingZeros64.f (a0 : Int) : Option (Int) := (bits_Len64.f a0).bind fun t100 => (some (wrap64 (64 - t100)))
--@ok
noncomputable def bits_LeadingZeros64.c : Con := S177.con fun x => bits_LeadingZeros64.f x
noncomputable def bits_LeadingZeros64.G (k : Nat) : List (Go.FuncId × Con) := [(182, bits_Len64.c)]
noncomputable def bits_LeadingZeros64.cuts : List (Cut (TT S177.sb)) := []
theorem bits_LeadingZeros64.w (k : Nat) (x : TT S177.sa) : walk E177 (bits_LeadingZeros64.G k) (cutsAt k bits_LeadingZeros64.cuts) (retE E177 Go.Proofs.Tryz.f177.results.toList S177) 4000 true [([], .code B177)] (St0 S177 x) = bits_LeadingZeros64.f x := by kernel_rfl
theorem bits_LeadingZeros64.ok : FnOk Go.Proofs.Tryz.prog E177.eT 177 (bits_LeadingZeros64.c) := FnOk.walk (E := E177) (body := B177) Go.Proofs.Tryz.func177 rfl (by rfl) Go.Proofs.Tryz.ntmps177 S177 rfl (fun k x => bits_LeadingZeros64.f x) bits_LeadingZeros64.G (fun k => ⟨bits_Len64.ok, trivial⟩) 4000 bits_LeadingZeros64.cuts trivial (fun k x r h => (bits_LeadingZeros64.w k x).trans h) 0
noncomputable def E153 : En := ⟨Go.Proofs.Tryz.prog, 156, Go.Proofs.Tryz.f153.ntmps⟩
noncomputable def S153 : Sig := ⟨[.s, .s], [(.int .u64), (.int .i64)], true, [.s, .s, .s], [.bool, (.int .i64), .err], false⟩
noncomputable def B153 : Go.Code := Go.Proofs.Tryz.f153.body.get!
def lead_Run.j0 : Nat → Int → Int → Bool → Option (Bool × Int × Option Int)
 | 0, _, _, _ => none
 | k + 1, x0, x1, x13 => if x13 = true then (some (false, 0, some 1)) else (if 0 ≤ (wrap64 (64 - x1)) then (if ((shl .u64 x0 (wrap64 (64 - x1))) / 9223372036854775808) = 1 then ((bits_LeadingZeros64.f (Go.bits .xor .u64 18446744073709551615 (shl .u64 x0 (wrap64 (64 - x1))))).bind fun t100 => (some (((shl .u64 x0 (wrap64 (64 - x1))) / 9223372036854775808) == 1, mn t100 x1, none))) else ((bits_LeadingZeros64.f (shl .u64 x0 (wrap64 (64 - x1)))).bind fun t101 => (some (((shl .u64 x0 (wrap64 (64 - x1))) / 9223372036854775808) == 1, mn t101 x1, none)))) else (none))
def lead_Run.f (k : Nat) (a0 : Int) (a1 : Int) : Option (Bool × Int × Option Int) := if a1 < 1 then (lead_Run.j0 k a0 a1 true) else (lead_Run.j0 k a0 a1 (decide (a1 > 64)))
--@ok
noncomputable def lead_Run.c (k : Nat) : Con := S153.con fun x => lead_Run.f k x.1 x.2
noncomputable def lead_Run.G (k : Nat) : List (Go.FuncId × Con) := [(177, bits_LeadingZeros64.c)]
noncomputable def lead_Run.cuts : List (Cut (TT S153.sb)) := [⟨[1, 0, 1], [.sc 0 (.int .u64), .sc 1 (.int .i64), .sc 13 (.bool)], fun k x => lead_Run.j0 k x.1 x.2.1 x.2.2⟩]
theorem lead_Run.w0 (k : Nat) (x : ET [.sc 0 (.int .u64), .sc 1 (.int .i64), .sc 13 (.bool)]) : walk E153 (lead_Run.G k) (cutsAt k lead_Run.cuts) (retE E153 Go.Proofs.Tryz.f153.results.toList S153) 4000 true (stackAt B153 [1, 0, 1]) (mkE [.sc 0 (.int .u64), .sc 1 (.int .i64), .sc 13 (.bool)] x St.nil) = lead_Run.j0 (k + 1) x.1 x.2.1 x.2.2 := by kernel_rfl
theorem lead_Run.w (k : Nat) (x : TT S153.sa) : walk E153 (lead_Run.G k) (cutsAt k lead_Run.cuts) (retE E153 Go.Proofs.Tryz.f153.results.toList S153) 4000 true [([], .code B153)] (St0 S153 x) = lead_Run.f k x.1 x.2 := by kernel_rfl
theorem lead_Run.ok (k : Nat) : FnOk Go.Proofs.Tryz.prog E153.eT 153 (lead_Run.c k) := FnOk.walk (E := E153) (body := B153) Go.Proofs.Tryz.func153 rfl (by rfl) Go.Proofs.Tryz.ntmps153 S153 rfl (fun k x => lead_Run.f k x.1 x.2) lead_Run.G (fun k => ⟨bits_LeadingZeros64.ok, trivial⟩) 4000 lead_Run.cuts ⟨⟨fun _ => rfl, fun k x q h => (lead_Run.w0 k x).trans h⟩, trivial⟩ (fun k x r h => (lead_Run.w k x).trans h) k
noncomputable def E179 : En := ⟨Go.Proofs.Tryz.prog, 156, Go.Proofs.Tryz.f179.ntmps⟩
noncomputable def S179 : Sig := ⟨[.s, .s], [(.int .i64), (.int .i64)], false, [.s], [.bool], false⟩
noncomputable def B179 : Go.Code := Go.Proofs.Tryz.f179.body.get!
def lead_field.f (a0 : Int) (a1 : Int) : Option (Bool) := if a0 ≥ 0 then (if a0 ≤ 64 then (if a1 ≥ 0 then (some (decide (a1 ≤ (wrap64 (64 - a0))))) else (some false)) else (some false)) else (some false)
--@ok
noncomputable def lead_field.c : Con := S179.con fun x => lead_field.f x.1 x.2
noncomputable def lead_field.G (k : Nat) : List (Go.FuncId × Con) := []
noncomputable def lead_field.cuts : List (Cut (TT S179.sb)) := []
theorem lead_field.w (k : Nat) (x : TT S179.sa) : walk E179 (lead_field.G k) (cutsAt k lead_field.cuts) (retE E179 Go.Proofs.Tryz.f179.results.toList S179) 4000 true [([], .code B179)] (St0 S179 x) = lead_field.f x.1 x.2 := by kernel_rfl
theorem lead_field.ok : FnOk Go.Proofs.Tryz.prog E179.eT 179 (lead_field.c) := FnOk.walk (E := E179) (body := B179) Go.Proofs.Tryz.func179 rfl (by rfl) Go.Proofs.Tryz.ntmps179 S179 rfl (fun k x => lead_field.f x.1 x.2) lead_field.G (fun k => trivial) 4000 lead_field.cuts trivial (fun k x r h => (lead_field.w k x).trans h) 0
noncomputable def E154 : En := ⟨Go.Proofs.Tryz.prog, 156, Go.Proofs.Tryz.f154.ntmps⟩
noncomputable def S154 : Sig := ⟨[.s, .s, .s], [(.int .u64), (.int .i64), (.int .i64)], true, [.s, .s], [(.int .u64), .err], false⟩
noncomputable def B154 : Go.Code := Go.Proofs.Tryz.f154.body.get!
def lead_Field.f (a0 : Int) (a1 : Int) (a2 : Int) : Option (Int × Option Int) := (lead_field.f a1 a2).bind fun t100 => (if t100 = true then (if 0 ≤ a1 then ((lead_ones.f a2).bind fun t101 => (some (Go.bits .and .u64 (shr .u64 a0 a1) t101, none))) else (none)) else (some (0, some 1)))
--@ok
noncomputable def lead_Field.c : Con := S154.con fun x => lead_Field.f x.1 x.2.1 x.2.2
noncomputable def lead_Field.G (k : Nat) : List (Go.FuncId × Con) := [(178, lead_ones.c), (179, lead_field.c)]
noncomputable def lead_Field.cuts : List (Cut (TT S154.sb)) := []
theorem lead_Field.w (k : Nat) (x : TT S154.sa) : walk E154 (lead_Field.G k) (cutsAt k lead_Field.cuts) (retE E154 Go.Proofs.Tryz.f154.results.toList S154) 4000 true [([], .code B154)] (St0 S154 x) = lead_Field.f x.1 x.2.1 x.2.2 := by kernel_rfl
theorem lead_Field.ok : FnOk Go.Proofs.Tryz.prog E154.eT 154 (lead_Field.c) := FnOk.walk (E := E154) (body := B154) Go.Proofs.Tryz.func154 rfl (by rfl) Go.Proofs.Tryz.ntmps154 S154 rfl (fun k x => lead_Field.f x.1 x.2.1 x.2.2) lead_Field.G (fun k => ⟨lead_ones.ok, lead_field.ok, trivial⟩) 4000 lead_Field.cuts trivial (fun k x r h => (lead_Field.w k x).trans h) 0
end Go.Proofs.YtnjhblakghjdoaaGreat.Fn
set_option maxRecDepth 100000
set_option linter.unusedVariables false
noncomputable section
namespace Go.Proofs.YtnjhblakghjdoaaGreat.Fn
open Go Go.RowKit Go.Proofs.YtnjhblakghjdoaaGreat.Ab
noncomputable def E119 : En := ⟨Go.Proofs.Tryz.prog, 156, Go.Proofs.Tryz.f119.ntmps⟩
noncomputable def S119 : Sig := ⟨[.s, .s], [(.int .i64), (.int .u64)], true, [.g 8, .s], [.bool, .bool, (.int .i64), (.int .i64), (.int .i64), (.int .i64), (.int .i64), (.int .u64), .err], false⟩
noncomputable def B119 : Go.Code := Go.Proofs.Tryz.f119.body.get!
mutual
def codec_Split.j0 : Nat → Int → Int → Option Int → Bool → Option (Bool × Bool × Int × Int × Int × Int × Int × Int × Option Int)
 | 0, _, _, _, _ => none
 | k + 1, x0, x1, x7, x25 => if x25 = true then (some (false, false, 0, 0, 0, 0, 0, 0, x7)) else ((shape_Rank.f x0 x1).bind fun t101 => (if t101.1 < 0 then (codec_Split.j1 k x0 (IntKind.u64.wrap (-x1)) true) else (codec_Split.j1 k x0 x1 false)))
def codec_Split.j1 : Nat → Int → Int → Bool → Option (Bool × Bool × Int × Int × Int × Int × Int × Int × Option Int)
 | 0, _, _, _ => none
 | k + 1, x0, x1, x8000 => (lead_Run.f k x1 (wrap64 (x0 - 1))).bind fun t102 => (if t102.1 = true then ((lead_Field.f x1 (wrap64 ((mx (wrap64 ((wrap64 ((wrap64 (x0 - 1)) - t102.2.1)) - 1)) 0) - (mn (mx (wrap64 ((wrap64 ((wrap64 (x0 - 1)) - t102.2.1)) - 1)) 0) 2))) (mn (mx (wrap64 ((wrap64 ((wrap64 (x0 - 1)) - t102.2.1)) - 1)) 0) 2)).bind fun t103 => ((lead_Field.f x1 0 (wrap64 ((mx (wrap64 ((wrap64 ((wrap64 (x0 - 1)) - t102.2.1)) - 1)) 0) - (mn (mx (wrap64 ((wrap64 ((wrap64 (x0 - 1)) - t102.2.1)) - 1)) 0) 2)))).bind fun t104 => (some (x8000, t102.1, t102.2.1, wrap64 (t102.2.1 - 1), mn (mx (wrap64 ((wrap64 ((wrap64 (x0 - 1)) - t102.2.1)) - 1)) 0) 2, wrap64 ((wrap64 t103.1) * (2 ^ (((2 - (mn (mx (wrap64 ((wrap64 ((wrap64 (x0 - 1)) - t102.2.1)) - 1)) 0) 2)) : Int).toNat))), wrap64 ((mx (wrap64 ((wrap64 ((wrap64 (x0 - 1)) - t102.2.1)) - 1)) 0) - (mn (mx (wrap64 ((wrap64 ((wrap64 (x0 - 1)) - t102.2.1)) - 1)) 0) 2)), t104.1, none)))) else ((lead_Field.f x1 (wrap64 ((mx (wrap64 ((wrap64 ((wrap64 (x0 - 1)) - t102.2.1)) - 1)) 0) - (mn (mx (wrap64 ((wrap64 ((wrap64 (x0 - 1)) - t102.2.1)) - 1)) 0) 2))) (mn (mx (wrap64 ((wrap64 ((wrap64 (x0 - 1)) - t102.2.1)) - 1)) 0) 2)).bind fun t105 => ((lead_Field.f x1 0 (wrap64 ((mx (wrap64 ((wrap64 ((wrap64 (x0 - 1)) - t102.2.1)) - 1)) 0) - (mn (mx (wrap64 ((wrap64 ((wrap64 (x0 - 1)) - t102.2.1)) - 1)) 0) 2)))).bind fun t106 => (some (x8000, t102.1, t102.2.1, wrap64 (-t102.2.1), mn (mx (wrap64 ((wrap64 ((wrap64 (x0 - 1)) - t102.2.1)) - 1)) 0) 2, wrap64 ((wrap64 t105.1) * (2 ^ (((2 - (mn (mx (wrap64 ((wrap64 ((wrap64 (x0 - 1)) - t102.2.1)) - 1)) 0) 2)) : Int).toNat))), wrap64 ((mx (wrap64 ((wrap64 ((wrap64 (x0 - 1)) - t102.2.1)) - 1)) 0) - (mn (mx (wrap64 ((wrap64 ((wrap64 (x0 - 1)) - t102.2.1)) - 1)) 0) 2)), t106.1, none)))))
end
def codec_Split.f (k : Nat) (a0 : Int) (a1 : Int) : Option (Bool × Bool × Int × Int × Int × Int × Int × Int × Option Int) := (shape_Kind.f a0 a1).bind fun t100 => (if t100.2.isNone = true then (codec_Split.j0 k a0 a1 none (t100.1 != 1)) else (codec_Split.j0 k a0 a1 (some (t100.2.getD 0)) true))
--@ok
noncomputable def codec_Split.c (k : Nat) : Con := S119.con fun x => codec_Split.f k x.1 x.2
noncomputable def codec_Split.G (k : Nat) : List (Go.FuncId × Con) := [(115, shape_Rank.c), (118, shape_Kind.c), (153, lead_Run.c k), (154, lead_Field.c)]
noncomputable def codec_Split.cuts : List (Cut (TT S119.sb)) := [⟨[1, 0, 1, 1], [.sc 0 (.int .i64), .sc 1 (.int .u64), .sc 7 (.err), .sc 25 (.bool), .box 4 135 [.bool, .bool, .int .i64, .int .i64, .int .i64, .int .i64, .int .i64, .int .u64]], fun k x => codec_Split.j0 k x.1 x.2.1 x.2.2.1 x.2.2.2.1⟩, ⟨[1, 1, 1, 1, 1], [.sc 0 (.int .i64), .sc 1 (.int .u64), .box 4 135 [.bool, .bool, .int .i64, .int .i64, .int .i64, .int .i64, .int .i64, .int .u64], .box 8 135 [.bool, .bool, .int .i64, .int .i64, .int .i64, .int .i64, .int .i64, .int .u64]], fun k x => codec_Split.j1 k x.1 x.2.1 x.2.2.2.1⟩]
theorem codec_Split.w0 (k : Nat) (x : ET [.sc 0 (.int .i64), .sc 1 (.int .u64), .sc 7 (.err), .sc 25 (.bool), .box 4 135 [.bool, .bool, .int .i64, .int .i64, .int .i64, .int .i64, .int .i64, .int .u64]]) : walk E119 (codec_Split.G k) (cutsAt k codec_Split.cuts) (retE E119 Go.Proofs.Tryz.f119.results.toList S119) 4000 true (stackAt B119 [1, 0, 1, 1]) (mkE [.sc 0 (.int .i64), .sc 1 (.int .u64), .sc 7 (.err), .sc 25 (.bool), .box 4 135 [.bool, .bool, .int .i64, .int .i64, .int .i64, .int .i64, .int .i64, .int .u64]] x St.nil) = codec_Split.j0 (k + 1) x.1 x.2.1 x.2.2.1 x.2.2.2.1 := by kernel_rfl
theorem codec_Split.w1 (k : Nat) (x : ET [.sc 0 (.int .i64), .sc 1 (.int .u64), .box 4 135 [.bool, .bool, .int .i64, .int .i64, .int .i64, .int .i64, .int .i64, .int .u64], .box 8 135 [.bool, .bool, .int .i64, .int .i64, .int .i64, .int .i64, .int .i64, .int .u64]]) : walk E119 (codec_Split.G k) (cutsAt k codec_Split.cuts) (retE E119 Go.Proofs.Tryz.f119.results.toList S119) 4000 true (stackAt B119 [1, 1, 1, 1, 1]) (mkE [.sc 0 (.int .i64), .sc 1 (.int .u64), .box 4 135 [.bool, .bool, .int .i64, .int .i64, .int .i64, .int .i64, .int .i64, .int .u64], .box 8 135 [.bool, .bool, .int .i64, .int .i64, .int .i64, .int .i64, .int .i64, .int .u64]] x St.nil) = codec_Split.j1 (k + 1) x.1 x.2.1 x.2.2.2.1 := by kernel_rfl
theorem codec_Split.w (k : Nat) (x : TT S119.sa) : walk E119 (codec_Split.G k) (cutsAt k codec_Split.cuts) (retE E119 Go.Proofs.Tryz.f119.results.toList S119) 4000 true [([], .code B119)] (St0 S119 x) = codec_Split.f k x.1 x.2 := by kernel_rfl
theorem codec_Split.ok (k : Nat) : FnOk Go.Proofs.Tryz.prog E119.eT 119 (codec_Split.c k) := FnOk.walk (E := E119) (body := B119) Go.Proofs.Tryz.func119 rfl (by rfl) Go.Proofs.Tryz.ntmps119 S119 rfl (fun k x => codec_Split.f k x.1 x.2) codec_Split.G (fun k => ⟨shape_Rank.ok, shape_Kind.ok, lead_Run.ok k, lead_Field.ok, trivial⟩) 4000 codec_Split.cuts ⟨⟨fun _ => rfl, fun k x q h => (codec_Split.w0 k x).trans h⟩, ⟨fun _ => rfl, fun k x q h => (codec_Split.w1 k x).trans h⟩, trivial⟩ (fun k x r h => (codec_Split.w k x).trans h) k
noncomputable def E89 : En := ⟨Go.Proofs.Tryz.prog, 156, Go.Proofs.Tryz.f89.ntmps⟩
noncomputable def S89 : Sig := ⟨[.s, .s], [(.int .i64), (.int .u64)], true, [.g 4, .s], [(.int .i64), .bool, (.int .i64), (.int .u64), .err], false⟩
noncomputable def B89 : Go.Code := Go.Proofs.Tryz.f89.body.get!
def codec_Decode.f (k : Nat) (a0 : Int) (a1 : Int) : Option (Int × Bool × Int × Int × Option Int) := (shape_Kind.f a0 a1).bind fun t100 => (if t100.2.isNone = true then (if t100.1 = 1 then ((codec_Split.f k a0 a1).bind fun t101 => (if 0 ≤ (wrap64 (63 - t101.2.2.2.2.2.2.1)) then (some (t100.1, t101.1, wrap64 ((wrap64 (4 * t101.2.2.2.1)) + t101.2.2.2.2.2.1), Go.bits .or .u64 9223372036854775808 (shl .u64 t101.2.2.2.2.2.2.2.1 (wrap64 (63 - t101.2.2.2.2.2.2.1))), none)) else (none))) else (some (t100.1, false, 0, 0, none))) else (some (t100.1, false, 0, 0, some (t100.2.getD 0))))
--@ok
noncomputable def codec_Decode.c (k : Nat) : Con := S89.con fun x => codec_Decode.f k x.1 x.2
noncomputable def codec_Decode.G (k : Nat) : List (Go.FuncId × Con) := [(118, shape_Kind.c), (119, codec_Split.c k)]
noncomputable def codec_Decode.cuts : List (Cut (TT S89.sb)) := []
theorem codec_Decode.w (k : Nat) (x : TT S89.sa) : walk E89 (codec_Decode.G k) (cutsAt k codec_Decode.cuts) (retE E89 Go.Proofs.Tryz.f89.results.toList S89) 4000 true [([], .code B89)] (St0 S89 x) = codec_Decode.f k x.1 x.2 := by kernel_rfl
theorem codec_Decode.ok (k : Nat) : FnOk Go.Proofs.Tryz.prog E89.eT 89 (codec_Decode.c k) := FnOk.walk (E := E89) (body := B89) Go.Proofs.Tryz.func89 rfl (by rfl) Go.Proofs.Tryz.ntmps89 S89 rfl (fun k x => codec_Decode.f k x.1 x.2) codec_Decode.G (fun k => ⟨shape_Kind.ok, codec_Split.ok k, trivial⟩) 4000 codec_Decode.cuts trivial (fun k x r h => (codec_Decode.w k x).trans h) k
noncomputable def E166 : En := ⟨Go.Proofs.Tryz.prog, 156, Go.Proofs.Tryz.f166.ntmps⟩
noncomputable def S166 : Sig := ⟨[.s], [(.int .i64)], false, [.s], [(.int .i64)], false⟩
noncomputable def B166 : Go.Code := Go.Proofs.Tryz.f166.body.get!
def round_held.f (a0 : Int) : Option (Int) := some (mx (-1099511627776) (mn a0 1099511627776))
--@ok
noncomputable def round_held.c : Con := S166.con fun x => round_held.f x
noncomputable def round_held.G (k : Nat) : List (Go.FuncId × Con) := []
noncomputable def round_held.cuts : List (Cut (TT S166.sb)) := []
theorem round_held.w (k : Nat) (x : TT S166.sa) : walk E166 (round_held.G k) (cutsAt k round_held.cuts) (retE E166 Go.Proofs.Tryz.f166.results.toList S166) 4000 true [([], .code B166)] (St0 S166 x) = round_held.f x := by kernel_rfl
theorem round_held.ok : FnOk Go.Proofs.Tryz.prog E166.eT 166 (round_held.c) := FnOk.walk (E := E166) (body := B166) Go.Proofs.Tryz.func166 rfl (by rfl) Go.Proofs.Tryz.ntmps166 S166 rfl (fun k x => round_held.f x) round_held.G (fun k => trivial) 4000 round_held.cuts trivial (fun k x r h => (round_held.w k x).trans h) 0
noncomputable def E137 : En := ⟨Go.Proofs.Tryz.prog, 156, Go.Proofs.Tryz.f137.ntmps⟩
noncomputable def S137 : Sig := ⟨[.g 6], [(.int .i64), .bool, (.int .i64), (.int .u64), (.int .u64), .bool], false, [.s], [.bool], false⟩
noncomputable def B137 : Go.Code := Go.Proofs.Tryz.f137.body.get!
def round_sound.j0 : Nat → Int → Bool → Int → Bool → Int → Int → Int → Bool → Option (Bool)
 | 0, _, _, _, _, _, _, _, _ => none
 | k + 1, x4, x5, x1000, x1001, x1002, x1003, x1004, x1005 => if x5 = true then (some ((x1000 == x1000) && ((!x1001) && ((x1002 == 0) && ((x1003 == 0) && ((x1004 == 0) && (!x1005))))))) else (if x4 = 1 then (if (x1003 / 9223372036854775808) = 1 then ((round_held.f x1002).bind fun t100 => (some (x1002 == t100))) else (some false)) else (some false))
def round_sound.f (k : Nat) (a0_0 : Int) (a0_1 : Bool) (a0_2 : Int) (a0_3 : Int) (a0_4 : Int) (a0_5 : Bool) : Option (Bool) := if a0_0 = 0 then (round_sound.j0 k a0_0 (a0_0 == 0) a0_0 a0_1 a0_2 a0_3 a0_4 a0_5) else (round_sound.j0 k a0_0 (a0_0 == 2) a0_0 a0_1 a0_2 a0_3 a0_4 a0_5)
--@ok
noncomputable def round_sound.c (k : Nat) : Con := S137.con fun x => round_sound.f k x.1 x.2.1 x.2.2.1 x.2.2.2.1 x.2.2.2.2.1 x.2.2.2.2.2
noncomputable def round_sound.G (k : Nat) : List (Go.FuncId × Con) := [(166, round_held.c)]
noncomputable def round_sound.cuts : List (Cut (TT S137.sb)) := [⟨[1, 4, 1, 0, 1], [.sc 4 (.int .i64), .sc 5 (.bool), .box 1 68 [.int .i64, .bool, .int .i64, .int .u64, .int .u64, .bool]], fun k x => round_sound.j0 k x.1 x.2.1 x.2.2.1 x.2.2.2.1 x.2.2.2.2.1 x.2.2.2.2.2.1 x.2.2.2.2.2.2.1 x.2.2.2.2.2.2.2⟩]
theorem round_sound.w0 (k : Nat) (x : ET [.sc 4 (.int .i64), .sc 5 (.bool), .box 1 68 [.int .i64, .bool, .int .i64, .int .u64, .int .u64, .bool]]) : walk E137 (round_sound.G k) (cutsAt k round_sound.cuts) (retE E137 Go.Proofs.Tryz.f137.results.toList S137) 4000 true (stackAt B137 [1, 4, 1, 0, 1]) (mkE [.sc 4 (.int .i64), .sc 5 (.bool), .box 1 68 [.int .i64, .bool, .int .i64, .int .u64, .int .u64, .bool]] x St.nil) = round_sound.j0 (k + 1) x.1 x.2.1 x.2.2.1 x.2.2.2.1 x.2.2.2.2.1 x.2.2.2.2.2.1 x.2.2.2.2.2.2.1 x.2.2.2.2.2.2.2 := by kernel_rfl
theorem round_sound.w (k : Nat) (x : TT S137.sa) : walk E137 (round_sound.G k) (cutsAt k round_sound.cuts) (retE E137 Go.Proofs.Tryz.f137.results.toList S137) 4000 true [([], .code B137)] (St0 S137 x) = round_sound.f k x.1 x.2.1 x.2.2.1 x.2.2.2.1 x.2.2.2.2.1 x.2.2.2.2.2 := by kernel_rfl
theorem round_sound.ok (k : Nat) : FnOk Go.Proofs.Tryz.prog E137.eT 137 (round_sound.c k) := FnOk.walk (E := E137) (body := B137) Go.Proofs.Tryz.func137 rfl (by rfl) Go.Proofs.Tryz.ntmps137 S137 rfl (fun k x => round_sound.f k x.1 x.2.1 x.2.2.1 x.2.2.2.1 x.2.2.2.2.1 x.2.2.2.2.2) round_sound.G (fun k => ⟨round_held.ok, trivial⟩) 4000 round_sound.cuts ⟨⟨fun _ => rfl, fun k x q h => (round_sound.w0 k x).trans h⟩, trivial⟩ (fun k x r h => (round_sound.w k x).trans h) k
noncomputable def E103 : En := ⟨Go.Proofs.Tryz.prog, 156, Go.Proofs.Tryz.f103.ntmps⟩
noncomputable def S103 : Sig := ⟨[.g 4], [(.int .i64), .bool, (.int .i64), (.int .u64)], true, [.g 6, .s], [(.int .i64), .bool, (.int .i64), (.int .u64), (.int .u64), .bool, .err], false⟩
noncomputable def B103 : Go.Code := Go.Proofs.Tryz.f103.body.get!
def round_Of.f (k : Nat) (a0_0 : Int) (a0_1 : Bool) (a0_2 : Int) (a0_3 : Int) : Option (Int × Bool × Int × Int × Int × Bool × Option Int) := (round_sound.f k a0_0 a0_1 a0_2 a0_3 0 false).bind fun t100 => (if t100 = true then (if a0_2 < (-1073741824) then (some (0, false, 0, 0, 0, false, some 1)) else (if a0_2 > 1073741824 then (some (0, false, 0, 0, 0, false, some 1)) else (some (a0_0, a0_1, a0_2, a0_3, 0, false, none)))) else (some (0, false, 0, 0, 0, false, some 1)))
--@ok
noncomputable def round_Of.c (k : Nat) : Con := S103.con fun x => round_Of.f k x.1 x.2.1 x.2.2.1 x.2.2.2
noncomputable def round_Of.G (k : Nat) : List (Go.FuncId × Con) := [(137, round_sound.c k)]
noncomputable def round_Of.cuts : List (Cut (TT S103.sb)) := []
theorem round_Of.w (k : Nat) (x : TT S103.sa) : walk E103 (round_Of.G k) (cutsAt k round_Of.cuts) (retE E103 Go.Proofs.Tryz.f103.results.toList S103) 4000 true [([], .code B103)] (St0 S103 x) = round_Of.f k x.1 x.2.1 x.2.2.1 x.2.2.2 := by kernel_rfl
theorem round_Of.ok (k : Nat) : FnOk Go.Proofs.Tryz.prog E103.eT 103 (round_Of.c k) := FnOk.walk (E := E103) (body := B103) Go.Proofs.Tryz.func103 rfl (by rfl) Go.Proofs.Tryz.ntmps103 S103 rfl (fun k x => round_Of.f k x.1 x.2.1 x.2.2.1 x.2.2.2) round_Of.G (fun k => ⟨round_sound.ok k, trivial⟩) 4000 round_Of.cuts trivial (fun k x r h => (round_Of.w k x).trans h) k
noncomputable def E144 : En := ⟨Go.Proofs.Tryz.prog, 156, Go.Proofs.Tryz.f144.ntmps⟩
noncomputable def S144 : Sig := ⟨[.g 4, .s], [(.int .u64), (.int .u64), (.int .u64), (.int .u64), (.int .i64)], true, [.g 4, .s], [(.int .u64), (.int .u64), (.int .u64), (.int .u64), .bool], false⟩
noncomputable def B144 : Go.Code := Go.Proofs.Tryz.f144.body.get!
def broad_wide_under.l0 : Nat → Int → Bool → Int → Int → Int → Int → Option (Int × Int × Int × Int × Bool)
 | 0, _, _, _, _, _, _ => none
 | k + 1, x1, x6, x2000, x2001, x2002, x2003 => if x1 ≥ 64 then (if x6 = true then (broad_wide_under.l0 k (wrap64 (x1 - 64)) true 0 x2000 x2001 x2002) else (broad_wide_under.l0 k (wrap64 (x1 - 64)) (x2003 != 0) 0 x2000 x2001 x2002)) else (if x1 = 0 then (some (x2000, x2001, x2002, x2003, x6)) else (if x6 = true then (if 0 ≤ x1 then (if 0 ≤ (wrap64 (64 - x1)) then (some (shr .u64 x2000 x1, Go.bits .or .u64 (shr .u64 x2001 x1) (shl .u64 x2000 (wrap64 (64 - x1))), Go.bits .or .u64 (shr .u64 x2002 x1) (shl .u64 x2001 (wrap64 (64 - x1))), Go.bits .or .u64 (shr .u64 x2003 x1) (shl .u64 x2002 (wrap64 (64 - x1))), true)) else (none)) else (none)) else (if 0 ≤ (wrap64 (64 - x1)) then (if 0 ≤ x1 then (some (shr .u64 x2000 x1, Go.bits .or .u64 (shr .u64 x2001 x1) (shl .u64 x2000 (wrap64 (64 - x1))), Go.bits .or .u64 (shr .u64 x2002 x1) (shl .u64 x2001 (wrap64 (64 - x1))), Go.bits .or .u64 (shr .u64 x2003 x1) (shl .u64 x2002 (wrap64 (64 - x1))), (shl .u64 x2003 (wrap64 (64 - x1))) != 0)) else (none)) else (none))))
def broad_wide_under.f (k : Nat) (a0_0 : Int) (a0_1 : Int) (a0_2 : Int) (a0_3 : Int) (a1 : Int) : Option (Int × Int × Int × Int × Bool) := if a1 ≥ 256 then (some (0, 0, 0, 0, !((a0_0 == 0) && ((a0_1 == 0) && ((a0_2 == 0) && (a0_3 == 0)))))) else (broad_wide_under.l0 k a1 false a0_0 a0_1 a0_2 a0_3)
--@ok
def broad_wide_under.l0R (k : Nat) (x1 : Int) (x6 : Bool) (x2000 : Int) (x2001 : Int) (x2002 : Int) (x2003 : Int) : Option (Int × Int × Int × Int × Bool) := if x1 ≥ 64 then (if x6 = true then (broad_wide_under.l0 k (wrap64 (x1 - 64)) true 0 x2000 x2001 x2002) else (broad_wide_under.l0 k (wrap64 (x1 - 64)) (x2003 != 0) 0 x2000 x2001 x2002)) else (if x1 = 0 then (some (x2000, x2001, x2002, x2003, x6)) else (if x6 = true then (if 0 ≤ x1 then (if 0 ≤ x1 then (if 0 ≤ (wrap64 (64 - x1)) then (if 0 ≤ x1 then (if 0 ≤ (wrap64 (64 - x1)) then (if 0 ≤ x1 then (if 0 ≤ (wrap64 (64 - x1)) then (some (shr .u64 x2000 x1, Go.bits .or .u64 (shr .u64 x2001 x1) (shl .u64 x2000 (wrap64 (64 - x1))), Go.bits .or .u64 (shr .u64 x2002 x1) (shl .u64 x2001 (wrap64 (64 - x1))), Go.bits .or .u64 (shr .u64 x2003 x1) (shl .u64 x2002 (wrap64 (64 - x1))), true)) else (none)) else (none)) else (none)) else (none)) else (none)) else (none)) else (none)) else (if 0 ≤ (wrap64 (64 - x1)) then (if 0 ≤ x1 then (if 0 ≤ x1 then (if 0 ≤ (wrap64 (64 - x1)) then (if 0 ≤ x1 then (if 0 ≤ (wrap64 (64 - x1)) then (if 0 ≤ x1 then (if 0 ≤ (wrap64 (64 - x1)) then (some (shr .u64 x2000 x1, Go.bits .or .u64 (shr .u64 x2001 x1) (shl .u64 x2000 (wrap64 (64 - x1))), Go.bits .or .u64 (shr .u64 x2002 x1) (shl .u64 x2001 (wrap64 (64 - x1))), Go.bits .or .u64 (shr .u64 x2003 x1) (shl .u64 x2002 (wrap64 (64 - x1))), (shl .u64 x2003 (wrap64 (64 - x1))) != 0)) else (none)) else (none)) else (none)) else (none)) else (none)) else (none)) else (none)) else (none))))
theorem broad_wide_under.l0E (k : Nat) (x1 : Int) (x6 : Bool) (x2000 : Int) (x2001 : Int) (x2002 : Int) (x2003 : Int) : broad_wide_under.l0R k x1 x6 x2000 x2001 x2002 x2003 = broad_wide_under.l0 (k + 1) x1 x6 x2000 x2001 x2002 x2003 := by
  unfold broad_wide_under.l0R
  rw [broad_wide_under.l0]
  exact iteC (fun h0 => iteC (fun h1 => rfl) (fun h1 => rfl)) (fun h0 => iteC (fun h1 => rfl) (fun h1 => iteC (fun h2 => iteC (fun h3 => (if_pos h3).trans (iteC (fun h4 => (if_pos h3).trans ((if_pos h4).trans ((if_pos h3).trans ((if_pos h4).trans (rfl))))) (fun h4 => rfl))) (fun h3 => rfl)) (fun h2 => iteC (fun h3 => iteC (fun h4 => (if_pos h4).trans ((if_pos h3).trans ((if_pos h4).trans ((if_pos h3).trans ((if_pos h4).trans ((if_pos h3).trans (rfl))))))) (fun h4 => rfl)) (fun h3 => rfl))))
noncomputable def broad_wide_under.c (k : Nat) : Con := S144.con fun x => broad_wide_under.f k x.1 x.2.1 x.2.2.1 x.2.2.2.1 x.2.2.2.2
noncomputable def broad_wide_under.G (k : Nat) : List (Go.FuncId × Con) := []
noncomputable def broad_wide_under.cuts : List (Cut (TT S144.sb)) := [⟨[6, 4, 0, 1, 1, 1], [.sc 1 (.int .i64), .sc 6 (.bool), .box 2 163 [.int .u64, .int .u64, .int .u64, .int .u64], .box 4 163 [.int .u64, .int .u64, .int .u64, .int .u64]], fun k x => broad_wide_under.l0 k x.1 x.2.1 x.2.2.1.1 x.2.2.1.2.1 x.2.2.1.2.2.1 x.2.2.1.2.2.2⟩]
theorem broad_wide_under.w0 (k : Nat) (x : ET [.sc 1 (.int .i64), .sc 6 (.bool), .box 2 163 [.int .u64, .int .u64, .int .u64, .int .u64], .box 4 163 [.int .u64, .int .u64, .int .u64, .int .u64]]) : walk E144 (broad_wide_under.G k) (cutsAt k broad_wide_under.cuts) (retE E144 Go.Proofs.Tryz.f144.results.toList S144) 4000 true (stackAt B144 [6, 4, 0, 1, 1, 1]) (mkE [.sc 1 (.int .i64), .sc 6 (.bool), .box 2 163 [.int .u64, .int .u64, .int .u64, .int .u64], .box 4 163 [.int .u64, .int .u64, .int .u64, .int .u64]] x St.nil) = broad_wide_under.l0 (k + 1) x.1 x.2.1 x.2.2.1.1 x.2.2.1.2.1 x.2.2.1.2.2.1 x.2.2.1.2.2.2 := Eq.trans (b := broad_wide_under.l0R k x.1 x.2.1 x.2.2.1.1 x.2.2.1.2.1 x.2.2.1.2.2.1 x.2.2.1.2.2.2) (by kernel_rfl) (broad_wide_under.l0E k x.1 x.2.1 x.2.2.1.1 x.2.2.1.2.1 x.2.2.1.2.2.1 x.2.2.1.2.2.2)
theorem broad_wide_under.w (k : Nat) (x : TT S144.sa) : walk E144 (broad_wide_under.G k) (cutsAt k broad_wide_under.cuts) (retE E144 Go.Proofs.Tryz.f144.results.toList S144) 4000 true [([], .code B144)] (St0 S144 x) = broad_wide_under.f k x.1 x.2.1 x.2.2.1 x.2.2.2.1 x.2.2.2.2 := by kernel_rfl
theorem broad_wide_under.ok (k : Nat) : FnOk Go.Proofs.Tryz.prog E144.eT 144 (broad_wide_under.c k) := FnOk.walk (E := E144) (body := B144) Go.Proofs.Tryz.func144 rfl (by rfl) Go.Proofs.Tryz.ntmps144 S144 rfl (fun k x => broad_wide_under.f k x.1 x.2.1 x.2.2.1 x.2.2.2.1 x.2.2.2.2) broad_wide_under.G (fun k => trivial) 4000 broad_wide_under.cuts ⟨⟨fun _ => rfl, fun k x q h => (broad_wide_under.w0 k x).trans h⟩, trivial⟩ (fun k x r h => (broad_wide_under.w k x).trans h) k
noncomputable def S175 : Sig := ⟨[.s, .s, .s], [(.int .u64), (.int .u64), (.int .u64)], true, [.s, .s], [(.int .u64), (.int .u64)], false⟩
def bits_Add64.f (a0 : Int) (a1 : Int) (a2 : Int) : Option (Int × Int) := if 0 ≤ a0 ∧ a0 < 18446744073709551616 ∧ 0 ≤ a1 ∧ a1 < 18446744073709551616 ∧ 0 ≤ a2 ∧ a2 ≤ 1 then some ((a0 + a1 + a2) % 18446744073709551616, (a0 + a1 + a2) / 18446744073709551616) else none
--@ok
noncomputable def bits_Add64.c : Con := S175.con fun x => bits_Add64.f x.1 x.2.1 x.2.2
theorem bits_Add64.ok : FnOk Go.Proofs.Tryz.prog 156 175 bits_Add64.c := by
  intro x r w ok vs hF hv
  obtain ⟨a, b, c⟩ := x
  have hF' : bits_Add64.f a b c = some r := hF
  unfold bits_Add64.f at hF'
  split at hF'
  · rename_i hx
    injection hF' with hF'
    subst hF'
    obtain ⟨l⟩ := vs
    match l, hv with
    | [v1, v2, v3], h =>
      obtain ⟨⟨rfl, -⟩, ⟨rfl, -⟩, ⟨rfl, -⟩, -⟩ := h
      refine .inr ⟨_, w, CarryX.add64 a b c hx.1 hx.2.1 hx.2.2.1 hx.2.2.2.1 hx.2.2.2.2.1 hx.2.2.2.2.2 w, ⟨_, rfl, _, rfl, ⟨rfl, ?_, by simp, by simp⟩, ⟨rfl, ?_, by simp, by simp⟩, trivial⟩, .refl _ _⟩
      · constructor <;> simp only [kLo, kHi] <;> omega
      · constructor <;> simp only [kLo, kHi] <;> omega
    | [], h => exact h.elim
    | [_], h => exact h.2.elim
    | [_, _], h => exact h.2.2.elim
    | _ :: _ :: _ :: _ :: _, h => exact h.2.2.2.elim
  · cases hF'
noncomputable def E145 : En := ⟨Go.Proofs.Tryz.prog, 156, Go.Proofs.Tryz.f145.ntmps⟩
noncomputable def S145 : Sig := ⟨[.g 4, .g 4], [(.int .u64), (.int .u64), (.int .u64), (.int .u64), (.int .u64), (.int .u64), (.int .u64), (.int .u64)], true, [.g 4, .s], [(.int .u64), (.int .u64), (.int .u64), (.int .u64), (.int .u64)], false⟩
noncomputable def B145 : Go.Code := Go.Proofs.Tryz.f145.body.get!
def broad_wide_plus.f (a0_0 : Int) (a0_1 : Int) (a0_2 : Int) (a0_3 : Int) (a1_0 : Int) (a1_1 : Int) (a1_2 : Int) (a1_3 : Int) : Option (Int × Int × Int × Int × Int) := (bits_Add64.f a0_3 a1_3 0).bind fun t100 => ((bits_Add64.f a0_2 a1_2 t100.2).bind fun t101 => ((bits_Add64.f a0_1 a1_1 t101.2).bind fun t102 => ((bits_Add64.f a0_0 a1_0 t102.2).bind fun t103 => (some (t103.1, t102.1, t101.1, t100.1, t103.2)))))
--@ok
noncomputable def broad_wide_plus.c : Con := S145.con fun x => broad_wide_plus.f x.1 x.2.1 x.2.2.1 x.2.2.2.1 x.2.2.2.2.1 x.2.2.2.2.2.1 x.2.2.2.2.2.2.1 x.2.2.2.2.2.2.2
noncomputable def broad_wide_plus.G (k : Nat) : List (Go.FuncId × Con) := [(175, bits_Add64.c)]
noncomputable def broad_wide_plus.cuts : List (Cut (TT S145.sb)) := []
theorem broad_wide_plus.w (k : Nat) (x : TT S145.sa) : walk E145 (broad_wide_plus.G k) (cutsAt k broad_wide_plus.cuts) (retE E145 Go.Proofs.Tryz.f145.results.toList S145) 4000 true [([], .code B145)] (St0 S145 x) = broad_wide_plus.f x.1 x.2.1 x.2.2.1 x.2.2.2.1 x.2.2.2.2.1 x.2.2.2.2.2.1 x.2.2.2.2.2.2.1 x.2.2.2.2.2.2.2 := by kernel_rfl
theorem broad_wide_plus.ok : FnOk Go.Proofs.Tryz.prog E145.eT 145 (broad_wide_plus.c) := FnOk.walk (E := E145) (body := B145) Go.Proofs.Tryz.func145 rfl (by rfl) Go.Proofs.Tryz.ntmps145 S145 rfl (fun k x => broad_wide_plus.f x.1 x.2.1 x.2.2.1 x.2.2.2.1 x.2.2.2.2.1 x.2.2.2.2.2.1 x.2.2.2.2.2.2.1 x.2.2.2.2.2.2.2) broad_wide_plus.G (fun k => ⟨bits_Add64.ok, trivial⟩) 4000 broad_wide_plus.cuts trivial (fun k x r h => (broad_wide_plus.w k x).trans h) 0
noncomputable def S176 : Sig := ⟨[.s, .s, .s], [(.int .u64), (.int .u64), (.int .u64)], true, [.s, .s], [(.int .u64), (.int .u64)], false⟩
def bits_Sub64.f (a0 : Int) (a1 : Int) (a2 : Int) : Option (Int × Int) := if 0 ≤ a0 ∧ 0 ≤ a1 ∧ a1 < 18446744073709551616 ∧ 0 ≤ a2 ∧ a2 ≤ 1 then some ((a0 - a1 - a2) % 18446744073709551616, if a0 < a1 + a2 then 1 else 0) else none
--@ok
noncomputable def bits_Sub64.c : Con := S176.con fun x => bits_Sub64.f x.1 x.2.1 x.2.2
theorem bits_Sub64.ok : FnOk Go.Proofs.Tryz.prog 156 176 bits_Sub64.c := by
  intro x r w ok vs hF hv
  have hF' : bits_Sub64.f x.1 x.2.1 x.2.2 = some r := hF
  obtain ⟨a, b, c⟩ := x
  unfold bits_Sub64.f at hF'
  split at hF'
  · rename_i hx
    injection hF' with hF'
    subst hF'
    obtain ⟨l⟩ := vs
    match l, hv with
    | [v1, v2, v3], h =>
      obtain ⟨⟨rfl, -⟩, ⟨rfl, -⟩, ⟨rfl, -⟩, -⟩ := h
      refine .inr ⟨_, w, CarryX.sub64 a b c hx.1 hx.2.1 hx.2.2.1 hx.2.2.2.1 hx.2.2.2.2 w, ⟨_, rfl, _, rfl, ⟨rfl, ?_, by simp, by simp⟩, ⟨rfl, ?_, by simp, by simp⟩, trivial⟩, .refl _ _⟩
      · constructor <;> simp only [kLo, kHi] <;> omega
      · constructor <;> simp only [kLo, kHi] <;> split <;> omega
    | [], h => exact h.elim
    | [_], h => exact h.2.elim
    | [_, _], h => exact h.2.2.elim
    | _ :: _ :: _ :: _ :: _, h => exact h.2.2.2.elim
  · cases hF'
noncomputable def E146 : En := ⟨Go.Proofs.Tryz.prog, 156, Go.Proofs.Tryz.f146.ntmps⟩
noncomputable def S146 : Sig := ⟨[.g 4, .g 4, .s], [(.int .u64), (.int .u64), (.int .u64), (.int .u64), (.int .u64), (.int .u64), (.int .u64), (.int .u64), (.int .u64)], true, [.g 4, .s], [(.int .u64), (.int .u64), (.int .u64), (.int .u64), (.int .u64)], false⟩
noncomputable def B146 : Go.Code := Go.Proofs.Tryz.f146.body.get!
def broad_wide_less.f (a0_0 : Int) (a0_1 : Int) (a0_2 : Int) (a0_3 : Int) (a1_0 : Int) (a1_1 : Int) (a1_2 : Int) (a1_3 : Int) (a2 : Int) : Option (Int × Int × Int × Int × Int) := (bits_Sub64.f a0_3 a1_3 a2).bind fun t100 => ((bits_Sub64.f a0_2 a1_2 t100.2).bind fun t101 => ((bits_Sub64.f a0_1 a1_1 t101.2).bind fun t102 => ((bits_Sub64.f a0_0 a1_0 t102.2).bind fun t103 => (some (t103.1, t102.1, t101.1, t100.1, t103.2)))))
--@ok
noncomputable def broad_wide_less.c : Con := S146.con fun x => broad_wide_less.f x.1 x.2.1 x.2.2.1 x.2.2.2.1 x.2.2.2.2.1 x.2.2.2.2.2.1 x.2.2.2.2.2.2.1 x.2.2.2.2.2.2.2.1 x.2.2.2.2.2.2.2.2
noncomputable def broad_wide_less.G (k : Nat) : List (Go.FuncId × Con) := [(176, bits_Sub64.c)]
noncomputable def broad_wide_less.cuts : List (Cut (TT S146.sb)) := []
theorem broad_wide_less.w (k : Nat) (x : TT S146.sa) : walk E146 (broad_wide_less.G k) (cutsAt k broad_wide_less.cuts) (retE E146 Go.Proofs.Tryz.f146.results.toList S146) 4000 true [([], .code B146)] (St0 S146 x) = broad_wide_less.f x.1 x.2.1 x.2.2.1 x.2.2.2.1 x.2.2.2.2.1 x.2.2.2.2.2.1 x.2.2.2.2.2.2.1 x.2.2.2.2.2.2.2.1 x.2.2.2.2.2.2.2.2 := by kernel_rfl
theorem broad_wide_less.ok : FnOk Go.Proofs.Tryz.prog E146.eT 146 (broad_wide_less.c) := FnOk.walk (E := E146) (body := B146) Go.Proofs.Tryz.func146 rfl (by rfl) Go.Proofs.Tryz.ntmps146 S146 rfl (fun k x => broad_wide_less.f x.1 x.2.1 x.2.2.1 x.2.2.2.1 x.2.2.2.2.1 x.2.2.2.2.2.1 x.2.2.2.2.2.2.1 x.2.2.2.2.2.2.2.1 x.2.2.2.2.2.2.2.2) broad_wide_less.G (fun k => ⟨bits_Sub64.ok, trivial⟩) 4000 broad_wide_less.cuts trivial (fun k x r h => (broad_wide_less.w k x).trans h) 0
noncomputable def E147 : En := ⟨Go.Proofs.Tryz.prog, 156, Go.Proofs.Tryz.f147.ntmps⟩
noncomputable def S147 : Sig := ⟨[.g 4], [(.int .u64), (.int .u64), (.int .u64), (.int .u64)], true, [.g 4, .s], [(.int .u64), (.int .u64), (.int .u64), (.int .u64), (.int .i64)], false⟩
noncomputable def B147 : Go.Code := Go.Proofs.Tryz.f147.body.get!
def broad_wide_raised.l0 : Nat → Int → Int → Int → Int → Int → Option (Int × Int × Int × Int × Int)
 | 0, _, _, _, _, _ => none
 | k + 1, x4, x1000, x1001, x1002, x1003 => if x1000 = 0 then (broad_wide_raised.l0 k (wrap64 (x4 + 64)) x1001 x1002 x1003 0) else ((bits_LeadingZeros64.f x1000).bind fun t100 => (if t100 = 0 then (some (x1000, x1001, x1002, x1003, x4)) else (if 0 ≤ t100 then (if 0 ≤ (wrap64 (64 - t100)) then (some (Go.bits .or .u64 (shl .u64 x1000 t100) (shr .u64 x1001 (wrap64 (64 - t100))), Go.bits .or .u64 (shl .u64 x1001 t100) (shr .u64 x1002 (wrap64 (64 - t100))), Go.bits .or .u64 (shl .u64 x1002 t100) (shr .u64 x1003 (wrap64 (64 - t100))), shl .u64 x1003 t100, wrap64 (x4 + t100))) else (none)) else (none))))
def broad_wide_raised.f (k : Nat) (a0_0 : Int) (a0_1 : Int) (a0_2 : Int) (a0_3 : Int) : Option (Int × Int × Int × Int × Int) := broad_wide_raised.l0 k 0 a0_0 a0_1 a0_2 a0_3
--@ok
def broad_wide_raised.l0R (k : Nat) (x4 : Int) (x1000 : Int) (x1001 : Int) (x1002 : Int) (x1003 : Int) : Option (Int × Int × Int × Int × Int) := if x1000 = 0 then (broad_wide_raised.l0 k (wrap64 (x4 + 64)) x1001 x1002 x1003 0) else ((bits_LeadingZeros64.f x1000).bind fun t100 => (if t100 = 0 then (some (x1000, x1001, x1002, x1003, x4)) else (if 0 ≤ t100 then (if 0 ≤ (wrap64 (64 - t100)) then (if 0 ≤ t100 then (if 0 ≤ (wrap64 (64 - t100)) then (if 0 ≤ t100 then (if 0 ≤ (wrap64 (64 - t100)) then (if 0 ≤ t100 then (some (Go.bits .or .u64 (shl .u64 x1000 t100) (shr .u64 x1001 (wrap64 (64 - t100))), Go.bits .or .u64 (shl .u64 x1001 t100) (shr .u64 x1002 (wrap64 (64 - t100))), Go.bits .or .u64 (shl .u64 x1002 t100) (shr .u64 x1003 (wrap64 (64 - t100))), shl .u64 x1003 t100, wrap64 (x4 + t100))) else (none)) else (none)) else (none)) else (none)) else (none)) else (none)) else (none))))
theorem broad_wide_raised.l0E (k : Nat) (x4 : Int) (x1000 : Int) (x1001 : Int) (x1002 : Int) (x1003 : Int) : broad_wide_raised.l0R k x4 x1000 x1001 x1002 x1003 = broad_wide_raised.l0 (k + 1) x4 x1000 x1001 x1002 x1003 := by
  unfold broad_wide_raised.l0R
  rw [broad_wide_raised.l0]
  exact iteC (fun h0 => rfl) (fun h0 => bindC fun _ => iteC (fun h1 => rfl) (fun h1 => iteC (fun h2 => iteC (fun h3 => (if_pos h2).trans ((if_pos h3).trans ((if_pos h2).trans ((if_pos h3).trans ((if_pos h2).trans (rfl)))))) (fun h3 => rfl)) (fun h2 => rfl)))
noncomputable def broad_wide_raised.c (k : Nat) : Con := S147.con fun x => broad_wide_raised.f k x.1 x.2.1 x.2.2.1 x.2.2.2
noncomputable def broad_wide_raised.G (k : Nat) : List (Go.FuncId × Con) := [(177, bits_LeadingZeros64.c)]
noncomputable def broad_wide_raised.cuts : List (Cut (TT S147.sb)) := [⟨[6, 4, 0, 1, 1], [.sc 4 (.int .i64), .box 1 163 [.int .u64, .int .u64, .int .u64, .int .u64], .box 2 163 [.int .u64, .int .u64, .int .u64, .int .u64]], fun k x => broad_wide_raised.l0 k x.1 x.2.1.1 x.2.1.2.1 x.2.1.2.2.1 x.2.1.2.2.2⟩]
theorem broad_wide_raised.w0 (k : Nat) (x : ET [.sc 4 (.int .i64), .box 1 163 [.int .u64, .int .u64, .int .u64, .int .u64], .box 2 163 [.int .u64, .int .u64, .int .u64, .int .u64]]) : walk E147 (broad_wide_raised.G k) (cutsAt k broad_wide_raised.cuts) (retE E147 Go.Proofs.Tryz.f147.results.toList S147) 4000 true (stackAt B147 [6, 4, 0, 1, 1]) (mkE [.sc 4 (.int .i64), .box 1 163 [.int .u64, .int .u64, .int .u64, .int .u64], .box 2 163 [.int .u64, .int .u64, .int .u64, .int .u64]] x St.nil) = broad_wide_raised.l0 (k + 1) x.1 x.2.1.1 x.2.1.2.1 x.2.1.2.2.1 x.2.1.2.2.2 := Eq.trans (b := broad_wide_raised.l0R k x.1 x.2.1.1 x.2.1.2.1 x.2.1.2.2.1 x.2.1.2.2.2) (by kernel_rfl) (broad_wide_raised.l0E k x.1 x.2.1.1 x.2.1.2.1 x.2.1.2.2.1 x.2.1.2.2.2)
theorem broad_wide_raised.w (k : Nat) (x : TT S147.sa) : walk E147 (broad_wide_raised.G k) (cutsAt k broad_wide_raised.cuts) (retE E147 Go.Proofs.Tryz.f147.results.toList S147) 4000 true [([], .code B147)] (St0 S147 x) = broad_wide_raised.f k x.1 x.2.1 x.2.2.1 x.2.2.2 := by kernel_rfl
theorem broad_wide_raised.ok (k : Nat) : FnOk Go.Proofs.Tryz.prog E147.eT 147 (broad_wide_raised.c k) := FnOk.walk (E := E147) (body := B147) Go.Proofs.Tryz.func147 rfl (by rfl) Go.Proofs.Tryz.ntmps147 S147 rfl (fun k x => broad_wide_raised.f k x.1 x.2.1 x.2.2.1 x.2.2.2) broad_wide_raised.G (fun k => ⟨bits_LeadingZeros64.ok, trivial⟩) 4000 broad_wide_raised.cuts ⟨⟨fun _ => rfl, fun k x q h => (broad_wide_raised.w0 k x).trans h⟩, trivial⟩ (fun k x r h => (broad_wide_raised.w k x).trans h) k
noncomputable def E111 : En := ⟨Go.Proofs.Tryz.prog, 156, Go.Proofs.Tryz.f111.ntmps⟩
noncomputable def S111 : Sig := ⟨[.g 6, .g 6], [(.int .i64), .bool, (.int .i64), (.int .u64), (.int .u64), .bool, (.int .i64), .bool, (.int .i64), (.int .u64), (.int .u64), .bool], false, [.g 6], [(.int .i64), .bool, (.int .i64), (.int .u64), (.int .u64), .bool], false⟩
noncomputable def B111 : Go.Code := Go.Proofs.Tryz.f111.body.get!
mutual
def broad_Sum.j0 : Nat → Bool → Int → Bool → Int → Int → Int → Bool → Int → Bool → Int → Int → Int → Bool → Option (Int × Bool × Int × Int × Int × Bool)
 | 0, _, _, _, _, _, _, _, _, _, _, _, _, _ => none
 | k + 1, x17, x2000, x2001, x2002, x2003, x2004, x2005, x3000, x3001, x3002, x3003, x3004, x3005 => if x17 = true then (some (2, false, 0, 0, 0, false)) else (if x2000 = 0 then (some (x3000, x3001, x3002, x3003, x3004, x3005)) else (if x3000 = 0 then (some (x2000, x2001, x2002, x2003, x2004, x2005)) else (if x2002 < x3002 then (broad_Sum.j1 k x3001 x3002 x3003 x3004 x2001 x2002 x2003 x2004) else (broad_Sum.j1 k x2001 x2002 x2003 x2004 x3001 x3002 x3003 x3004))))
def broad_Sum.j1 : Nat → Bool → Int → Int → Int → Bool → Int → Int → Int → Option (Int × Bool × Int × Int × Int × Bool)
 | 0, _, _, _, _, _, _, _, _ => none
 | k + 1, x2001, x2002, x2003, x2004, x3001, x3002, x3003, x3004 => (broad_wide_under.f k x3003 x3004 0 0 (wrap64 (x2002 - x3002))).bind fun t100 => (if (x2001 == x3001) = true then ((broad_wide_plus.f x2003 x2004 0 0 t100.1 t100.2.1 t100.2.2.1 t100.2.2.2.1).bind fun t101 => (if t101.2.2.2.2 = 1 then ((broad_wide_under.f k t101.1 t101.2.1 t101.2.2.1 t101.2.2.2.1 1).bind fun t102 => (if t100.2.2.2.2 = true then (some (1, x2001, mx (-1099511627776) (mn (wrap64 (x2002 + 1)) 1099511627776), Go.bits .or .u64 t102.1 9223372036854775808, t102.2.1, true)) else (if (Go.bits .and .u64 t101.2.2.2.1 1) = 1 then (some (1, x2001, mx (-1099511627776) (mn (wrap64 (x2002 + 1)) 1099511627776), Go.bits .or .u64 t102.1 9223372036854775808, t102.2.1, true)) else (if t102.2.2.1 = 0 then (some (1, x2001, mx (-1099511627776) (mn (wrap64 (x2002 + 1)) 1099511627776), Go.bits .or .u64 t102.1 9223372036854775808, t102.2.1, t102.2.2.2.1 != 0)) else (some (1, x2001, mx (-1099511627776) (mn (wrap64 (x2002 + 1)) 1099511627776), Go.bits .or .u64 t102.1 9223372036854775808, t102.2.1, true)))))) else (if t100.2.2.2.2 = true then (some (1, x2001, mx (-1099511627776) (mn x2002 1099511627776), t101.1, t101.2.1, true)) else (if t101.2.2.1 = 0 then (some (1, x2001, mx (-1099511627776) (mn x2002 1099511627776), t101.1, t101.2.1, t101.2.2.2.1 != 0)) else (some (1, x2001, mx (-1099511627776) (mn x2002 1099511627776), t101.1, t101.2.1, true)))))) else (if t100.2.2.2.2 = true then (broad_Sum.j2 k t100.2.2.2.2 1 x3001 x2003 x2004 0 0 t100.1 t100.2.1 t100.2.2.1 t100.2.2.2.1 1 x2001 x2002) else (broad_Sum.j2 k t100.2.2.2.2 0 x3001 x2003 x2004 0 0 t100.1 t100.2.1 t100.2.2.1 t100.2.2.2.1 1 x2001 x2002)))
def broad_Sum.j2 : Nat → Bool → Int → Bool → Int → Int → Int → Int → Int → Int → Int → Int → Int → Bool → Int → Option (Int × Bool × Int × Int × Int × Bool)
 | 0, _, _, _, _, _, _, _, _, _, _, _, _, _, _ => none
 | k + 1, x7, x13, x3001, x5000, x5001, x5002, x5003, x6000, x6001, x6002, x6003, x8000, x8001, x8002 => (broad_wide_less.f x5000 x5001 x5002 x5003 x6000 x6001 x6002 x6003 x13).bind fun t103 => (if t103.2.2.2.2 = 1 then ((broad_wide_less.f x6000 x6001 x6002 x6003 x5000 x5001 x5002 x5003 0).bind fun t104 => (if ((t104.1 == 0) && ((t104.2.1 == 0) && ((t104.2.2.1 == 0) && (t104.2.2.2.1 == 0)))) = true then (some (0, false, 0, 0, 0, false)) else ((broad_wide_raised.f k t104.1 t104.2.1 t104.2.2.1 t104.2.2.2.1).bind fun t105 => (if x7 = true then (some (x8000, x3001, mx (-1099511627776) (mn (wrap64 (x8002 - t105.2.2.2.2)) 1099511627776), t105.1, t105.2.1, true)) else (if t105.2.2.1 = 0 then (some (x8000, x3001, mx (-1099511627776) (mn (wrap64 (x8002 - t105.2.2.2.2)) 1099511627776), t105.1, t105.2.1, t105.2.2.2.1 != 0)) else (some (x8000, x3001, mx (-1099511627776) (mn (wrap64 (x8002 - t105.2.2.2.2)) 1099511627776), t105.1, t105.2.1, true))))))) else (if ((t103.1 == 0) && ((t103.2.1 == 0) && ((t103.2.2.1 == 0) && (t103.2.2.2.1 == 0)))) = true then (some (0, false, 0, 0, 0, false)) else ((broad_wide_raised.f k t103.1 t103.2.1 t103.2.2.1 t103.2.2.2.1).bind fun t106 => (if x7 = true then (some (x8000, x8001, mx (-1099511627776) (mn (wrap64 (x8002 - t106.2.2.2.2)) 1099511627776), t106.1, t106.2.1, true)) else (if t106.2.2.1 = 0 then (some (x8000, x8001, mx (-1099511627776) (mn (wrap64 (x8002 - t106.2.2.2.2)) 1099511627776), t106.1, t106.2.1, t106.2.2.2.1 != 0)) else (some (x8000, x8001, mx (-1099511627776) (mn (wrap64 (x8002 - t106.2.2.2.2)) 1099511627776), t106.1, t106.2.1, true)))))))
end
def broad_Sum.f (k : Nat) (a0_0 : Int) (a0_1 : Bool) (a0_2 : Int) (a0_3 : Int) (a0_4 : Int) (a0_5 : Bool) (a1_0 : Int) (a1_1 : Bool) (a1_2 : Int) (a1_3 : Int) (a1_4 : Int) (a1_5 : Bool) : Option (Int × Bool × Int × Int × Int × Bool) := if a0_0 = 2 then (broad_Sum.j0 k true a0_0 a0_1 a0_2 a0_3 a0_4 a0_5 a1_0 a1_1 a1_2 a1_3 a1_4 a1_5) else (broad_Sum.j0 k (a1_0 == 2) a0_0 a0_1 a0_2 a0_3 a0_4 a0_5 a1_0 a1_1 a1_2 a1_3 a1_4 a1_5)
--@ok
noncomputable def broad_Sum.c (k : Nat) : Con := S111.con fun x => broad_Sum.f k x.1 x.2.1 x.2.2.1 x.2.2.2.1 x.2.2.2.2.1 x.2.2.2.2.2.1 x.2.2.2.2.2.2.1 x.2.2.2.2.2.2.2.1 x.2.2.2.2.2.2.2.2.1 x.2.2.2.2.2.2.2.2.2.1 x.2.2.2.2.2.2.2.2.2.2.1 x.2.2.2.2.2.2.2.2.2.2.2
noncomputable def broad_Sum.G (k : Nat) : List (Go.FuncId × Con) := [(144, broad_wide_under.c k), (145, broad_wide_plus.c), (146, broad_wide_less.c), (147, broad_wide_raised.c k)]
noncomputable def broad_Sum.cuts : List (Cut (TT S111.sb)) := [⟨[1, 4, 0, 1], [.sc 17 (.bool), .box 2 68 [.int .i64, .bool, .int .i64, .int .u64, .int .u64, .bool], .box 3 68 [.int .i64, .bool, .int .i64, .int .u64, .int .u64, .bool], .box 4 68 [.int .i64, .bool, .int .i64, .int .u64, .int .u64, .bool]], fun k x => broad_Sum.j0 k x.1 x.2.1.1 x.2.1.2.1 x.2.1.2.2.1 x.2.1.2.2.2.1 x.2.1.2.2.2.2.1 x.2.1.2.2.2.2.2 x.2.2.1.1 x.2.2.1.2.1 x.2.2.1.2.2.1 x.2.2.1.2.2.2.1 x.2.2.1.2.2.2.2.1 x.2.2.1.2.2.2.2.2⟩, ⟨[1, 1], [.box 2 68 [.int .i64, .bool, .int .i64, .int .u64, .int .u64, .bool], .box 3 68 [.int .i64, .bool, .int .i64, .int .u64, .int .u64, .bool], .box 4 68 [.int .i64, .bool, .int .i64, .int .u64, .int .u64, .bool]], fun k x => broad_Sum.j1 k x.1.2.1 x.1.2.2.1 x.1.2.2.2.1 x.1.2.2.2.2.1 x.2.1.2.1 x.2.1.2.2.1 x.2.1.2.2.2.1 x.2.1.2.2.2.2.1⟩, ⟨[1, 1, 3, 1, 0, 1, 1, 1, 1, 1, 1], [.sc 7 (.bool), .sc 13 (.int .u64), .box 3 68 [.int .i64, .bool, .int .i64, .int .u64, .int .u64, .bool], .box 4 68 [.int .i64, .bool, .int .i64, .int .u64, .int .u64, .bool], .box 5 163 [.int .u64, .int .u64, .int .u64, .int .u64], .box 6 163 [.int .u64, .int .u64, .int .u64, .int .u64], .box 8 68 [.int .i64, .bool, .int .i64, .int .u64, .int .u64, .bool], .box 9 163 [.int .u64, .int .u64, .int .u64, .int .u64]], fun k x => broad_Sum.j2 k x.1 x.2.1 x.2.2.1.2.1 x.2.2.2.2.1.1 x.2.2.2.2.1.2.1 x.2.2.2.2.1.2.2.1 x.2.2.2.2.1.2.2.2 x.2.2.2.2.2.1.1 x.2.2.2.2.2.1.2.1 x.2.2.2.2.2.1.2.2.1 x.2.2.2.2.2.1.2.2.2 x.2.2.2.2.2.2.1.1 x.2.2.2.2.2.2.1.2.1 x.2.2.2.2.2.2.1.2.2.1⟩]
theorem broad_Sum.w0 (k : Nat) (x : ET [.sc 17 (.bool), .box 2 68 [.int .i64, .bool, .int .i64, .int .u64, .int .u64, .bool], .box 3 68 [.int .i64, .bool, .int .i64, .int .u64, .int .u64, .bool], .box 4 68 [.int .i64, .bool, .int .i64, .int .u64, .int .u64, .bool]]) : walk E111 (broad_Sum.G k) (cutsAt k broad_Sum.cuts) (retE E111 Go.Proofs.Tryz.f111.results.toList S111) 4000 true (stackAt B111 [1, 4, 0, 1]) (mkE [.sc 17 (.bool), .box 2 68 [.int .i64, .bool, .int .i64, .int .u64, .int .u64, .bool], .box 3 68 [.int .i64, .bool, .int .i64, .int .u64, .int .u64, .bool], .box 4 68 [.int .i64, .bool, .int .i64, .int .u64, .int .u64, .bool]] x St.nil) = broad_Sum.j0 (k + 1) x.1 x.2.1.1 x.2.1.2.1 x.2.1.2.2.1 x.2.1.2.2.2.1 x.2.1.2.2.2.2.1 x.2.1.2.2.2.2.2 x.2.2.1.1 x.2.2.1.2.1 x.2.2.1.2.2.1 x.2.2.1.2.2.2.1 x.2.2.1.2.2.2.2.1 x.2.2.1.2.2.2.2.2 := by kernel_rfl
theorem broad_Sum.w1 (k : Nat) (x : ET [.box 2 68 [.int .i64, .bool, .int .i64, .int .u64, .int .u64, .bool], .box 3 68 [.int .i64, .bool, .int .i64, .int .u64, .int .u64, .bool], .box 4 68 [.int .i64, .bool, .int .i64, .int .u64, .int .u64, .bool]]) : walk E111 (broad_Sum.G k) (cutsAt k broad_Sum.cuts) (retE E111 Go.Proofs.Tryz.f111.results.toList S111) 4000 true (stackAt B111 [1, 1]) (mkE [.box 2 68 [.int .i64, .bool, .int .i64, .int .u64, .int .u64, .bool], .box 3 68 [.int .i64, .bool, .int .i64, .int .u64, .int .u64, .bool], .box 4 68 [.int .i64, .bool, .int .i64, .int .u64, .int .u64, .bool]] x St.nil) = broad_Sum.j1 (k + 1) x.1.2.1 x.1.2.2.1 x.1.2.2.2.1 x.1.2.2.2.2.1 x.2.1.2.1 x.2.1.2.2.1 x.2.1.2.2.2.1 x.2.1.2.2.2.2.1 := by kernel_rfl
theorem broad_Sum.w2 (k : Nat) (x : ET [.sc 7 (.bool), .sc 13 (.int .u64), .box 3 68 [.int .i64, .bool, .int .i64, .int .u64, .int .u64, .bool], .box 4 68 [.int .i64, .bool, .int .i64, .int .u64, .int .u64, .bool], .box 5 163 [.int .u64, .int .u64, .int .u64, .int .u64], .box 6 163 [.int .u64, .int .u64, .int .u64, .int .u64], .box 8 68 [.int .i64, .bool, .int .i64, .int .u64, .int .u64, .bool], .box 9 163 [.int .u64, .int .u64, .int .u64, .int .u64]]) : walk E111 (broad_Sum.G k) (cutsAt k broad_Sum.cuts) (retE E111 Go.Proofs.Tryz.f111.results.toList S111) 4000 true (stackAt B111 [1, 1, 3, 1, 0, 1, 1, 1, 1, 1, 1]) (mkE [.sc 7 (.bool), .sc 13 (.int .u64), .box 3 68 [.int .i64, .bool, .int .i64, .int .u64, .int .u64, .bool], .box 4 68 [.int .i64, .bool, .int .i64, .int .u64, .int .u64, .bool], .box 5 163 [.int .u64, .int .u64, .int .u64, .int .u64], .box 6 163 [.int .u64, .int .u64, .int .u64, .int .u64], .box 8 68 [.int .i64, .bool, .int .i64, .int .u64, .int .u64, .bool], .box 9 163 [.int .u64, .int .u64, .int .u64, .int .u64]] x St.nil) = broad_Sum.j2 (k + 1) x.1 x.2.1 x.2.2.1.2.1 x.2.2.2.2.1.1 x.2.2.2.2.1.2.1 x.2.2.2.2.1.2.2.1 x.2.2.2.2.1.2.2.2 x.2.2.2.2.2.1.1 x.2.2.2.2.2.1.2.1 x.2.2.2.2.2.1.2.2.1 x.2.2.2.2.2.1.2.2.2 x.2.2.2.2.2.2.1.1 x.2.2.2.2.2.2.1.2.1 x.2.2.2.2.2.2.1.2.2.1 := by kernel_rfl
theorem broad_Sum.w (k : Nat) (x : TT S111.sa) : walk E111 (broad_Sum.G k) (cutsAt k broad_Sum.cuts) (retE E111 Go.Proofs.Tryz.f111.results.toList S111) 4000 true [([], .code B111)] (St0 S111 x) = broad_Sum.f k x.1 x.2.1 x.2.2.1 x.2.2.2.1 x.2.2.2.2.1 x.2.2.2.2.2.1 x.2.2.2.2.2.2.1 x.2.2.2.2.2.2.2.1 x.2.2.2.2.2.2.2.2.1 x.2.2.2.2.2.2.2.2.2.1 x.2.2.2.2.2.2.2.2.2.2.1 x.2.2.2.2.2.2.2.2.2.2.2 := by kernel_rfl
theorem broad_Sum.ok (k : Nat) : FnOk Go.Proofs.Tryz.prog E111.eT 111 (broad_Sum.c k) := FnOk.walk (E := E111) (body := B111) Go.Proofs.Tryz.func111 rfl (by rfl) Go.Proofs.Tryz.ntmps111 S111 rfl (fun k x => broad_Sum.f k x.1 x.2.1 x.2.2.1 x.2.2.2.1 x.2.2.2.2.1 x.2.2.2.2.2.1 x.2.2.2.2.2.2.1 x.2.2.2.2.2.2.2.1 x.2.2.2.2.2.2.2.2.1 x.2.2.2.2.2.2.2.2.2.1 x.2.2.2.2.2.2.2.2.2.2.1 x.2.2.2.2.2.2.2.2.2.2.2) broad_Sum.G (fun k => ⟨broad_wide_under.ok k, broad_wide_plus.ok, broad_wide_less.ok, broad_wide_raised.ok k, trivial⟩) 4000 broad_Sum.cuts ⟨⟨fun _ => rfl, fun k x q h => (broad_Sum.w0 k x).trans h⟩, ⟨fun _ => rfl, fun k x q h => (broad_Sum.w1 k x).trans h⟩, ⟨fun _ => rfl, fun k x q h => (broad_Sum.w2 k x).trans h⟩, trivial⟩ (fun k x r h => (broad_Sum.w k x).trans h) k
end Go.Proofs.YtnjhblakghjdoaaGreat.Fn
set_option maxRecDepth 100000
set_option linter.unusedVariables false
noncomputable section
namespace Go.Proofs.YtnjhblakghjdoaaGreat.Fn
open Go Go.RowKit Go.Proofs.YtnjhblakghjdoaaGreat.Ab
noncomputable def E90 : En := ⟨Go.Proofs.Tryz.prog, 156, Go.Proofs.Tryz.f90.ntmps⟩
noncomputable def S90 : Sig := ⟨[.g 4, .g 4], [(.int .i64), .bool, (.int .i64), (.int .u64), (.int .i64), .bool, (.int .i64), (.int .u64)], true, [.g 6, .s], [(.int .i64), .bool, (.int .i64), (.int .u64), (.int .u64), .bool, .err], false⟩
noncomputable def B90 : Go.Code := Go.Proofs.Tryz.f90.body.get!
def sum_Exact.f (k : Nat) (a0_0 : Int) (a0_1 : Bool) (a0_2 : Int) (a0_3 : Int) (a1_0 : Int) (a1_1 : Bool) (a1_2 : Int) (a1_3 : Int) : Option (Int × Bool × Int × Int × Int × Bool × Option Int) := (round_Of.f k a0_0 a0_1 a0_2 a0_3).bind fun t100 => (if t100.2.2.2.2.2.2.isNone = true then ((round_Of.f k a1_0 a1_1 a1_2 a1_3).bind fun t101 => (if t101.2.2.2.2.2.2.isNone = true then ((broad_Sum.f k t100.1 t100.2.1 t100.2.2.1 t100.2.2.2.1 t100.2.2.2.2.1 t100.2.2.2.2.2.1 t101.1 t101.2.1 t101.2.2.1 t101.2.2.2.1 t101.2.2.2.2.1 t101.2.2.2.2.2.1).bind fun t102 => (some (t102.1, t102.2.1, t102.2.2.1, t102.2.2.2.1, t102.2.2.2.2.1, t102.2.2.2.2.2, none))) else (some (0, false, 0, 0, 0, false, some (t101.2.2.2.2.2.2.getD 0))))) else (some (0, false, 0, 0, 0, false, some (t100.2.2.2.2.2.2.getD 0))))
--@ok
noncomputable def sum_Exact.c (k : Nat) : Con := S90.con fun x => sum_Exact.f k x.1 x.2.1 x.2.2.1 x.2.2.2.1 x.2.2.2.2.1 x.2.2.2.2.2.1 x.2.2.2.2.2.2.1 x.2.2.2.2.2.2.2
noncomputable def sum_Exact.G (k : Nat) : List (Go.FuncId × Con) := [(103, round_Of.c k), (111, broad_Sum.c k)]
noncomputable def sum_Exact.cuts : List (Cut (TT S90.sb)) := []
theorem sum_Exact.w (k : Nat) (x : TT S90.sa) : walk E90 (sum_Exact.G k) (cutsAt k sum_Exact.cuts) (retE E90 Go.Proofs.Tryz.f90.results.toList S90) 4000 true [([], .code B90)] (St0 S90 x) = sum_Exact.f k x.1 x.2.1 x.2.2.1 x.2.2.2.1 x.2.2.2.2.1 x.2.2.2.2.2.1 x.2.2.2.2.2.2.1 x.2.2.2.2.2.2.2 := by kernel_rfl
theorem sum_Exact.ok (k : Nat) : FnOk Go.Proofs.Tryz.prog E90.eT 90 (sum_Exact.c k) := FnOk.walk (E := E90) (body := B90) Go.Proofs.Tryz.func90 rfl (by rfl) Go.Proofs.Tryz.ntmps90 S90 rfl (fun k x => sum_Exact.f k x.1 x.2.1 x.2.2.1 x.2.2.2.1 x.2.2.2.2.1 x.2.2.2.2.2.1 x.2.2.2.2.2.2.1 x.2.2.2.2.2.2.2) sum_Exact.G (fun k => ⟨round_Of.ok k, broad_Sum.ok k, trivial⟩) 4000 sum_Exact.cuts trivial (fun k x r h => (sum_Exact.w k x).trans h) k
noncomputable def E117 : En := ⟨Go.Proofs.Tryz.prog, 156, Go.Proofs.Tryz.f117.ntmps⟩
noncomputable def S117 : Sig := ⟨[.s], [(.int .i64)], true, [.g 5, .s], [(.int .i64), (.int .u64), (.int .u64), (.int .u64), (.int .i64), .err], false⟩
noncomputable def B117 : Go.Code := Go.Proofs.Tryz.f117.body.get!
def shape_Of.f (a0 : Int) : Option (Int × Int × Int × Int × Int × Option Int) := (shape_is.f a0).bind fun t100 => (if t100 = true then (if 0 ≤ (wrap64 (a0 - 1)) then (some (a0, IntKind.u64.wrap ((shl .u64 1 (wrap64 (a0 - 1))) - 1), 1, shl .u64 1 (wrap64 (a0 - 1)), wrap64 ((wrap64 (4 * a0)) - 8), none)) else (none)) else (some (0, 0, 0, 0, 0, some 2)))
--@ok
noncomputable def shape_Of.c : Con := S117.con fun x => shape_Of.f x
noncomputable def shape_Of.G (k : Nat) : List (Go.FuncId × Con) := [(148, shape_is.c)]
noncomputable def shape_Of.cuts : List (Cut (TT S117.sb)) := []
theorem shape_Of.w (k : Nat) (x : TT S117.sa) : walk E117 (shape_Of.G k) (cutsAt k shape_Of.cuts) (retE E117 Go.Proofs.Tryz.f117.results.toList S117) 4000 true [([], .code B117)] (St0 S117 x) = shape_Of.f x := by kernel_rfl
theorem shape_Of.ok : FnOk Go.Proofs.Tryz.prog E117.eT 117 (shape_Of.c) := FnOk.walk (E := E117) (body := B117) Go.Proofs.Tryz.func117 rfl (by rfl) Go.Proofs.Tryz.ntmps117 S117 rfl (fun k x => shape_Of.f x) shape_Of.G (fun k => ⟨shape_is.ok, trivial⟩) 4000 shape_Of.cuts trivial (fun k x r h => (shape_Of.w k x).trans h) 0
noncomputable def E169 : En := ⟨Go.Proofs.Tryz.prog, 156, Go.Proofs.Tryz.f169.ntmps⟩
noncomputable def S169 : Sig := ⟨[.g 2, .s], [(.int .u64), (.int .u64), (.int .i64)], false, [.g 2], [(.int .u64), (.int .u64)], false⟩
noncomputable def B169 : Go.Code := Go.Proofs.Tryz.f169.body.get!
def twin_shl.f (a0_0 : Int) (a0_1 : Int) (a1 : Int) : Option (Int × Int) := if a1 ≥ 64 then (if 0 ≤ (wrap64 (a1 - 64)) then (some (shl .u64 a0_1 (wrap64 (a1 - 64)), 0)) else (none)) else (if 0 ≤ a1 then (if 0 ≤ (wrap64 (64 - a1)) then (some (Go.bits .or .u64 (shl .u64 a0_0 a1) (shr .u64 a0_1 (wrap64 (64 - a1))), shl .u64 a0_1 a1)) else (none)) else (none))
--@ok
def twin_shl.fR (a0_0 : Int) (a0_1 : Int) (a1 : Int) : Option (Int × Int) := if a1 ≥ 64 then (if 0 ≤ (wrap64 (a1 - 64)) then (some (shl .u64 a0_1 (wrap64 (a1 - 64)), 0)) else (none)) else (if 0 ≤ a1 then (if 0 ≤ (wrap64 (64 - a1)) then (if 0 ≤ a1 then (some (Go.bits .or .u64 (shl .u64 a0_0 a1) (shr .u64 a0_1 (wrap64 (64 - a1))), shl .u64 a0_1 a1)) else (none)) else (none)) else (none))
theorem twin_shl.fE (a0_0 : Int) (a0_1 : Int) (a1 : Int) : twin_shl.fR a0_0 a0_1 a1 = twin_shl.f a0_0 a0_1 a1 := by
  unfold twin_shl.fR twin_shl.f
  exact iteC (fun h0 => iteC (fun h1 => rfl) (fun h1 => rfl)) (fun h0 => iteC (fun h1 => iteC (fun h2 => (if_pos h1).trans (rfl)) (fun h2 => rfl)) (fun h1 => rfl))
noncomputable def twin_shl.c : Con := S169.con fun x => twin_shl.f x.1 x.2.1 x.2.2
noncomputable def twin_shl.G (k : Nat) : List (Go.FuncId × Con) := []
noncomputable def twin_shl.cuts : List (Cut (TT S169.sb)) := []
theorem twin_shl.w (k : Nat) (x : TT S169.sa) : walk E169 (twin_shl.G k) (cutsAt k twin_shl.cuts) (retE E169 Go.Proofs.Tryz.f169.results.toList S169) 4000 true [([], .code B169)] (St0 S169 x) = twin_shl.f x.1 x.2.1 x.2.2 := Eq.trans (b := twin_shl.fR x.1 x.2.1 x.2.2) (by kernel_rfl) (twin_shl.fE x.1 x.2.1 x.2.2)
theorem twin_shl.ok : FnOk Go.Proofs.Tryz.prog E169.eT 169 (twin_shl.c) := FnOk.walk (E := E169) (body := B169) Go.Proofs.Tryz.func169 rfl (by rfl) Go.Proofs.Tryz.ntmps169 S169 rfl (fun k x => twin_shl.f x.1 x.2.1 x.2.2) twin_shl.G (fun k => trivial) 4000 twin_shl.cuts trivial (fun k x r h => (twin_shl.w k x).trans h) 0
noncomputable def E180 : En := ⟨Go.Proofs.Tryz.prog, 156, Go.Proofs.Tryz.f180.ntmps⟩
noncomputable def S180 : Sig := ⟨[.g 2], [(.int .u64), (.int .u64)], false, [.s], [(.int .i64)], false⟩
noncomputable def B180 : Go.Code := Go.Proofs.Tryz.f180.body.get!
def twin_Len.f (a0_0 : Int) (a0_1 : Int) : Option (Int) := if a0_0 > 0 then ((bits_Len64.f a0_0).bind fun t100 => (some (wrap64 (64 + t100)))) else ((bits_Len64.f a0_1).bind fun t101 => (some t101))
--@ok
noncomputable def twin_Len.c : Con := S180.con fun x => twin_Len.f x.1 x.2
noncomputable def twin_Len.G (k : Nat) : List (Go.FuncId × Con) := [(182, bits_Len64.c)]
noncomputable def twin_Len.cuts : List (Cut (TT S180.sb)) := []
theorem twin_Len.w (k : Nat) (x : TT S180.sa) : walk E180 (twin_Len.G k) (cutsAt k twin_Len.cuts) (retE E180 Go.Proofs.Tryz.f180.results.toList S180) 4000 true [([], .code B180)] (St0 S180 x) = twin_Len.f x.1 x.2 := by kernel_rfl
theorem twin_Len.ok : FnOk Go.Proofs.Tryz.prog E180.eT 180 (twin_Len.c) := FnOk.walk (E := E180) (body := B180) Go.Proofs.Tryz.func180 rfl (by rfl) Go.Proofs.Tryz.ntmps180 S180 rfl (fun k x => twin_Len.f x.1 x.2) twin_Len.G (fun k => ⟨bits_Len64.ok, trivial⟩) 4000 twin_Len.cuts trivial (fun k x r h => (twin_Len.w k x).trans h) 0
noncomputable def E155 : En := ⟨Go.Proofs.Tryz.prog, 156, Go.Proofs.Tryz.f155.ntmps⟩
noncomputable def S155 : Sig := ⟨[.g 2, .s], [(.int .u64), (.int .u64), (.int .i64)], true, [.g 2, .s, .s], [(.int .u64), (.int .u64), .bool, .err], false⟩
noncomputable def B155 : Go.Code := Go.Proofs.Tryz.f155.body.get!
def twin_Shl.f (a0_0 : Int) (a0_1 : Int) (a1 : Int) : Option (Int × Int × Bool × Option Int) := if a1 < 0 then (some (0, 0, false, some 1)) else ((twin_shl.f a0_0 a0_1 (mn a1 128)).bind fun t100 => ((twin_Len.f a0_0 a0_1).bind fun t101 => (some (t100.1, t100.2, decide (t101 > (wrap64 (128 - (mn a1 128)))), none))))
--@ok
noncomputable def twin_Shl.c : Con := S155.con fun x => twin_Shl.f x.1 x.2.1 x.2.2
noncomputable def twin_Shl.G (k : Nat) : List (Go.FuncId × Con) := [(169, twin_shl.c), (180, twin_Len.c)]
noncomputable def twin_Shl.cuts : List (Cut (TT S155.sb)) := []
theorem twin_Shl.w (k : Nat) (x : TT S155.sa) : walk E155 (twin_Shl.G k) (cutsAt k twin_Shl.cuts) (retE E155 Go.Proofs.Tryz.f155.results.toList S155) 4000 true [([], .code B155)] (St0 S155 x) = twin_Shl.f x.1 x.2.1 x.2.2 := by kernel_rfl
theorem twin_Shl.ok : FnOk Go.Proofs.Tryz.prog E155.eT 155 (twin_Shl.c) := FnOk.walk (E := E155) (body := B155) Go.Proofs.Tryz.func155 rfl (by rfl) Go.Proofs.Tryz.ntmps155 S155 rfl (fun k x => twin_Shl.f x.1 x.2.1 x.2.2) twin_Shl.G (fun k => ⟨twin_shl.ok, twin_Len.ok, trivial⟩) 4000 twin_Shl.cuts trivial (fun k x r h => (twin_Shl.w k x).trans h) 0
noncomputable def E168 : En := ⟨Go.Proofs.Tryz.prog, 156, Go.Proofs.Tryz.f168.ntmps⟩
noncomputable def S168 : Sig := ⟨[.g 2, .s], [(.int .u64), (.int .u64), (.int .i64)], false, [.g 2], [(.int .u64), (.int .u64)], false⟩
noncomputable def B168 : Go.Code := Go.Proofs.Tryz.f168.body.get!
def twin_shr.f (a0_0 : Int) (a0_1 : Int) (a1 : Int) : Option (Int × Int) := if a1 ≥ 64 then (if 0 ≤ (wrap64 (a1 - 64)) then (some (0, shr .u64 a0_0 (wrap64 (a1 - 64)))) else (none)) else (if 0 ≤ a1 then (if 0 ≤ (wrap64 (64 - a1)) then (some (shr .u64 a0_0 a1, Go.bits .or .u64 (shr .u64 a0_1 a1) (shl .u64 a0_0 (wrap64 (64 - a1))))) else (none)) else (none))
--@ok
def twin_shr.fR (a0_0 : Int) (a0_1 : Int) (a1 : Int) : Option (Int × Int) := if a1 ≥ 64 then (if 0 ≤ (wrap64 (a1 - 64)) then (some (0, shr .u64 a0_0 (wrap64 (a1 - 64)))) else (none)) else (if 0 ≤ a1 then (if 0 ≤ a1 then (if 0 ≤ (wrap64 (64 - a1)) then (some (shr .u64 a0_0 a1, Go.bits .or .u64 (shr .u64 a0_1 a1) (shl .u64 a0_0 (wrap64 (64 - a1))))) else (none)) else (none)) else (none))
theorem twin_shr.fE (a0_0 : Int) (a0_1 : Int) (a1 : Int) : twin_shr.fR a0_0 a0_1 a1 = twin_shr.f a0_0 a0_1 a1 := by
  unfold twin_shr.fR twin_shr.f
  exact iteC (fun h0 => iteC (fun h1 => rfl) (fun h1 => rfl)) (fun h0 => iteC (fun h1 => (if_pos h1).trans (iteC (fun h2 => rfl) (fun h2 => rfl))) (fun h1 => rfl))
noncomputable def twin_shr.c : Con := S168.con fun x => twin_shr.f x.1 x.2.1 x.2.2
noncomputable def twin_shr.G (k : Nat) : List (Go.FuncId × Con) := []
noncomputable def twin_shr.cuts : List (Cut (TT S168.sb)) := []
theorem twin_shr.w (k : Nat) (x : TT S168.sa) : walk E168 (twin_shr.G k) (cutsAt k twin_shr.cuts) (retE E168 Go.Proofs.Tryz.f168.results.toList S168) 4000 true [([], .code B168)] (St0 S168 x) = twin_shr.f x.1 x.2.1 x.2.2 := Eq.trans (b := twin_shr.fR x.1 x.2.1 x.2.2) (by kernel_rfl) (twin_shr.fE x.1 x.2.1 x.2.2)
theorem twin_shr.ok : FnOk Go.Proofs.Tryz.prog E168.eT 168 (twin_shr.c) := FnOk.walk (E := E168) (body := B168) Go.Proofs.Tryz.func168 rfl (by rfl) Go.Proofs.Tryz.ntmps168 S168 rfl (fun k x => twin_shr.f x.1 x.2.1 x.2.2) twin_shr.G (fun k => trivial) 4000 twin_shr.cuts trivial (fun k x r h => (twin_shr.w k x).trans h) 0
noncomputable def E138 : En := ⟨Go.Proofs.Tryz.prog, 156, Go.Proofs.Tryz.f138.ntmps⟩
noncomputable def S138 : Sig := ⟨[.g 2, .s], [(.int .u64), (.int .u64), (.int .i64)], true, [.g 2, .s, .s], [(.int .u64), (.int .u64), .bool, .err], false⟩
noncomputable def B138 : Go.Code := Go.Proofs.Tryz.f138.body.get!
def twin_Shr.f (a0_0 : Int) (a0_1 : Int) (a1 : Int) : Option (Int × Int × Bool × Option Int) := if a1 < 0 then (some (0, 0, false, some 1)) else ((twin_shr.f a0_0 a0_1 (mn a1 128)).bind fun t100 => ((twin_shl.f t100.1 t100.2 (mn a1 128)).bind fun t101 => (some (t100.1, t100.2, !((t101.1 == a0_0) && (t101.2 == a0_1)), none))))
--@ok
noncomputable def twin_Shr.c : Con := S138.con fun x => twin_Shr.f x.1 x.2.1 x.2.2
noncomputable def twin_Shr.G (k : Nat) : List (Go.FuncId × Con) := [(168, twin_shr.c), (169, twin_shl.c)]
noncomputable def twin_Shr.cuts : List (Cut (TT S138.sb)) := []
theorem twin_Shr.w (k : Nat) (x : TT S138.sa) : walk E138 (twin_Shr.G k) (cutsAt k twin_Shr.cuts) (retE E138 Go.Proofs.Tryz.f138.results.toList S138) 4000 true [([], .code B138)] (St0 S138 x) = twin_Shr.f x.1 x.2.1 x.2.2 := by kernel_rfl
theorem twin_Shr.ok : FnOk Go.Proofs.Tryz.prog E138.eT 138 (twin_Shr.c) := FnOk.walk (E := E138) (body := B138) Go.Proofs.Tryz.func138 rfl (by rfl) Go.Proofs.Tryz.ntmps138 S138 rfl (fun k x => twin_Shr.f x.1 x.2.1 x.2.2) twin_Shr.G (fun k => ⟨twin_shr.ok, twin_shl.ok, trivial⟩) 4000 twin_Shr.cuts trivial (fun k x r h => (twin_Shr.w k x).trans h) 0
noncomputable def E156 : En := ⟨Go.Proofs.Tryz.prog, 156, Go.Proofs.Tryz.f156.ntmps⟩
noncomputable def S156 : Sig := ⟨[.g 2, .s, .s, .s], [(.int .u64), (.int .u64), (.int .u64), (.int .i64), .bool], true, [.g 2, .s], [(.int .u64), (.int .u64), .bool], false⟩
noncomputable def B156 : Go.Code := Go.Proofs.Tryz.f156.body.get!
def round_under.f (a0_0 : Int) (a0_1 : Int) (a1 : Int) (a2 : Int) (a3 : Bool) : Option (Int × Int × Bool) := (twin_Shr.f a0_0 a0_1 a2).bind fun t100 => (if 0 ≤ (wrap64 (64 - a2)) then (if a3 = true then (some (Go.bits .or .u64 t100.1 (shl .u64 a1 (wrap64 (64 - a2))), t100.2.1, true)) else (some (Go.bits .or .u64 t100.1 (shl .u64 a1 (wrap64 (64 - a2))), t100.2.1, t100.2.2.1))) else (none))
--@ok
noncomputable def round_under.c : Con := S156.con fun x => round_under.f x.1 x.2.1 x.2.2.1 x.2.2.2.1 x.2.2.2.2
noncomputable def round_under.G (k : Nat) : List (Go.FuncId × Con) := [(138, twin_Shr.c)]
noncomputable def round_under.cuts : List (Cut (TT S156.sb)) := []
theorem round_under.w (k : Nat) (x : TT S156.sa) : walk E156 (round_under.G k) (cutsAt k round_under.cuts) (retE E156 Go.Proofs.Tryz.f156.results.toList S156) 4000 true [([], .code B156)] (St0 S156 x) = round_under.f x.1 x.2.1 x.2.2.1 x.2.2.2.1 x.2.2.2.2 := by kernel_rfl
theorem round_under.ok : FnOk Go.Proofs.Tryz.prog E156.eT 156 (round_under.c) := FnOk.walk (E := E156) (body := B156) Go.Proofs.Tryz.func156 rfl (by rfl) Go.Proofs.Tryz.ntmps156 S156 rfl (fun k x => round_under.f x.1 x.2.1 x.2.2.1 x.2.2.2.1 x.2.2.2.2) round_under.G (fun k => ⟨twin_Shr.ok, trivial⟩) 4000 round_under.cuts trivial (fun k x r h => (round_under.w k x).trans h) 0
noncomputable def E157 : En := ⟨Go.Proofs.Tryz.prog, 156, Go.Proofs.Tryz.f157.ntmps⟩
noncomputable def S157 : Sig := ⟨[.s, .s], [(.int .u64), .bool], false, [.s], [(.int .i64)], false⟩
noncomputable def B157 : Go.Code := Go.Proofs.Tryz.f157.body.get!
def round_left.j0 : Nat → Int → Bool → Int → Bool → Option (Int)
 | 0, _, _, _, _ => none
 | k + 1, x0, x1, x5, x6 => if x6 = true then (some 3) else (if x0 = x5 then (some 2) else (if x0 > 0 then (some 1) else (if x1 = true then (some 1) else (some 0))))
def round_left.f (k : Nat) (a0 : Int) (a1 : Bool) : Option (Int) := if a0 > 9223372036854775808 then (round_left.j0 k a0 a1 9223372036854775808 (decide (a0 > 9223372036854775808))) else (if a0 = 9223372036854775808 then (round_left.j0 k a0 a1 9223372036854775808 a1) else (round_left.j0 k a0 a1 9223372036854775808 false))
--@ok
noncomputable def round_left.c (k : Nat) : Con := S157.con fun x => round_left.f k x.1 x.2
noncomputable def round_left.G (k : Nat) : List (Go.FuncId × Con) := []
noncomputable def round_left.cuts : List (Cut (TT S157.sb)) := [⟨[1, 4, 0, 1, 1], [.sc 0 (.int .u64), .sc 1 (.bool), .sc 5 (.int .u64), .sc 6 (.bool)], fun k x => round_left.j0 k x.1 x.2.1 x.2.2.1 x.2.2.2⟩]
theorem round_left.w0 (k : Nat) (x : ET [.sc 0 (.int .u64), .sc 1 (.bool), .sc 5 (.int .u64), .sc 6 (.bool)]) : walk E157 (round_left.G k) (cutsAt k round_left.cuts) (retE E157 Go.Proofs.Tryz.f157.results.toList S157) 4000 true (stackAt B157 [1, 4, 0, 1, 1]) (mkE [.sc 0 (.int .u64), .sc 1 (.bool), .sc 5 (.int .u64), .sc 6 (.bool)] x St.nil) = round_left.j0 (k + 1) x.1 x.2.1 x.2.2.1 x.2.2.2 := by kernel_rfl
theorem round_left.w (k : Nat) (x : TT S157.sa) : walk E157 (round_left.G k) (cutsAt k round_left.cuts) (retE E157 Go.Proofs.Tryz.f157.results.toList S157) 4000 true [([], .code B157)] (St0 S157 x) = round_left.f k x.1 x.2 := by kernel_rfl
theorem round_left.ok (k : Nat) : FnOk Go.Proofs.Tryz.prog E157.eT 157 (round_left.c k) := FnOk.walk (E := E157) (body := B157) Go.Proofs.Tryz.func157 rfl (by rfl) Go.Proofs.Tryz.ntmps157 S157 rfl (fun k x => round_left.f k x.1 x.2) round_left.G (fun k => trivial) 4000 round_left.cuts ⟨⟨fun _ => rfl, fun k x q h => (round_left.w0 k x).trans h⟩, trivial⟩ (fun k x r h => (round_left.w k x).trans h) k
noncomputable def E120 : En := ⟨Go.Proofs.Tryz.prog, 156, Go.Proofs.Tryz.f120.ntmps⟩
noncomputable def S120 : Sig := ⟨[.s, .g 6], [(.int .i64), (.int .i64), .bool, (.int .i64), (.int .u64), (.int .u64), .bool], true, [.s, .s, .s], [(.int .u64), (.int .i64), .err], false⟩
noncomputable def B120 : Go.Code := Go.Proofs.Tryz.f120.body.get!
mutual
def round_Cut.j0 : Nat → Int → Int → Int → Int → Bool → Option (Int × Int × Option Int)
 | 0, _, _, _, _, _ => none
 | k + 1, x0, x3002, x3003, x3004, x3005 => (twin_Shl.f x3003 x3004 1).bind fun t102 => ((round_under.f t102.1 t102.2.1 (IntKind.u64.wrap (Go.bits .and .i64 x3002 3)) 2 x3005).bind fun t103 => (if (x3002 / 4) ≥ 0 then ((round_under.f t103.1 t103.2.1 0 1 t103.2.2).bind fun t104 => (round_Cut.l0 k x0 t104.2.2 (wrap64 ((x3002 / 4) + 1)) 0 t104.1 t104.2.1)) else ((round_under.f t103.1 t103.2.1 1 1 t103.2.2).bind fun t105 => (round_Cut.l1 k x0 t105.2.2 (wrap64 (-(x3002 / 4))) 0 t105.1 t105.2.1))))
def round_Cut.l0 : Nat → Int → Bool → Int → Int → Int → Int → Option (Int × Int × Option Int)
 | 0, _, _, _, _, _, _ => none
 | k + 1, x0, x12, x114, x115, x9000, x9001 => if x115 < x114 then ((round_under.f x9000 x9001 1 1 x12).bind fun t106 => (round_Cut.l0 k x0 t106.2.2 x114 (wrap64 (x115 + 1)) t106.1 t106.2.1)) else (round_Cut.j3 k x0 x12 x9000 x9001)
def round_Cut.l1 : Nat → Int → Bool → Int → Int → Int → Int → Option (Int × Int × Option Int)
 | 0, _, _, _, _, _, _ => none
 | k + 1, x0, x12, x131, x132, x9000, x9001 => if x132 < x131 then ((round_under.f x9000 x9001 0 1 x12).bind fun t107 => (round_Cut.l1 k x0 t107.2.2 x131 (wrap64 (x132 + 1)) t107.1 t107.2.1)) else (round_Cut.j3 k x0 x12 x9000 x9001)
def round_Cut.j3 : Nat → Int → Bool → Int → Int → Option (Int × Int × Option Int)
 | 0, _, _, _, _ => none
 | k + 1, x0, x12, x9000, x9001 => if 0 ≤ (wrap64 (65 - x0)) then ((twin_Shl.f x9000 x9001 (wrap64 (x0 - 1))).bind fun t108 => (if t108.2.1 = 0 then ((round_left.f k t108.1 x12).bind fun t109 => (some (shr .u64 x9000 (wrap64 (65 - x0)), t109, none))) else ((round_left.f k t108.1 true).bind fun t110 => (some (shr .u64 x9000 (wrap64 (65 - x0)), t110, none))))) else (none)
end
def round_Cut.f (k : Nat) (a0 : Int) (a1_0 : Int) (a1_1 : Bool) (a1_2 : Int) (a1_3 : Int) (a1_4 : Int) (a1_5 : Bool) : Option (Int × Int × Option Int) := (shape_Of.f a0).bind fun t100 => (if t100.2.2.2.2.2.isNone = true then ((round_sound.f k a1_0 a1_1 a1_2 a1_3 a1_4 a1_5).bind fun t101 => (if t101 = true then (if a1_0 = 0 then (some (0, 0, none)) else (if a1_0 = 2 then (some (t100.2.2.2.1, 0, none)) else (if a1_2 ≥ t100.2.2.2.2.1 then (some (t100.2.1, 0, none)) else (if a1_2 < (wrap64 (-t100.2.2.2.2.1)) then (some (t100.2.2.1, 0, none)) else (if a1_2 = (wrap64 (-t100.2.2.2.2.1)) then (if a1_3 = 9223372036854775808 then (if a1_4 = 0 then (if a1_5 = true then (round_Cut.j0 k a0 a1_2 a1_3 a1_4 a1_5) else (some (t100.2.2.1, 0, none))) else (round_Cut.j0 k a0 a1_2 a1_3 a1_4 a1_5)) else (round_Cut.j0 k a0 a1_2 a1_3 a1_4 a1_5)) else (round_Cut.j0 k a0 a1_2 a1_3 a1_4 a1_5)))))) else (some (0, 0, some 1)))) else (some (0, 0, some (t100.2.2.2.2.2.getD 0))))
--@ok
def round_Cut.fR (k : Nat) (a0 : Int) (a1_0 : Int) (a1_1 : Bool) (a1_2 : Int) (a1_3 : Int) (a1_4 : Int) (a1_5 : Bool) : Option (Int × Int × Option Int) := (shape_Of.f a0).bind fun t100 => (if t100.2.2.2.2.2.isNone = true then ((round_sound.f k a1_0 a1_1 a1_2 a1_3 a1_4 a1_5).bind fun t101 => (if t101 = true then (if a1_0 = 0 then (some (0, 0, none)) else (if a1_0 = 2 then (some (t100.2.2.2.1, 0, none)) else (if a1_2 ≥ t100.2.2.2.2.1 then (some (t100.2.1, 0, none)) else (if a1_2 < (wrap64 (-t100.2.2.2.2.1)) then (if a1_2 < (wrap64 (-t100.2.2.2.2.1)) then (some (t100.2.2.1, 0, none)) else (round_Cut.j0 k a0 a1_2 a1_3 a1_4 a1_5)) else (if a1_2 = (wrap64 (-t100.2.2.2.2.1)) then (if a1_3 = 9223372036854775808 then (if a1_4 = 0 then (if a1_5 = true then (round_Cut.j0 k a0 a1_2 a1_3 a1_4 a1_5) else (some (t100.2.2.1, 0, none))) else (round_Cut.j0 k a0 a1_2 a1_3 a1_4 a1_5)) else (round_Cut.j0 k a0 a1_2 a1_3 a1_4 a1_5)) else (round_Cut.j0 k a0 a1_2 a1_3 a1_4 a1_5)))))) else (some (0, 0, some 1)))) else (some (0, 0, some (t100.2.2.2.2.2.getD 0))))
theorem round_Cut.fE (k : Nat) (a0 : Int) (a1_0 : Int) (a1_1 : Bool) (a1_2 : Int) (a1_3 : Int) (a1_4 : Int) (a1_5 : Bool) : round_Cut.fR k a0 a1_0 a1_1 a1_2 a1_3 a1_4 a1_5 = round_Cut.f k a0 a1_0 a1_1 a1_2 a1_3 a1_4 a1_5 := by
  unfold round_Cut.fR round_Cut.f
  exact bindC fun _ => iteC (fun h0 => bindC fun _ => iteC (fun h1 => iteC (fun h2 => rfl) (fun h2 => iteC (fun h3 => rfl) (fun h3 => iteC (fun h4 => rfl) (fun h4 => iteC (fun h5 => (if_pos h5).trans (rfl)) (fun h5 => iteC (fun h6 => iteC (fun h7 => iteC (fun h8 => iteC (fun h9 => rfl) (fun h9 => rfl)) (fun h8 => rfl)) (fun h7 => rfl)) (fun h6 => rfl)))))) (fun h1 => rfl)) (fun h0 => rfl)
noncomputable def round_Cut.c (k : Nat) : Con := S120.con fun x => round_Cut.f k x.1 x.2.1 x.2.2.1 x.2.2.2.1 x.2.2.2.2.1 x.2.2.2.2.2.1 x.2.2.2.2.2.2
noncomputable def round_Cut.G (k : Nat) : List (Go.FuncId × Con) := [(117, shape_Of.c), (137, round_sound.c k), (155, twin_Shl.c), (156, round_under.c), (157, round_left.c k)]
noncomputable def round_Cut.cuts : List (Cut (TT S120.sb)) := [⟨[1, 1, 1], [.sc 0 (.int .i64), .box 3 68 [.int .i64, .bool, .int .i64, .int .u64, .int .u64, .bool]], fun k x => round_Cut.j0 k x.1 x.2.2.2.1 x.2.2.2.2.1 x.2.2.2.2.2.1 x.2.2.2.2.2.2⟩, ⟨[6, 4, 1, 1, 2, 1, 0, 1, 1, 1, 1, 1, 1, 1], [.sc 0 (.int .i64), .sc 12 (.bool), .sc 114 (.int .i64), .sc 115 (.int .i64), .box 9 121 [.int .u64, .int .u64]], fun k x => round_Cut.l0 k x.1 x.2.1 x.2.2.1 x.2.2.2.1 x.2.2.2.2.1 x.2.2.2.2.2⟩, ⟨[6, 4, 1, 1, 3, 1, 0, 1, 1, 1, 1, 1, 1, 1], [.sc 0 (.int .i64), .sc 12 (.bool), .sc 131 (.int .i64), .sc 132 (.int .i64), .box 9 121 [.int .u64, .int .u64]], fun k x => round_Cut.l1 k x.1 x.2.1 x.2.2.1 x.2.2.2.1 x.2.2.2.2.1 x.2.2.2.2.2⟩, ⟨[1, 1, 1, 1, 1, 1, 1, 1], [.sc 0 (.int .i64), .sc 12 (.bool), .box 9 121 [.int .u64, .int .u64]], fun k x => round_Cut.j3 k x.1 x.2.1 x.2.2.1 x.2.2.2⟩]
theorem round_Cut.w0 (k : Nat) (x : ET [.sc 0 (.int .i64), .box 3 68 [.int .i64, .bool, .int .i64, .int .u64, .int .u64, .bool]]) : walk E120 (round_Cut.G k) (cutsAt k round_Cut.cuts) (retE E120 Go.Proofs.Tryz.f120.results.toList S120) 4000 true (stackAt B120 [1, 1, 1]) (mkE [.sc 0 (.int .i64), .box 3 68 [.int .i64, .bool, .int .i64, .int .u64, .int .u64, .bool]] x St.nil) = round_Cut.j0 (k + 1) x.1 x.2.2.2.1 x.2.2.2.2.1 x.2.2.2.2.2.1 x.2.2.2.2.2.2 := by kernel_rfl
theorem round_Cut.w1 (k : Nat) (x : ET [.sc 0 (.int .i64), .sc 12 (.bool), .sc 114 (.int .i64), .sc 115 (.int .i64), .box 9 121 [.int .u64, .int .u64]]) : walk E120 (round_Cut.G k) (cutsAt k round_Cut.cuts) (retE E120 Go.Proofs.Tryz.f120.results.toList S120) 4000 true (stackAt B120 [6, 4, 1, 1, 2, 1, 0, 1, 1, 1, 1, 1, 1, 1]) (mkE [.sc 0 (.int .i64), .sc 12 (.bool), .sc 114 (.int .i64), .sc 115 (.int .i64), .box 9 121 [.int .u64, .int .u64]] x St.nil) = round_Cut.l0 (k + 1) x.1 x.2.1 x.2.2.1 x.2.2.2.1 x.2.2.2.2.1 x.2.2.2.2.2 := by kernel_rfl
theorem round_Cut.w2 (k : Nat) (x : ET [.sc 0 (.int .i64), .sc 12 (.bool), .sc 131 (.int .i64), .sc 132 (.int .i64), .box 9 121 [.int .u64, .int .u64]]) : walk E120 (round_Cut.G k) (cutsAt k round_Cut.cuts) (retE E120 Go.Proofs.Tryz.f120.results.toList S120) 4000 true (stackAt B120 [6, 4, 1, 1, 3, 1, 0, 1, 1, 1, 1, 1, 1, 1]) (mkE [.sc 0 (.int .i64), .sc 12 (.bool), .sc 131 (.int .i64), .sc 132 (.int .i64), .box 9 121 [.int .u64, .int .u64]] x St.nil) = round_Cut.l1 (k + 1) x.1 x.2.1 x.2.2.1 x.2.2.2.1 x.2.2.2.2.1 x.2.2.2.2.2 := by kernel_rfl
theorem round_Cut.w3 (k : Nat) (x : ET [.sc 0 (.int .i64), .sc 12 (.bool), .box 9 121 [.int .u64, .int .u64]]) : walk E120 (round_Cut.G k) (cutsAt k round_Cut.cuts) (retE E120 Go.Proofs.Tryz.f120.results.toList S120) 4000 true (stackAt B120 [1, 1, 1, 1, 1, 1, 1, 1]) (mkE [.sc 0 (.int .i64), .sc 12 (.bool), .box 9 121 [.int .u64, .int .u64]] x St.nil) = round_Cut.j3 (k + 1) x.1 x.2.1 x.2.2.1 x.2.2.2 := by kernel_rfl
theorem round_Cut.w (k : Nat) (x : TT S120.sa) : walk E120 (round_Cut.G k) (cutsAt k round_Cut.cuts) (retE E120 Go.Proofs.Tryz.f120.results.toList S120) 4000 true [([], .code B120)] (St0 S120 x) = round_Cut.f k x.1 x.2.1 x.2.2.1 x.2.2.2.1 x.2.2.2.2.1 x.2.2.2.2.2.1 x.2.2.2.2.2.2 := Eq.trans (b := round_Cut.fR k x.1 x.2.1 x.2.2.1 x.2.2.2.1 x.2.2.2.2.1 x.2.2.2.2.2.1 x.2.2.2.2.2.2) (by kernel_rfl) (round_Cut.fE k x.1 x.2.1 x.2.2.1 x.2.2.2.1 x.2.2.2.2.1 x.2.2.2.2.2.1 x.2.2.2.2.2.2)
theorem round_Cut.ok (k : Nat) : FnOk Go.Proofs.Tryz.prog E120.eT 120 (round_Cut.c k) := FnOk.walk (E := E120) (body := B120) Go.Proofs.Tryz.func120 rfl (by rfl) Go.Proofs.Tryz.ntmps120 S120 rfl (fun k x => round_Cut.f k x.1 x.2.1 x.2.2.1 x.2.2.2.1 x.2.2.2.2.1 x.2.2.2.2.2.1 x.2.2.2.2.2.2) round_Cut.G (fun k => ⟨shape_Of.ok, round_sound.ok k, twin_Shl.ok, round_under.ok, round_left.ok k, trivial⟩) 4000 round_Cut.cuts ⟨⟨fun _ => rfl, fun k x q h => (round_Cut.w0 k x).trans h⟩, ⟨fun _ => rfl, fun k x q h => (round_Cut.w1 k x).trans h⟩, ⟨fun _ => rfl, fun k x q h => (round_Cut.w2 k x).trans h⟩, ⟨fun _ => rfl, fun k x q h => (round_Cut.w3 k x).trans h⟩, trivial⟩ (fun k x r h => (round_Cut.w k x).trans h) k
noncomputable def E91 : En := ⟨Go.Proofs.Tryz.prog, 156, Go.Proofs.Tryz.f91.ntmps⟩
noncomputable def S91 : Sig := ⟨[.s, .g 6], [(.int .i64), (.int .i64), .bool, (.int .i64), (.int .u64), (.int .u64), .bool], true, [.s, .s], [(.int .u64), .err], false⟩
noncomputable def B91 : Go.Code := Go.Proofs.Tryz.f91.body.get!
def round_Round.f (k : Nat) (a0 : Int) (a1_0 : Int) (a1_1 : Bool) (a1_2 : Int) (a1_3 : Int) (a1_4 : Int) (a1_5 : Bool) : Option (Int × Option Int) := (round_Cut.f k a0 a1_0 a1_1 a1_2 a1_3 a1_4 a1_5).bind fun t100 => (if t100.2.2.isNone = true then (if t100.2.1 = 2 then (if (Go.bits .and .u64 t100.1 1) = 0 then (if a1_1 = true then ((shape_Fold.f a0 (IntKind.u64.wrap (-t100.1))).bind fun t101 => (some (t101.1, t101.2))) else ((shape_Fold.f a0 t100.1).bind fun t102 => (some (t102.1, t102.2)))) else (if a1_1 = true then ((shape_Fold.f a0 (IntKind.u64.wrap (-(IntKind.u64.wrap (t100.1 + 1))))).bind fun t103 => (some (t103.1, t103.2))) else ((shape_Fold.f a0 (IntKind.u64.wrap (t100.1 + 1))).bind fun t104 => (some (t104.1, t104.2))))) else (if t100.2.1 = 3 then (if a1_1 = true then ((shape_Fold.f a0 (IntKind.u64.wrap (-(IntKind.u64.wrap (t100.1 + 1))))).bind fun t105 => (some (t105.1, t105.2))) else ((shape_Fold.f a0 (IntKind.u64.wrap (t100.1 + 1))).bind fun t106 => (some (t106.1, t106.2)))) else (if a1_1 = true then ((shape_Fold.f a0 (IntKind.u64.wrap (-t100.1))).bind fun t107 => (some (t107.1, t107.2))) else ((shape_Fold.f a0 t100.1).bind fun t108 => (some (t108.1, t108.2)))))) else (some (0, some (t100.2.2.getD 0))))
--@ok
noncomputable def round_Round.c (k : Nat) : Con := S91.con fun x => round_Round.f k x.1 x.2.1 x.2.2.1 x.2.2.2.1 x.2.2.2.2.1 x.2.2.2.2.2.1 x.2.2.2.2.2.2
noncomputable def round_Round.G (k : Nat) : List (Go.FuncId × Con) := [(113, shape_Fold.c), (120, round_Cut.c k)]
noncomputable def round_Round.cuts : List (Cut (TT S91.sb)) := []
theorem round_Round.w (k : Nat) (x : TT S91.sa) : walk E91 (round_Round.G k) (cutsAt k round_Round.cuts) (retE E91 Go.Proofs.Tryz.f91.results.toList S91) 4000 true [([], .code B91)] (St0 S91 x) = round_Round.f k x.1 x.2.1 x.2.2.1 x.2.2.2.1 x.2.2.2.2.1 x.2.2.2.2.2.1 x.2.2.2.2.2.2 := by kernel_rfl
theorem round_Round.ok (k : Nat) : FnOk Go.Proofs.Tryz.prog E91.eT 91 (round_Round.c k) := FnOk.walk (E := E91) (body := B91) Go.Proofs.Tryz.func91 rfl (by rfl) Go.Proofs.Tryz.ntmps91 S91 rfl (fun k x => round_Round.f k x.1 x.2.1 x.2.2.1 x.2.2.2.1 x.2.2.2.2.1 x.2.2.2.2.2.1 x.2.2.2.2.2.2) round_Round.G (fun k => ⟨shape_Fold.ok, round_Cut.ok k, trivial⟩) 4000 round_Round.cuts trivial (fun k x r h => (round_Round.w k x).trans h) k
noncomputable def E62 : En := ⟨Go.Proofs.Tryz.prog, 156, Go.Proofs.Tryz.f62.ntmps⟩
noncomputable def S62 : Sig := ⟨[.s, .s, .s], [(.int .i64), (.int .u64), (.int .u64)], true, [.s, .s], [(.int .u64), .err], false⟩
noncomputable def B62 : Go.Code := Go.Proofs.Tryz.f62.body.get!
def sum_Add.f (k : Nat) (a0 : Int) (a1 : Int) (a2 : Int) : Option (Int × Option Int) := (codec_Decode.f k a0 a1).bind fun t100 => (if t100.2.2.2.2.isNone = true then ((codec_Decode.f k a0 a2).bind fun t101 => ((sum_Exact.f k t100.1 t100.2.1 t100.2.2.1 t100.2.2.2.1 t101.1 t101.2.1 t101.2.2.1 t101.2.2.2.1).bind fun t102 => (if t102.2.2.2.2.2.2.isNone = true then ((round_Round.f k a0 t102.1 t102.2.1 t102.2.2.1 t102.2.2.2.1 t102.2.2.2.2.1 t102.2.2.2.2.2.1).bind fun t103 => (some (t103.1, t103.2))) else (some (0, some (t102.2.2.2.2.2.2.getD 0)))))) else (some (0, some (t100.2.2.2.2.getD 0))))
--@ok
noncomputable def sum_Add.c (k : Nat) : Con := S62.con fun x => sum_Add.f k x.1 x.2.1 x.2.2
noncomputable def sum_Add.G (k : Nat) : List (Go.FuncId × Con) := [(89, codec_Decode.c k), (90, sum_Exact.c k), (91, round_Round.c k)]
noncomputable def sum_Add.cuts : List (Cut (TT S62.sb)) := []
theorem sum_Add.w (k : Nat) (x : TT S62.sa) : walk E62 (sum_Add.G k) (cutsAt k sum_Add.cuts) (retE E62 Go.Proofs.Tryz.f62.results.toList S62) 4000 true [([], .code B62)] (St0 S62 x) = sum_Add.f k x.1 x.2.1 x.2.2 := by kernel_rfl
theorem sum_Add.ok (k : Nat) : FnOk Go.Proofs.Tryz.prog E62.eT 62 (sum_Add.c k) := FnOk.walk (E := E62) (body := B62) Go.Proofs.Tryz.func62 rfl (by rfl) Go.Proofs.Tryz.ntmps62 S62 rfl (fun k x => sum_Add.f k x.1 x.2.1 x.2.2) sum_Add.G (fun k => ⟨codec_Decode.ok k, sum_Exact.ok k, round_Round.ok k, trivial⟩) 4000 sum_Add.cuts trivial (fun k x r h => (sum_Add.w k x).trans h) k
end Go.Proofs.YtnjhblakghjdoaaGreat.Fn
set_option maxRecDepth 100000
set_option linter.unusedVariables false
noncomputable section
namespace Go.Proofs.YtnjhblakghjdoaaGreat.Fn
open Go Go.RowKit Go.Proofs.YtnjhblakghjdoaaGreat.Ab
noncomputable def E52 : En := ⟨Go.Proofs.Tryz.prog, 156, Go.Proofs.Tryz.f52.ntmps⟩
noncomputable def S52 : Sig := ⟨[], [], false, [.s], [(.int .i64)], false⟩
noncomputable def B52 : Go.Code := Go.Proofs.Tryz.f52.body.get!
def gen_Width_P8.f  : Option (Int) := some 8
--@ok
noncomputable def gen_Width_P8.c : Con := S52.con fun x => gen_Width_P8.f
noncomputable def gen_Width_P8.G (k : Nat) : List (Go.FuncId × Con) := []
noncomputable def gen_Width_P8.cuts : List (Cut (TT S52.sb)) := []
theorem gen_Width_P8.w (k : Nat) (x : TT S52.sa) : walk E52 (gen_Width_P8.G k) (cutsAt k gen_Width_P8.cuts) (retE E52 Go.Proofs.Tryz.f52.results.toList S52) 4000 true [([], .code B52)] (St0 S52 x) = gen_Width_P8.f := by kernel_rfl
theorem gen_Width_P8.ok : FnOk Go.Proofs.Tryz.prog E52.eT 52 (gen_Width_P8.c) := FnOk.walk (E := E52) (body := B52) Go.Proofs.Tryz.func52 rfl (by rfl) Go.Proofs.Tryz.ntmps52 S52 rfl (fun k x => gen_Width_P8.f) gen_Width_P8.G (fun k => trivial) 4000 gen_Width_P8.cuts trivial (fun k x r h => (gen_Width_P8.w k x).trans h) 0
noncomputable def E100061 : En := ⟨Go.Proofs.Tryz.prog, 156, Go.Proofs.Tryz.f61.ntmps⟩
noncomputable def S100061 : Sig := ⟨[.s, .s, .s], [(.fn 62), (.int .u8), (.int .u8)], false, [.s], [(.int .u8)], false⟩
noncomputable def B100061 : Go.Code := Go.Proofs.Tryz.f61.body.get!
def gen_two_P8_sum_Add.f (k : Nat) (a0 : Unit) (a1 : Int) (a2 : Int) : Option (Int) := (gen_Width_P8.f).bind fun t100 => ((sum_Add.f k t100 (IntKind.u64.wrap a1) (IntKind.u64.wrap a2)).bind fun t101 => (some (t101.1 % 256)))
--@ok
noncomputable def gen_two_P8_sum_Add.c (k : Nat) : Con := S100061.con fun x => gen_two_P8_sum_Add.f k x.1 x.2.1 x.2.2
noncomputable def gen_two_P8_sum_Add.G (k : Nat) : List (Go.FuncId × Con) := [(52, gen_Width_P8.c), (62, sum_Add.c k)]
noncomputable def gen_two_P8_sum_Add.cuts : List (Cut (TT S100061.sb)) := []
theorem gen_two_P8_sum_Add.w (k : Nat) (x : TT S100061.sa) : walk E100061 (gen_two_P8_sum_Add.G k) (cutsAt k gen_two_P8_sum_Add.cuts) (retE E100061 Go.Proofs.Tryz.f61.results.toList S100061) 4000 true [([], .code B100061)] (St0 S100061 x) = gen_two_P8_sum_Add.f k x.1 x.2.1 x.2.2 := by kernel_rfl
theorem gen_two_P8_sum_Add.ok (k : Nat) : FnOk Go.Proofs.Tryz.prog E100061.eT 61 (gen_two_P8_sum_Add.c k) := FnOk.walk (E := E100061) (body := B100061) Go.Proofs.Tryz.func61 rfl (by rfl) Go.Proofs.Tryz.ntmps61 S100061 rfl (fun k x => gen_two_P8_sum_Add.f k x.1 x.2.1 x.2.2) gen_two_P8_sum_Add.G (fun k => ⟨gen_Width_P8.ok, sum_Add.ok k, trivial⟩) 4000 gen_two_P8_sum_Add.cuts trivial (fun k x r h => (gen_two_P8_sum_Add.w k x).trans h) k
noncomputable def E12 : En := ⟨Go.Proofs.Tryz.prog, 156, Go.Proofs.Tryz.f12.ntmps⟩
noncomputable def S12 : Sig := ⟨[.s, .s], [(.int .u8), (.int .u8)], false, [.s], [(.int .u8)], false⟩
noncomputable def B12 : Go.Code := Go.Proofs.Tryz.f12.body.get!
def gen_Add_P8.f (k : Nat) (a0 : Int) (a1 : Int) : Option (Int) := (gen_two_P8_sum_Add.f k () a0 a1).bind fun t100 => (some t100)
--@ok
noncomputable def gen_Add_P8.c (k : Nat) : Con := S12.con fun x => gen_Add_P8.f k x.1 x.2
noncomputable def gen_Add_P8.G (k : Nat) : List (Go.FuncId × Con) := [(62, sum_Add.c k), (61, gen_two_P8_sum_Add.c k)]
noncomputable def gen_Add_P8.cuts : List (Cut (TT S12.sb)) := []
theorem gen_Add_P8.w (k : Nat) (x : TT S12.sa) : walk E12 (gen_Add_P8.G k) (cutsAt k gen_Add_P8.cuts) (retE E12 Go.Proofs.Tryz.f12.results.toList S12) 4000 true [([], .code B12)] (St0 S12 x) = gen_Add_P8.f k x.1 x.2 := by kernel_rfl
theorem gen_Add_P8.ok (k : Nat) : FnOk Go.Proofs.Tryz.prog E12.eT 12 (gen_Add_P8.c k) := FnOk.walk (E := E12) (body := B12) Go.Proofs.Tryz.func12 rfl (by rfl) Go.Proofs.Tryz.ntmps12 S12 rfl (fun k x => gen_Add_P8.f k x.1 x.2) gen_Add_P8.G (fun k => ⟨sum_Add.ok k, gen_two_P8_sum_Add.ok k, trivial⟩) 4000 gen_Add_P8.cuts trivial (fun k x r h => (gen_Add_P8.w k x).trans h) k
noncomputable def E53 : En := ⟨Go.Proofs.Tryz.prog, 156, Go.Proofs.Tryz.f53.ntmps⟩
noncomputable def S53 : Sig := ⟨[], [], false, [.s], [(.int .i64)], false⟩
noncomputable def B53 : Go.Code := Go.Proofs.Tryz.f53.body.get!
def gen_Width_P32.f  : Option (Int) := some 32
--@ok
noncomputable def gen_Width_P32.c : Con := S53.con fun x => gen_Width_P32.f
noncomputable def gen_Width_P32.G (k : Nat) : List (Go.FuncId × Con) := []
noncomputable def gen_Width_P32.cuts : List (Cut (TT S53.sb)) := []
theorem gen_Width_P32.w (k : Nat) (x : TT S53.sa) : walk E53 (gen_Width_P32.G k) (cutsAt k gen_Width_P32.cuts) (retE E53 Go.Proofs.Tryz.f53.results.toList S53) 4000 true [([], .code B53)] (St0 S53 x) = gen_Width_P32.f := by kernel_rfl
theorem gen_Width_P32.ok : FnOk Go.Proofs.Tryz.prog E53.eT 53 (gen_Width_P32.c) := FnOk.walk (E := E53) (body := B53) Go.Proofs.Tryz.func53 rfl (by rfl) Go.Proofs.Tryz.ntmps53 S53 rfl (fun k x => gen_Width_P32.f) gen_Width_P32.G (fun k => trivial) 4000 gen_Width_P32.cuts trivial (fun k x r h => (gen_Width_P32.w k x).trans h) 0
noncomputable def E54 : En := ⟨Go.Proofs.Tryz.prog, 156, Go.Proofs.Tryz.f54.ntmps⟩
noncomputable def S54 : Sig := ⟨[], [], false, [.s], [(.int .i64)], false⟩
noncomputable def B54 : Go.Code := Go.Proofs.Tryz.f54.body.get!
def gen_Width_P64.f  : Option (Int) := some 64
--@ok
noncomputable def gen_Width_P64.c : Con := S54.con fun x => gen_Width_P64.f
noncomputable def gen_Width_P64.G (k : Nat) : List (Go.FuncId × Con) := []
noncomputable def gen_Width_P64.cuts : List (Cut (TT S54.sb)) := []
theorem gen_Width_P64.w (k : Nat) (x : TT S54.sa) : walk E54 (gen_Width_P64.G k) (cutsAt k gen_Width_P64.cuts) (retE E54 Go.Proofs.Tryz.f54.results.toList S54) 4000 true [([], .code B54)] (St0 S54 x) = gen_Width_P64.f := by kernel_rfl
theorem gen_Width_P64.ok : FnOk Go.Proofs.Tryz.prog E54.eT 54 (gen_Width_P64.c) := FnOk.walk (E := E54) (body := B54) Go.Proofs.Tryz.func54 rfl (by rfl) Go.Proofs.Tryz.ntmps54 S54 rfl (fun k x => gen_Width_P64.f) gen_Width_P64.G (fun k => trivial) 4000 gen_Width_P64.cuts trivial (fun k x r h => (gen_Width_P64.w k x).trans h) 0
noncomputable def E55 : En := ⟨Go.Proofs.Tryz.prog, 156, Go.Proofs.Tryz.f55.ntmps⟩
noncomputable def S55 : Sig := ⟨[], [], false, [.s], [(.int .i64)], false⟩
noncomputable def B55 : Go.Code := Go.Proofs.Tryz.f55.body.get!
def gen_Width_uint8.f  : Option (Int) := some 8
--@ok
noncomputable def gen_Width_uint8.c : Con := S55.con fun x => gen_Width_uint8.f
noncomputable def gen_Width_uint8.G (k : Nat) : List (Go.FuncId × Con) := []
noncomputable def gen_Width_uint8.cuts : List (Cut (TT S55.sb)) := []
theorem gen_Width_uint8.w (k : Nat) (x : TT S55.sa) : walk E55 (gen_Width_uint8.G k) (cutsAt k gen_Width_uint8.cuts) (retE E55 Go.Proofs.Tryz.f55.results.toList S55) 4000 true [([], .code B55)] (St0 S55 x) = gen_Width_uint8.f := by kernel_rfl
theorem gen_Width_uint8.ok : FnOk Go.Proofs.Tryz.prog E55.eT 55 (gen_Width_uint8.c) := FnOk.walk (E := E55) (body := B55) Go.Proofs.Tryz.func55 rfl (by rfl) Go.Proofs.Tryz.ntmps55 S55 rfl (fun k x => gen_Width_uint8.f) gen_Width_uint8.G (fun k => trivial) 4000 gen_Width_uint8.cuts trivial (fun k x r h => (gen_Width_uint8.w k x).trans h) 0
noncomputable def E56 : En := ⟨Go.Proofs.Tryz.prog, 156, Go.Proofs.Tryz.f56.ntmps⟩
noncomputable def S56 : Sig := ⟨[], [], false, [.s], [(.int .i64)], false⟩
noncomputable def B56 : Go.Code := Go.Proofs.Tryz.f56.body.get!
def gen_Width_uint64.f  : Option (Int) := some 64
--@ok
noncomputable def gen_Width_uint64.c : Con := S56.con fun x => gen_Width_uint64.f
noncomputable def gen_Width_uint64.G (k : Nat) : List (Go.FuncId × Con) := []
noncomputable def gen_Width_uint64.cuts : List (Cut (TT S56.sb)) := []
theorem gen_Width_uint64.w (k : Nat) (x : TT S56.sa) : walk E56 (gen_Width_uint64.G k) (cutsAt k gen_Width_uint64.cuts) (retE E56 Go.Proofs.Tryz.f56.results.toList S56) 4000 true [([], .code B56)] (St0 S56 x) = gen_Width_uint64.f := by kernel_rfl
theorem gen_Width_uint64.ok : FnOk Go.Proofs.Tryz.prog E56.eT 56 (gen_Width_uint64.c) := FnOk.walk (E := E56) (body := B56) Go.Proofs.Tryz.func56 rfl (by rfl) Go.Proofs.Tryz.ntmps56 S56 rfl (fun k x => gen_Width_uint64.f) gen_Width_uint64.G (fun k => trivial) 4000 gen_Width_uint64.cuts trivial (fun k x r h => (gen_Width_uint64.w k x).trans h) 0
noncomputable def E57 : En := ⟨Go.Proofs.Tryz.prog, 156, Go.Proofs.Tryz.f57.ntmps⟩
noncomputable def S57 : Sig := ⟨[], [], false, [.s], [(.int .i64)], false⟩
noncomputable def B57 : Go.Code := Go.Proofs.Tryz.f57.body.get!
def gen_Width_Own.f  : Option (Int) := some 16
--@ok
noncomputable def gen_Width_Own.c : Con := S57.con fun x => gen_Width_Own.f
noncomputable def gen_Width_Own.G (k : Nat) : List (Go.FuncId × Con) := []
noncomputable def gen_Width_Own.cuts : List (Cut (TT S57.sb)) := []
theorem gen_Width_Own.w (k : Nat) (x : TT S57.sa) : walk E57 (gen_Width_Own.G k) (cutsAt k gen_Width_Own.cuts) (retE E57 Go.Proofs.Tryz.f57.results.toList S57) 4000 true [([], .code B57)] (St0 S57 x) = gen_Width_Own.f := by kernel_rfl
theorem gen_Width_Own.ok : FnOk Go.Proofs.Tryz.prog E57.eT 57 (gen_Width_Own.c) := FnOk.walk (E := E57) (body := B57) Go.Proofs.Tryz.func57 rfl (by rfl) Go.Proofs.Tryz.ntmps57 S57 rfl (fun k x => gen_Width_Own.f) gen_Width_Own.G (fun k => trivial) 4000 gen_Width_Own.cuts trivial (fun k x r h => (gen_Width_Own.w k x).trans h) 0
noncomputable def E58 : En := ⟨Go.Proofs.Tryz.prog, 156, Go.Proofs.Tryz.f58.ntmps⟩
noncomputable def S58 : Sig := ⟨[], [], false, [.s], [(.int .i64)], false⟩
noncomputable def B58 : Go.Code := Go.Proofs.Tryz.f58.body.get!
def gen_Width_P16.f  : Option (Int) := some 16
--@ok
noncomputable def gen_Width_P16.c : Con := S58.con fun x => gen_Width_P16.f
noncomputable def gen_Width_P16.G (k : Nat) : List (Go.FuncId × Con) := []
noncomputable def gen_Width_P16.cuts : List (Cut (TT S58.sb)) := []
theorem gen_Width_P16.w (k : Nat) (x : TT S58.sa) : walk E58 (gen_Width_P16.G k) (cutsAt k gen_Width_P16.cuts) (retE E58 Go.Proofs.Tryz.f58.results.toList S58) 4000 true [([], .code B58)] (St0 S58 x) = gen_Width_P16.f := by kernel_rfl
theorem gen_Width_P16.ok : FnOk Go.Proofs.Tryz.prog E58.eT 58 (gen_Width_P16.c) := FnOk.walk (E := E58) (body := B58) Go.Proofs.Tryz.func58 rfl (by rfl) Go.Proofs.Tryz.ntmps58 S58 rfl (fun k x => gen_Width_P16.f) gen_Width_P16.G (fun k => trivial) 4000 gen_Width_P16.cuts trivial (fun k x r h => (gen_Width_P16.w k x).trans h) 0
noncomputable def E88 : En := ⟨Go.Proofs.Tryz.prog, 156, Go.Proofs.Tryz.f88.ntmps⟩
noncomputable def S88 : Sig := ⟨[.s, .s, .s], [(.int .i64), (.int .i64), (.int .u64)], true, [.s, .s], [(.int .u64), .err], false⟩
noncomputable def B88 : Go.Code := Go.Proofs.Tryz.f88.body.get!
def gen_Convert.f (k : Nat) (a0 : Int) (a1 : Int) (a2 : Int) : Option (Int × Option Int) := (shape_Of.f a1).bind fun t100 => (if t100.2.2.2.2.2.isNone = true then ((codec_Decode.f k a0 a2).bind fun t101 => (if t101.2.2.2.2.isNone = true then ((round_Of.f k t101.1 t101.2.1 t101.2.2.1 t101.2.2.2.1).bind fun t102 => ((round_Round.f k a1 t102.1 t102.2.1 t102.2.2.1 t102.2.2.2.1 t102.2.2.2.2.1 t102.2.2.2.2.2.1).bind fun t103 => (some (t103.1, t103.2)))) else (some (0, some (t101.2.2.2.2.getD 0))))) else (some (0, some (t100.2.2.2.2.2.getD 0))))
--@ok
noncomputable def gen_Convert.c (k : Nat) : Con := S88.con fun x => gen_Convert.f k x.1 x.2.1 x.2.2
noncomputable def gen_Convert.G (k : Nat) : List (Go.FuncId × Con) := [(89, codec_Decode.c k), (91, round_Round.c k), (103, round_Of.c k), (117, shape_Of.c)]
noncomputable def gen_Convert.cuts : List (Cut (TT S88.sb)) := []
theorem gen_Convert.w (k : Nat) (x : TT S88.sa) : walk E88 (gen_Convert.G k) (cutsAt k gen_Convert.cuts) (retE E88 Go.Proofs.Tryz.f88.results.toList S88) 4000 true [([], .code B88)] (St0 S88 x) = gen_Convert.f k x.1 x.2.1 x.2.2 := by kernel_rfl
theorem gen_Convert.ok (k : Nat) : FnOk Go.Proofs.Tryz.prog E88.eT 88 (gen_Convert.c k) := FnOk.walk (E := E88) (body := B88) Go.Proofs.Tryz.func88 rfl (by rfl) Go.Proofs.Tryz.ntmps88 S88 rfl (fun k x => gen_Convert.f k x.1 x.2.1 x.2.2) gen_Convert.G (fun k => ⟨codec_Decode.ok k, round_Round.ok k, round_Of.ok k, shape_Of.ok, trivial⟩) 4000 gen_Convert.cuts trivial (fun k x r h => (gen_Convert.w k x).trans h) k
noncomputable def E59 : En := ⟨Go.Proofs.Tryz.prog, 156, Go.Proofs.Tryz.f59.ntmps⟩
noncomputable def S59 : Sig := ⟨[.s], [(.int .u8)], false, [.s], [(.int .u16)], false⟩
noncomputable def B59 : Go.Code := Go.Proofs.Tryz.f59.body.get!
def gen_To_P16_P8.f (k : Nat) (a0 : Int) : Option (Int) := (gen_Width_P8.f).bind fun t100 => ((gen_Width_P16.f).bind fun t101 => ((gen_Convert.f k t100 t101 (IntKind.u64.wrap a0)).bind fun t102 => (some (IntKind.u16.wrap t102.1))))
--@ok
noncomputable def gen_To_P16_P8.c (k : Nat) : Con := S59.con fun x => gen_To_P16_P8.f k x
noncomputable def gen_To_P16_P8.G (k : Nat) : List (Go.FuncId × Con) := [(52, gen_Width_P8.c), (58, gen_Width_P16.c), (88, gen_Convert.c k)]
noncomputable def gen_To_P16_P8.cuts : List (Cut (TT S59.sb)) := []
theorem gen_To_P16_P8.w (k : Nat) (x : TT S59.sa) : walk E59 (gen_To_P16_P8.G k) (cutsAt k gen_To_P16_P8.cuts) (retE E59 Go.Proofs.Tryz.f59.results.toList S59) 4000 true [([], .code B59)] (St0 S59 x) = gen_To_P16_P8.f k x := by kernel_rfl
theorem gen_To_P16_P8.ok (k : Nat) : FnOk Go.Proofs.Tryz.prog E59.eT 59 (gen_To_P16_P8.c k) := FnOk.walk (E := E59) (body := B59) Go.Proofs.Tryz.func59 rfl (by rfl) Go.Proofs.Tryz.ntmps59 S59 rfl (fun k x => gen_To_P16_P8.f k x) gen_To_P16_P8.G (fun k => ⟨gen_Width_P8.ok, gen_Width_P16.ok, gen_Convert.ok k, trivial⟩) 4000 gen_To_P16_P8.cuts trivial (fun k x r h => (gen_To_P16_P8.w k x).trans h) k
noncomputable def E8 : En := ⟨Go.Proofs.Tryz.prog, 156, Go.Proofs.Tryz.f8.ntmps⟩
noncomputable def S8 : Sig := ⟨[], [], false, [.s], [.bool], false⟩
noncomputable def B8 : Go.Code := Go.Proofs.Tryz.f8.body.get!
def vernierlaw14_up.f (k : Nat)  : Option (Bool) := (gen_Width_P8.f).bind fun t100 => (if t100 = 8 then ((gen_Width_P32.f).bind fun t101 => (if t101 = 32 then ((gen_Width_P64.f).bind fun t102 => (if t102 = 64 then ((gen_Width_uint8.f).bind fun t103 => (if t103 = 8 then ((gen_Width_uint64.f).bind fun t104 => (if t104 = 64 then ((gen_Width_Own.f).bind fun t105 => (if t105 = 16 then ((gen_Width_P16.f).bind fun t106 => (if t106 = 16 then ((gen_Add_P8.f k 64 64).bind fun t107 => (if t107 = 72 then ((gen_To_P16_P8.f k 68).bind fun t108 => (some (t108 == 17408))) else (some false))) else (some false))) else (some false))) else (some false))) else (some false))) else (some false))) else (some false))) else (some false))
--@ok
noncomputable def vernierlaw14_up.c (k : Nat) : Con := S8.con fun x => vernierlaw14_up.f k
noncomputable def vernierlaw14_up.G (k : Nat) : List (Go.FuncId × Con) := [(12, gen_Add_P8.c k), (52, gen_Width_P8.c), (53, gen_Width_P32.c), (54, gen_Width_P64.c), (55, gen_Width_uint8.c), (56, gen_Width_uint64.c), (57, gen_Width_Own.c), (58, gen_Width_P16.c), (59, gen_To_P16_P8.c k)]
noncomputable def vernierlaw14_up.cuts : List (Cut (TT S8.sb)) := []
theorem vernierlaw14_up.w (k : Nat) (x : TT S8.sa) : walk E8 (vernierlaw14_up.G k) (cutsAt k vernierlaw14_up.cuts) (retE E8 Go.Proofs.Tryz.f8.results.toList S8) 4000 true [([], .code B8)] (St0 S8 x) = vernierlaw14_up.f k := by kernel_rfl
theorem vernierlaw14_up.ok (k : Nat) : FnOk Go.Proofs.Tryz.prog E8.eT 8 (vernierlaw14_up.c k) := FnOk.walk (E := E8) (body := B8) Go.Proofs.Tryz.func8 rfl (by rfl) Go.Proofs.Tryz.ntmps8 S8 rfl (fun k x => vernierlaw14_up.f k) vernierlaw14_up.G (fun k => ⟨gen_Add_P8.ok k, gen_Width_P8.ok, gen_Width_P32.ok, gen_Width_P64.ok, gen_Width_uint8.ok, gen_Width_uint64.ok, gen_Width_Own.ok, gen_Width_P16.ok, gen_To_P16_P8.ok k, trivial⟩) 4000 vernierlaw14_up.cuts trivial (fun k x r h => (vernierlaw14_up.w k x).trans h) k
end Go.Proofs.YtnjhblakghjdoaaGreat.Fn
set_option maxRecDepth 100000
set_option linter.unusedVariables false
noncomputable section
namespace Go.Proofs.YtnjhblakghjdoaaGreat.Fn
open Go Go.RowKit Go.Proofs.YtnjhblakghjdoaaGreat.Ab
noncomputable def E164 : En := ⟨Go.Proofs.Tryz.prog, 156, Go.Proofs.Tryz.f164.ntmps⟩
noncomputable def S164 : Sig := ⟨[.s, .s], [(.int .u64), (.int .u64)], true, [.s, .s], [(.int .u64), (.int .u64)], false⟩
noncomputable def B164 : Go.Code := Go.Proofs.Tryz.f164.body.get!
def bits_Mul64.f (a0 : Int) (a1 : Int) : Option (Int × Int) := some (IntKind.u64.wrap ((IntKind.u64.wrap ((IntKind.u64.wrap ((a0 / 4294967296) * (a1 / 4294967296))) + ((IntKind.u64.wrap ((IntKind.u64.wrap ((a0 / 4294967296) * (Go.bits .and .u64 a1 4294967295))) + ((IntKind.u64.wrap ((Go.bits .and .u64 a0 4294967295) * (Go.bits .and .u64 a1 4294967295))) / 4294967296))) / 4294967296))) + ((IntKind.u64.wrap ((Go.bits .and .u64 (IntKind.u64.wrap ((IntKind.u64.wrap ((a0 / 4294967296) * (Go.bits .and .u64 a1 4294967295))) + ((IntKind.u64.wrap ((Go.bits .and .u64 a0 4294967295) * (Go.bits .and .u64 a1 4294967295))) / 4294967296))) 4294967295) + (IntKind.u64.wrap ((Go.bits .and .u64 a0 4294967295) * (a1 / 4294967296))))) / 4294967296)), IntKind.u64.wrap (a0 * a1))
--@ok
noncomputable def bits_Mul64.c : Con := S164.con fun x => bits_Mul64.f x.1 x.2
noncomputable def bits_Mul64.G (k : Nat) : List (Go.FuncId × Con) := []
noncomputable def bits_Mul64.cuts : List (Cut (TT S164.sb)) := []
theorem bits_Mul64.w (k : Nat) (x : TT S164.sa) : walk E164 (bits_Mul64.G k) (cutsAt k bits_Mul64.cuts) (retE E164 Go.Proofs.Tryz.f164.results.toList S164) 4000 true [([], .code B164)] (St0 S164 x) = bits_Mul64.f x.1 x.2 := by kernel_rfl
theorem bits_Mul64.ok : FnOk Go.Proofs.Tryz.prog E164.eT 164 (bits_Mul64.c) := FnOk.walk (E := E164) (body := B164) Go.Proofs.Tryz.func164 rfl (by rfl) Go.Proofs.Tryz.ntmps164 S164 rfl (fun k x => bits_Mul64.f x.1 x.2) bits_Mul64.G (fun k => trivial) 4000 bits_Mul64.cuts trivial (fun k x r h => (bits_Mul64.w k x).trans h) 0
noncomputable def E126 : En := ⟨Go.Proofs.Tryz.prog, 156, Go.Proofs.Tryz.f126.ntmps⟩
noncomputable def S126 : Sig := ⟨[.s, .s], [(.int .u64), (.int .u64)], false, [.g 2], [(.int .u64), (.int .u64)], false⟩
noncomputable def B126 : Go.Code := Go.Proofs.Tryz.f126.body.get!
def twin_Mul.f (a0 : Int) (a1 : Int) : Option (Int × Int) := (bits_Mul64.f a0 a1).bind fun t100 => (some (t100.1, t100.2))
--@ok
noncomputable def twin_Mul.c : Con := S126.con fun x => twin_Mul.f x.1 x.2
noncomputable def twin_Mul.G (k : Nat) : List (Go.FuncId × Con) := [(164, bits_Mul64.c)]
noncomputable def twin_Mul.cuts : List (Cut (TT S126.sb)) := []
theorem twin_Mul.w (k : Nat) (x : TT S126.sa) : walk E126 (twin_Mul.G k) (cutsAt k twin_Mul.cuts) (retE E126 Go.Proofs.Tryz.f126.results.toList S126) 4000 true [([], .code B126)] (St0 S126 x) = twin_Mul.f x.1 x.2 := by kernel_rfl
theorem twin_Mul.ok : FnOk Go.Proofs.Tryz.prog E126.eT 126 (twin_Mul.c) := FnOk.walk (E := E126) (body := B126) Go.Proofs.Tryz.func126 rfl (by rfl) Go.Proofs.Tryz.ntmps126 S126 rfl (fun k x => twin_Mul.f x.1 x.2) twin_Mul.G (fun k => ⟨bits_Mul64.ok, trivial⟩) 4000 twin_Mul.cuts trivial (fun k x r h => (twin_Mul.w k x).trans h) 0
noncomputable def E165 : En := ⟨Go.Proofs.Tryz.prog, 156, Go.Proofs.Tryz.f165.ntmps⟩
noncomputable def S165 : Sig := ⟨[.g 2], [(.int .u64), (.int .u64)], true, [.g 2, .s], [(.int .u64), (.int .u64), (.int .i64)], false⟩
noncomputable def B165 : Go.Code := Go.Proofs.Tryz.f165.body.get!
def twin_Norm.f (a0_0 : Int) (a0_1 : Int) : Option (Int × Int × Int) := if ((a0_0 == 0) && (a0_1 == 0)) = true then (some (a0_0, a0_1, 0)) else ((twin_Len.f a0_0 a0_1).bind fun t100 => ((twin_shl.f a0_0 a0_1 (wrap64 (128 - t100))).bind fun t101 => (some (t101.1, t101.2, wrap64 (128 - t100)))))
--@ok
noncomputable def twin_Norm.c : Con := S165.con fun x => twin_Norm.f x.1 x.2
noncomputable def twin_Norm.G (k : Nat) : List (Go.FuncId × Con) := [(169, twin_shl.c), (180, twin_Len.c)]
noncomputable def twin_Norm.cuts : List (Cut (TT S165.sb)) := []
theorem twin_Norm.w (k : Nat) (x : TT S165.sa) : walk E165 (twin_Norm.G k) (cutsAt k twin_Norm.cuts) (retE E165 Go.Proofs.Tryz.f165.results.toList S165) 4000 true [([], .code B165)] (St0 S165 x) = twin_Norm.f x.1 x.2 := by kernel_rfl
theorem twin_Norm.ok : FnOk Go.Proofs.Tryz.prog E165.eT 165 (twin_Norm.c) := FnOk.walk (E := E165) (body := B165) Go.Proofs.Tryz.func165 rfl (by rfl) Go.Proofs.Tryz.ntmps165 S165 rfl (fun k x => twin_Norm.f x.1 x.2) twin_Norm.G (fun k => ⟨twin_shl.ok, twin_Len.ok, trivial⟩) 4000 twin_Norm.cuts trivial (fun k x r h => (twin_Norm.w k x).trans h) 0
noncomputable def E127 : En := ⟨Go.Proofs.Tryz.prog, 156, Go.Proofs.Tryz.f127.ntmps⟩
noncomputable def S127 : Sig := ⟨[.s, .s, .s, .s, .s], [.bool, (.int .u64), (.int .u64), (.int .i64), .bool], true, [.g 6, .s], [(.int .i64), .bool, (.int .i64), (.int .u64), (.int .u64), .bool, .err], false⟩
noncomputable def B127 : Go.Code := Go.Proofs.Tryz.f127.body.get!
def round_Make.j0 : Nat → Bool → Int → Int → Int → Bool → Bool → Option (Int × Bool × Int × Int × Int × Bool × Option Int)
 | 0, _, _, _, _, _, _ => none
 | k + 1, x0, x1, x2, x3, x4, x19 => if x19 = true then (some (0, false, 0, 0, 0, false, some 1)) else ((twin_Norm.f x1 x2).bind fun t100 => (if ((t100.1 == 0) && (t100.2.1 == 0)) = true then (some (0, false, 0, 0, 0, false, none)) else ((round_held.f (wrap64 (((mx (-4398046511104) (mn x3 4398046511104)) + 127) - t100.2.2))).bind fun t101 => (some (1, x0, t101, t100.1, t100.2.1, x4, none)))))
def round_Make.f (k : Nat) (a0 : Bool) (a1 : Int) (a2 : Int) (a3 : Int) (a4 : Bool) : Option (Int × Bool × Int × Int × Int × Bool × Option Int) := if a4 = true then (round_Make.j0 k a0 a1 a2 a3 a4 ((a1 / 9223372036854775808) == 0)) else (round_Make.j0 k a0 a1 a2 a3 a4 false)
--@ok
noncomputable def round_Make.c (k : Nat) : Con := S127.con fun x => round_Make.f k x.1 x.2.1 x.2.2.1 x.2.2.2.1 x.2.2.2.2
noncomputable def round_Make.G (k : Nat) : List (Go.FuncId × Con) := [(165, twin_Norm.c), (166, round_held.c)]
noncomputable def round_Make.cuts : List (Cut (TT S127.sb)) := [⟨[1, 0, 1], [.sc 0 (.bool), .sc 1 (.int .u64), .sc 2 (.int .u64), .sc 3 (.int .i64), .sc 4 (.bool), .sc 19 (.bool), .box 10 68 [.int .i64, .bool, .int .i64, .int .u64, .int .u64, .bool]], fun k x => round_Make.j0 k x.1 x.2.1 x.2.2.1 x.2.2.2.1 x.2.2.2.2.1 x.2.2.2.2.2.1⟩]
theorem round_Make.w0 (k : Nat) (x : ET [.sc 0 (.bool), .sc 1 (.int .u64), .sc 2 (.int .u64), .sc 3 (.int .i64), .sc 4 (.bool), .sc 19 (.bool), .box 10 68 [.int .i64, .bool, .int .i64, .int .u64, .int .u64, .bool]]) : walk E127 (round_Make.G k) (cutsAt k round_Make.cuts) (retE E127 Go.Proofs.Tryz.f127.results.toList S127) 4000 true (stackAt B127 [1, 0, 1]) (mkE [.sc 0 (.bool), .sc 1 (.int .u64), .sc 2 (.int .u64), .sc 3 (.int .i64), .sc 4 (.bool), .sc 19 (.bool), .box 10 68 [.int .i64, .bool, .int .i64, .int .u64, .int .u64, .bool]] x St.nil) = round_Make.j0 (k + 1) x.1 x.2.1 x.2.2.1 x.2.2.2.1 x.2.2.2.2.1 x.2.2.2.2.2.1 := by kernel_rfl
theorem round_Make.w (k : Nat) (x : TT S127.sa) : walk E127 (round_Make.G k) (cutsAt k round_Make.cuts) (retE E127 Go.Proofs.Tryz.f127.results.toList S127) 4000 true [([], .code B127)] (St0 S127 x) = round_Make.f k x.1 x.2.1 x.2.2.1 x.2.2.2.1 x.2.2.2.2 := by kernel_rfl
theorem round_Make.ok (k : Nat) : FnOk Go.Proofs.Tryz.prog E127.eT 127 (round_Make.c k) := FnOk.walk (E := E127) (body := B127) Go.Proofs.Tryz.func127 rfl (by rfl) Go.Proofs.Tryz.ntmps127 S127 rfl (fun k x => round_Make.f k x.1 x.2.1 x.2.2.1 x.2.2.2.1 x.2.2.2.2) round_Make.G (fun k => ⟨twin_Norm.ok, round_held.ok, trivial⟩) 4000 round_Make.cuts ⟨⟨fun _ => rfl, fun k x q h => (round_Make.w0 k x).trans h⟩, trivial⟩ (fun k x r h => (round_Make.w k x).trans h) k
noncomputable def E94 : En := ⟨Go.Proofs.Tryz.prog, 156, Go.Proofs.Tryz.f94.ntmps⟩
noncomputable def S94 : Sig := ⟨[.g 4, .g 4], [(.int .i64), .bool, (.int .i64), (.int .u64), (.int .i64), .bool, (.int .i64), (.int .u64)], true, [.g 6, .s], [(.int .i64), .bool, (.int .i64), (.int .u64), (.int .u64), .bool, .err], false⟩
noncomputable def B94 : Go.Code := Go.Proofs.Tryz.f94.body.get!
mutual
def prod_Exact.j0 : Nat → Bool → Int → Bool → Int → Int → Int → Bool → Int → Int → Option (Int × Bool × Int × Int × Int × Bool × Option Int)
 | 0, _, _, _, _, _, _, _, _, _ => none
 | k + 1, x29, x2000, x2001, x2002, x2003, x3000, x3001, x3002, x3003 => if x29 = true then (some (2, false, 0, 0, 0, false, none)) else (if x2000 = 0 then (prod_Exact.j1 k (x2000 == 0) x2001 x2002 x2003 x3001 x3002 x3003) else (prod_Exact.j1 k (x3000 == 0) x2001 x2002 x2003 x3001 x3002 x3003))
def prod_Exact.j1 : Nat → Bool → Bool → Int → Int → Bool → Int → Int → Option (Int × Bool × Int × Int × Int × Bool × Option Int)
 | 0, _, _, _, _, _, _, _ => none
 | k + 1, x37, x2001, x2002, x2003, x3001, x3002, x3003 => if x37 = true then (some (0, false, 0, 0, 0, false, none)) else ((twin_Mul.f x2003 x3003).bind fun t102 => ((round_Make.f k (!(x2001 == x3001)) t102.1 t102.2 (wrap64 ((wrap64 (x2002 + x3002)) - 126)) false).bind fun t103 => (some (t103.1, t103.2.1, t103.2.2.1, t103.2.2.2.1, t103.2.2.2.2.1, t103.2.2.2.2.2.1, t103.2.2.2.2.2.2))))
end
def prod_Exact.f (k : Nat) (a0_0 : Int) (a0_1 : Bool) (a0_2 : Int) (a0_3 : Int) (a1_0 : Int) (a1_1 : Bool) (a1_2 : Int) (a1_3 : Int) : Option (Int × Bool × Int × Int × Int × Bool × Option Int) := (round_Of.f k a0_0 a0_1 a0_2 a0_3).bind fun t100 => (if t100.2.2.2.2.2.2.isNone = true then ((round_Of.f k a1_0 a1_1 a1_2 a1_3).bind fun t101 => (if t101.2.2.2.2.2.2.isNone = true then (if a0_0 = 2 then (prod_Exact.j0 k (a0_0 == 2) a0_0 a0_1 a0_2 a0_3 a1_0 a1_1 a1_2 a1_3) else (prod_Exact.j0 k (a1_0 == 2) a0_0 a0_1 a0_2 a0_3 a1_0 a1_1 a1_2 a1_3)) else (some (0, false, 0, 0, 0, false, some (t101.2.2.2.2.2.2.getD 0))))) else (some (0, false, 0, 0, 0, false, some (t100.2.2.2.2.2.2.getD 0))))
--@ok
noncomputable def prod_Exact.c (k : Nat) : Con := S94.con fun x => prod_Exact.f k x.1 x.2.1 x.2.2.1 x.2.2.2.1 x.2.2.2.2.1 x.2.2.2.2.2.1 x.2.2.2.2.2.2.1 x.2.2.2.2.2.2.2
noncomputable def prod_Exact.G (k : Nat) : List (Go.FuncId × Con) := [(103, round_Of.c k), (126, twin_Mul.c), (127, round_Make.c k)]
noncomputable def prod_Exact.cuts : List (Cut (TT S94.sb)) := [⟨[1, 4, 0, 1, 1], [.sc 29 (.bool), .box 2 72 [.int .i64, .bool, .int .i64, .int .u64], .box 3 72 [.int .i64, .bool, .int .i64, .int .u64], .box 4 68 [.int .i64, .bool, .int .i64, .int .u64, .int .u64, .bool]], fun k x => prod_Exact.j0 k x.1 x.2.1.1 x.2.1.2.1 x.2.1.2.2.1 x.2.1.2.2.2 x.2.2.1.1 x.2.2.1.2.1 x.2.2.1.2.2.1 x.2.2.1.2.2.2⟩, ⟨[1, 3, 1, 4, 0, 1, 1], [.sc 37 (.bool), .box 2 72 [.int .i64, .bool, .int .i64, .int .u64], .box 3 72 [.int .i64, .bool, .int .i64, .int .u64], .box 4 68 [.int .i64, .bool, .int .i64, .int .u64, .int .u64, .bool]], fun k x => prod_Exact.j1 k x.1 x.2.1.2.1 x.2.1.2.2.1 x.2.1.2.2.2 x.2.2.1.2.1 x.2.2.1.2.2.1 x.2.2.1.2.2.2⟩]
theorem prod_Exact.w0 (k : Nat) (x : ET [.sc 29 (.bool), .box 2 72 [.int .i64, .bool, .int .i64, .int .u64], .box 3 72 [.int .i64, .bool, .int .i64, .int .u64], .box 4 68 [.int .i64, .bool, .int .i64, .int .u64, .int .u64, .bool]]) : walk E94 (prod_Exact.G k) (cutsAt k prod_Exact.cuts) (retE E94 Go.Proofs.Tryz.f94.results.toList S94) 4000 true (stackAt B94 [1, 4, 0, 1, 1]) (mkE [.sc 29 (.bool), .box 2 72 [.int .i64, .bool, .int .i64, .int .u64], .box 3 72 [.int .i64, .bool, .int .i64, .int .u64], .box 4 68 [.int .i64, .bool, .int .i64, .int .u64, .int .u64, .bool]] x St.nil) = prod_Exact.j0 (k + 1) x.1 x.2.1.1 x.2.1.2.1 x.2.1.2.2.1 x.2.1.2.2.2 x.2.2.1.1 x.2.2.1.2.1 x.2.2.1.2.2.1 x.2.2.1.2.2.2 := by kernel_rfl
theorem prod_Exact.w1 (k : Nat) (x : ET [.sc 37 (.bool), .box 2 72 [.int .i64, .bool, .int .i64, .int .u64], .box 3 72 [.int .i64, .bool, .int .i64, .int .u64], .box 4 68 [.int .i64, .bool, .int .i64, .int .u64, .int .u64, .bool]]) : walk E94 (prod_Exact.G k) (cutsAt k prod_Exact.cuts) (retE E94 Go.Proofs.Tryz.f94.results.toList S94) 4000 true (stackAt B94 [1, 3, 1, 4, 0, 1, 1]) (mkE [.sc 37 (.bool), .box 2 72 [.int .i64, .bool, .int .i64, .int .u64], .box 3 72 [.int .i64, .bool, .int .i64, .int .u64], .box 4 68 [.int .i64, .bool, .int .i64, .int .u64, .int .u64, .bool]] x St.nil) = prod_Exact.j1 (k + 1) x.1 x.2.1.2.1 x.2.1.2.2.1 x.2.1.2.2.2 x.2.2.1.2.1 x.2.2.1.2.2.1 x.2.2.1.2.2.2 := by kernel_rfl
theorem prod_Exact.w (k : Nat) (x : TT S94.sa) : walk E94 (prod_Exact.G k) (cutsAt k prod_Exact.cuts) (retE E94 Go.Proofs.Tryz.f94.results.toList S94) 4000 true [([], .code B94)] (St0 S94 x) = prod_Exact.f k x.1 x.2.1 x.2.2.1 x.2.2.2.1 x.2.2.2.2.1 x.2.2.2.2.2.1 x.2.2.2.2.2.2.1 x.2.2.2.2.2.2.2 := by kernel_rfl
theorem prod_Exact.ok (k : Nat) : FnOk Go.Proofs.Tryz.prog E94.eT 94 (prod_Exact.c k) := FnOk.walk (E := E94) (body := B94) Go.Proofs.Tryz.func94 rfl (by rfl) Go.Proofs.Tryz.ntmps94 S94 rfl (fun k x => prod_Exact.f k x.1 x.2.1 x.2.2.1 x.2.2.2.1 x.2.2.2.2.1 x.2.2.2.2.2.1 x.2.2.2.2.2.2.1 x.2.2.2.2.2.2.2) prod_Exact.G (fun k => ⟨round_Of.ok k, twin_Mul.ok, round_Make.ok k, trivial⟩) 4000 prod_Exact.cuts ⟨⟨fun _ => rfl, fun k x q h => (prod_Exact.w0 k x).trans h⟩, ⟨fun _ => rfl, fun k x q h => (prod_Exact.w1 k x).trans h⟩, trivial⟩ (fun k x r h => (prod_Exact.w k x).trans h) k
noncomputable def E110 : En := ⟨Go.Proofs.Tryz.prog, 156, Go.Proofs.Tryz.f110.ntmps⟩
noncomputable def S110 : Sig := ⟨[.s, .s, .s], [(.int .i64), (.int .u64), (.int .u64)], true, [.g 6, .s], [(.int .i64), .bool, (.int .i64), (.int .u64), (.int .u64), .bool, .err], false⟩
noncomputable def B110 : Go.Code := Go.Proofs.Tryz.f110.body.get!
def fuse_product.f (k : Nat) (a0 : Int) (a1 : Int) (a2 : Int) : Option (Int × Bool × Int × Int × Int × Bool × Option Int) := (codec_Decode.f k a0 a1).bind fun t100 => (if t100.2.2.2.2.isNone = true then ((codec_Decode.f k a0 a2).bind fun t101 => ((prod_Exact.f k t100.1 t100.2.1 t100.2.2.1 t100.2.2.2.1 t101.1 t101.2.1 t101.2.2.1 t101.2.2.2.1).bind fun t102 => (some (t102.1, t102.2.1, t102.2.2.1, t102.2.2.2.1, t102.2.2.2.2.1, t102.2.2.2.2.2.1, t102.2.2.2.2.2.2)))) else (some (0, false, 0, 0, 0, false, some (t100.2.2.2.2.getD 0))))
--@ok
noncomputable def fuse_product.c (k : Nat) : Con := S110.con fun x => fuse_product.f k x.1 x.2.1 x.2.2
noncomputable def fuse_product.G (k : Nat) : List (Go.FuncId × Con) := [(89, codec_Decode.c k), (94, prod_Exact.c k)]
noncomputable def fuse_product.cuts : List (Cut (TT S110.sb)) := []
theorem fuse_product.w (k : Nat) (x : TT S110.sa) : walk E110 (fuse_product.G k) (cutsAt k fuse_product.cuts) (retE E110 Go.Proofs.Tryz.f110.results.toList S110) 4000 true [([], .code B110)] (St0 S110 x) = fuse_product.f k x.1 x.2.1 x.2.2 := by kernel_rfl
theorem fuse_product.ok (k : Nat) : FnOk Go.Proofs.Tryz.prog E110.eT 110 (fuse_product.c k) := FnOk.walk (E := E110) (body := B110) Go.Proofs.Tryz.func110 rfl (by rfl) Go.Proofs.Tryz.ntmps110 S110 rfl (fun k x => fuse_product.f k x.1 x.2.1 x.2.2) fuse_product.G (fun k => ⟨codec_Decode.ok k, prod_Exact.ok k, trivial⟩) 4000 fuse_product.cuts trivial (fun k x r h => (fuse_product.w k x).trans h) k
noncomputable def E75 : En := ⟨Go.Proofs.Tryz.prog, 156, Go.Proofs.Tryz.f75.ntmps⟩
noncomputable def S75 : Sig := ⟨[.s, .s, .s, .s], [(.int .i64), (.int .u64), (.int .u64), (.int .u64)], true, [.s, .s], [(.int .u64), .err], false⟩
noncomputable def B75 : Go.Code := Go.Proofs.Tryz.f75.body.get!
def fuse_Fma.f (k : Nat) (a0 : Int) (a1 : Int) (a2 : Int) (a3 : Int) : Option (Int × Option Int) := (fuse_product.f k a0 a1 a2).bind fun t100 => (if t100.2.2.2.2.2.2.isNone = true then ((codec_Decode.f k a0 a3).bind fun t101 => ((round_Of.f k t101.1 t101.2.1 t101.2.2.1 t101.2.2.2.1).bind fun t102 => ((broad_Sum.f k t100.1 t100.2.1 t100.2.2.1 t100.2.2.2.1 t100.2.2.2.2.1 t100.2.2.2.2.2.1 t102.1 t102.2.1 t102.2.2.1 t102.2.2.2.1 t102.2.2.2.2.1 t102.2.2.2.2.2.1).bind fun t103 => ((round_Round.f k a0 t103.1 t103.2.1 t103.2.2.1 t103.2.2.2.1 t103.2.2.2.2.1 t103.2.2.2.2.2).bind fun t104 => (some (t104.1, t104.2)))))) else (some (0, some (t100.2.2.2.2.2.2.getD 0))))
--@ok
noncomputable def fuse_Fma.c (k : Nat) : Con := S75.con fun x => fuse_Fma.f k x.1 x.2.1 x.2.2.1 x.2.2.2
noncomputable def fuse_Fma.G (k : Nat) : List (Go.FuncId × Con) := [(89, codec_Decode.c k), (91, round_Round.c k), (103, round_Of.c k), (110, fuse_product.c k), (111, broad_Sum.c k)]
noncomputable def fuse_Fma.cuts : List (Cut (TT S75.sb)) := []
theorem fuse_Fma.w (k : Nat) (x : TT S75.sa) : walk E75 (fuse_Fma.G k) (cutsAt k fuse_Fma.cuts) (retE E75 Go.Proofs.Tryz.f75.results.toList S75) 4000 true [([], .code B75)] (St0 S75 x) = fuse_Fma.f k x.1 x.2.1 x.2.2.1 x.2.2.2 := by kernel_rfl
theorem fuse_Fma.ok (k : Nat) : FnOk Go.Proofs.Tryz.prog E75.eT 75 (fuse_Fma.c k) := FnOk.walk (E := E75) (body := B75) Go.Proofs.Tryz.func75 rfl (by rfl) Go.Proofs.Tryz.ntmps75 S75 rfl (fun k x => fuse_Fma.f k x.1 x.2.1 x.2.2.1 x.2.2.2) fuse_Fma.G (fun k => ⟨codec_Decode.ok k, round_Round.ok k, round_Of.ok k, fuse_product.ok k, broad_Sum.ok k, trivial⟩) 4000 fuse_Fma.cuts trivial (fun k x r h => (fuse_Fma.w k x).trans h) k
noncomputable def E60 : En := ⟨Go.Proofs.Tryz.prog, 156, Go.Proofs.Tryz.f60.ntmps⟩
noncomputable def S60 : Sig := ⟨[.s, .s, .s], [(.int .u16), (.int .u16), (.int .u16)], false, [.s], [(.int .u16)], false⟩
noncomputable def B60 : Go.Code := Go.Proofs.Tryz.f60.body.get!
def gen_Fma_P16.f (k : Nat) (a0 : Int) (a1 : Int) (a2 : Int) : Option (Int) := (gen_Width_P16.f).bind fun t100 => ((fuse_Fma.f k t100 (IntKind.u64.wrap a0) (IntKind.u64.wrap a1) (IntKind.u64.wrap a2)).bind fun t101 => (some (IntKind.u16.wrap t101.1)))
--@ok
noncomputable def gen_Fma_P16.c (k : Nat) : Con := S60.con fun x => gen_Fma_P16.f k x.1 x.2.1 x.2.2
noncomputable def gen_Fma_P16.G (k : Nat) : List (Go.FuncId × Con) := [(58, gen_Width_P16.c), (75, fuse_Fma.c k)]
noncomputable def gen_Fma_P16.cuts : List (Cut (TT S60.sb)) := []
theorem gen_Fma_P16.w (k : Nat) (x : TT S60.sa) : walk E60 (gen_Fma_P16.G k) (cutsAt k gen_Fma_P16.cuts) (retE E60 Go.Proofs.Tryz.f60.results.toList S60) 4000 true [([], .code B60)] (St0 S60 x) = gen_Fma_P16.f k x.1 x.2.1 x.2.2 := by kernel_rfl
theorem gen_Fma_P16.ok (k : Nat) : FnOk Go.Proofs.Tryz.prog E60.eT 60 (gen_Fma_P16.c k) := FnOk.walk (E := E60) (body := B60) Go.Proofs.Tryz.func60 rfl (by rfl) Go.Proofs.Tryz.ntmps60 S60 rfl (fun k x => gen_Fma_P16.f k x.1 x.2.1 x.2.2) gen_Fma_P16.G (fun k => ⟨gen_Width_P16.ok, fuse_Fma.ok k, trivial⟩) 4000 gen_Fma_P16.cuts trivial (fun k x r h => (gen_Fma_P16.w k x).trans h) k
noncomputable def E9 : En := ⟨Go.Proofs.Tryz.prog, 156, Go.Proofs.Tryz.f9.ntmps⟩
noncomputable def S9 : Sig := ⟨[.s, .s], [(.rd .u16), (.int .u16)], false, [.s], [(.int .u16)], false⟩
noncomputable def B9 : Go.Code := Go.Proofs.Tryz.f9.body.get!
def gen_Horner_P16.l0 : Nat → List Int → Int → Int → Int → Option (Int)
 | 0, _, _, _, _ => none
 | k + 1, x0, x1, x5, x6 => if x6 ≥ 0 then (if 0 ≤ x6 then (if x6 < (nI x0.length) then ((gen_Fma_P16.f k x5 x1 (rd x0 x6)).bind fun t100 => (gen_Horner_P16.l0 k x0 x1 t100 (wrap64 (x6 - 1)))) else (none)) else (none)) else (some x5)
def gen_Horner_P16.f (k : Nat) (l0 : List Int) (a1 : Int) : Option (Int) := gen_Horner_P16.l0 k l0 a1 0 (wrap64 ((nI l0.length) - 1))
--@ok
noncomputable def gen_Horner_P16.c (k : Nat) : Con := S9.con fun x => gen_Horner_P16.f k x.1 x.2
noncomputable def gen_Horner_P16.G (k : Nat) : List (Go.FuncId × Con) := [(60, gen_Fma_P16.c k)]
noncomputable def gen_Horner_P16.cuts : List (Cut (TT S9.sb)) := [⟨[6, 4, 1, 0, 1, 1], [.sc 0 (.rd .u16), .sc 1 (.int .u16), .sc 5 (.int .u16), .sc 6 (.int .i64)], fun k x => gen_Horner_P16.l0 k x.1 x.2.1 x.2.2.1 x.2.2.2⟩]
theorem gen_Horner_P16.w0 (k : Nat) (x : ET [.sc 0 (.rd .u16), .sc 1 (.int .u16), .sc 5 (.int .u16), .sc 6 (.int .i64)]) : walk E9 (gen_Horner_P16.G k) (cutsAt k gen_Horner_P16.cuts) (retE E9 Go.Proofs.Tryz.f9.results.toList S9) 4000 true (stackAt B9 [6, 4, 1, 0, 1, 1]) (mkE [.sc 0 (.rd .u16), .sc 1 (.int .u16), .sc 5 (.int .u16), .sc 6 (.int .i64)] x St.nil) = gen_Horner_P16.l0 (k + 1) x.1 x.2.1 x.2.2.1 x.2.2.2 := by kernel_rfl
theorem gen_Horner_P16.w (k : Nat) (x : TT S9.sa) : walk E9 (gen_Horner_P16.G k) (cutsAt k gen_Horner_P16.cuts) (retE E9 Go.Proofs.Tryz.f9.results.toList S9) 4000 true [([], .code B9)] (St0 S9 x) = gen_Horner_P16.f k x.1 x.2 := by kernel_rfl
theorem gen_Horner_P16.ok (k : Nat) : FnOk Go.Proofs.Tryz.prog E9.eT 9 (gen_Horner_P16.c k) := FnOk.walk (E := E9) (body := B9) Go.Proofs.Tryz.func9 rfl (by rfl) Go.Proofs.Tryz.ntmps9 S9 rfl (fun k x => gen_Horner_P16.f k x.1 x.2) gen_Horner_P16.G (fun k => ⟨gen_Fma_P16.ok k, trivial⟩) 4000 gen_Horner_P16.cuts ⟨⟨fun _ => rfl, fun k x q h => (gen_Horner_P16.w0 k x).trans h⟩, trivial⟩ (fun k x r h => (gen_Horner_P16.w k x).trans h) k
noncomputable def E49 : En := ⟨Go.Proofs.Tryz.prog, 156, Go.Proofs.Tryz.f49.ntmps⟩
noncomputable def S49 : Sig := ⟨[.s, .s, .s], [(.int .u64), (.int .u64), (.int .u64)], false, [.s], [(.int .u64)], false⟩
noncomputable def B49 : Go.Code := Go.Proofs.Tryz.f49.body.get!
def gen_Fma_P64.f (k : Nat) (a0 : Int) (a1 : Int) (a2 : Int) : Option (Int) := (gen_Width_P64.f).bind fun t100 => ((fuse_Fma.f k t100 a0 a1 a2).bind fun t101 => (some t101.1))
--@ok
noncomputable def gen_Fma_P64.c (k : Nat) : Con := S49.con fun x => gen_Fma_P64.f k x.1 x.2.1 x.2.2
noncomputable def gen_Fma_P64.G (k : Nat) : List (Go.FuncId × Con) := [(54, gen_Width_P64.c), (75, fuse_Fma.c k)]
noncomputable def gen_Fma_P64.cuts : List (Cut (TT S49.sb)) := []
theorem gen_Fma_P64.w (k : Nat) (x : TT S49.sa) : walk E49 (gen_Fma_P64.G k) (cutsAt k gen_Fma_P64.cuts) (retE E49 Go.Proofs.Tryz.f49.results.toList S49) 4000 true [([], .code B49)] (St0 S49 x) = gen_Fma_P64.f k x.1 x.2.1 x.2.2 := by kernel_rfl
theorem gen_Fma_P64.ok (k : Nat) : FnOk Go.Proofs.Tryz.prog E49.eT 49 (gen_Fma_P64.c k) := FnOk.walk (E := E49) (body := B49) Go.Proofs.Tryz.func49 rfl (by rfl) Go.Proofs.Tryz.ntmps49 S49 rfl (fun k x => gen_Fma_P64.f k x.1 x.2.1 x.2.2) gen_Fma_P64.G (fun k => ⟨gen_Width_P64.ok, fuse_Fma.ok k, trivial⟩) 4000 gen_Fma_P64.cuts trivial (fun k x r h => (gen_Fma_P64.w k x).trans h) k
noncomputable def E10 : En := ⟨Go.Proofs.Tryz.prog, 156, Go.Proofs.Tryz.f10.ntmps⟩
noncomputable def S10 : Sig := ⟨[.s, .s], [(.rd .u64), (.int .u64)], false, [.s], [(.int .u64)], false⟩
noncomputable def B10 : Go.Code := Go.Proofs.Tryz.f10.body.get!
def gen_Horner_P64.l0 : Nat → List Int → Int → Int → Int → Option (Int)
 | 0, _, _, _, _ => none
 | k + 1, x0, x1, x5, x6 => if x6 ≥ 0 then (if 0 ≤ x6 then (if x6 < (nI x0.length) then ((gen_Fma_P64.f k x5 x1 (rd x0 x6)).bind fun t100 => (gen_Horner_P64.l0 k x0 x1 t100 (wrap64 (x6 - 1)))) else (none)) else (none)) else (some x5)
def gen_Horner_P64.f (k : Nat) (l0 : List Int) (a1 : Int) : Option (Int) := gen_Horner_P64.l0 k l0 a1 0 (wrap64 ((nI l0.length) - 1))
--@ok
noncomputable def gen_Horner_P64.c (k : Nat) : Con := S10.con fun x => gen_Horner_P64.f k x.1 x.2
noncomputable def gen_Horner_P64.G (k : Nat) : List (Go.FuncId × Con) := [(49, gen_Fma_P64.c k)]
noncomputable def gen_Horner_P64.cuts : List (Cut (TT S10.sb)) := [⟨[6, 4, 1, 0, 1, 1], [.sc 0 (.rd .u64), .sc 1 (.int .u64), .sc 5 (.int .u64), .sc 6 (.int .i64)], fun k x => gen_Horner_P64.l0 k x.1 x.2.1 x.2.2.1 x.2.2.2⟩]
theorem gen_Horner_P64.w0 (k : Nat) (x : ET [.sc 0 (.rd .u64), .sc 1 (.int .u64), .sc 5 (.int .u64), .sc 6 (.int .i64)]) : walk E10 (gen_Horner_P64.G k) (cutsAt k gen_Horner_P64.cuts) (retE E10 Go.Proofs.Tryz.f10.results.toList S10) 4000 true (stackAt B10 [6, 4, 1, 0, 1, 1]) (mkE [.sc 0 (.rd .u64), .sc 1 (.int .u64), .sc 5 (.int .u64), .sc 6 (.int .i64)] x St.nil) = gen_Horner_P64.l0 (k + 1) x.1 x.2.1 x.2.2.1 x.2.2.2 := by kernel_rfl
theorem gen_Horner_P64.w (k : Nat) (x : TT S10.sa) : walk E10 (gen_Horner_P64.G k) (cutsAt k gen_Horner_P64.cuts) (retE E10 Go.Proofs.Tryz.f10.results.toList S10) 4000 true [([], .code B10)] (St0 S10 x) = gen_Horner_P64.f k x.1 x.2 := by kernel_rfl
theorem gen_Horner_P64.ok (k : Nat) : FnOk Go.Proofs.Tryz.prog E10.eT 10 (gen_Horner_P64.c k) := FnOk.walk (E := E10) (body := B10) Go.Proofs.Tryz.func10 rfl (by rfl) Go.Proofs.Tryz.ntmps10 S10 rfl (fun k x => gen_Horner_P64.f k x.1 x.2) gen_Horner_P64.G (fun k => ⟨gen_Fma_P64.ok k, trivial⟩) 4000 gen_Horner_P64.cuts ⟨⟨fun _ => rfl, fun k x q h => (gen_Horner_P64.w0 k x).trans h⟩, trivial⟩ (fun k x r h => (gen_Horner_P64.w k x).trans h) k
noncomputable def E123 : En := ⟨Go.Proofs.Tryz.prog, 156, Go.Proofs.Tryz.f123.ntmps⟩
noncomputable def S123 : Sig := ⟨[.s, .s], [(.int .u64), (.int .i64)], false, [.s], [.str], false⟩
noncomputable def B123 : Go.Code := Go.Proofs.Tryz.f123.body.get!
def vernierref01_Text.l0 : Nat → Int → List Int → Int → Option (ByteArray)
 | 0, _, _, _ => none
 | k + 1, x0, x5, x6 => if x6 ≥ 0 then (if 0 ≤ x6 then (if x5.length < 140737488355328 then (vernierref01_Text.l0 k x0 (x5 ++ ([(48 + ((Int.tmod (shr .u64 x0 x6) 2) % 256)) % 256] : List Int)) (wrap64 (x6 - 1))) else (none)) else (none)) else (some (strOfNums x5))
def vernierref01_Text.f (k : Nat) (a0 : Int) (a1 : Int) : Option (ByteArray) := vernierref01_Text.l0 k a0 ([] : List Int) (wrap64 (a1 - 1))
--@ok
noncomputable def vernierref01_Text.c (k : Nat) : Con := S123.con fun x => vernierref01_Text.f k x.1 x.2
noncomputable def vernierref01_Text.G (k : Nat) : List (Go.FuncId × Con) := []
noncomputable def vernierref01_Text.cuts : List (Cut (TT S123.sb)) := [⟨[6, 4, 1, 0, 1, 1], [.sc 0 (.int .u64), .lst 5 .u8 5, .sc 6 (.int .i64)], fun k x => vernierref01_Text.l0 k x.1 x.2.1 x.2.2⟩]
theorem vernierref01_Text.w0 (k : Nat) (x : ET [.sc 0 (.int .u64), .lst 5 .u8 5, .sc 6 (.int .i64)]) : walk E123 (vernierref01_Text.G k) (cutsAt k vernierref01_Text.cuts) (retE E123 Go.Proofs.Tryz.f123.results.toList S123) 4000 true (stackAt B123 [6, 4, 1, 0, 1, 1]) (mkE [.sc 0 (.int .u64), .lst 5 .u8 5, .sc 6 (.int .i64)] x St.nil) = vernierref01_Text.l0 (k + 1) x.1 x.2.1 x.2.2 := by kernel_rfl
theorem vernierref01_Text.w (k : Nat) (x : TT S123.sa) : walk E123 (vernierref01_Text.G k) (cutsAt k vernierref01_Text.cuts) (retE E123 Go.Proofs.Tryz.f123.results.toList S123) 4000 true [([], .code B123)] (St0 S123 x) = vernierref01_Text.f k x.1 x.2 := by kernel_rfl
theorem vernierref01_Text.ok (k : Nat) : FnOk Go.Proofs.Tryz.prog E123.eT 123 (vernierref01_Text.c k) := FnOk.walk (E := E123) (body := B123) Go.Proofs.Tryz.func123 rfl (by rfl) Go.Proofs.Tryz.ntmps123 S123 rfl (fun k x => vernierref01_Text.f k x.1 x.2) vernierref01_Text.G (fun k => trivial) 4000 vernierref01_Text.cuts ⟨⟨fun _ => rfl, fun k x q h => (vernierref01_Text.w0 k x).trans h⟩, trivial⟩ (fun k x r h => (vernierref01_Text.w k x).trans h) k
end Go.Proofs.YtnjhblakghjdoaaGreat.Fn
set_option maxRecDepth 100000
set_option linter.unusedVariables false
noncomputable section
namespace Go.Proofs.YtnjhblakghjdoaaGreat.Fn
open Go Go.RowKit Go.Proofs.YtnjhblakghjdoaaGreat.Ab
noncomputable def E124 : En := ⟨Go.Proofs.Tryz.prog, 156, Go.Proofs.Tryz.f124.ntmps⟩
noncomputable def S124 : Sig := ⟨[.s], [.str], false, [.s], [(.int .u64)], false⟩
noncomputable def B124 : Go.Code := Go.Proofs.Tryz.f124.body.get!
def vernierref01_Number.l0 : Nat → ByteArray → Int → Int → Option (Int)
 | 0, _, _, _ => none
 | k + 1, x0, x3, x4 => if x4 < (nI x0.size) then (if 0 ≤ x4 then (vernierref01_Number.l0 k x0 (IntKind.u64.wrap ((IntKind.u64.wrap (2 * x3)) + (((bt x0 x4) - 48) % 256))) (wrap64 (x4 + 1))) else (none)) else (some x3)
def vernierref01_Number.f (k : Nat) (a0 : ByteArray) : Option (Int) := vernierref01_Number.l0 k a0 0 0
--@ok
def vernierref01_Number.l0R (k : Nat) (x0 : ByteArray) (x3 : Int) (x4 : Int) : Option (Int) := if x4 < (nI x0.size) then (if 0 ≤ x4 then (if x4 < (nI x0.size) then (vernierref01_Number.l0 k x0 (IntKind.u64.wrap ((IntKind.u64.wrap (2 * x3)) + (((bt x0 x4) - 48) % 256))) (wrap64 (x4 + 1))) else (none)) else (none)) else (some x3)
theorem vernierref01_Number.l0E (k : Nat) (x0 : ByteArray) (x3 : Int) (x4 : Int) : vernierref01_Number.l0R k x0 x3 x4 = vernierref01_Number.l0 (k + 1) x0 x3 x4 := by
  unfold vernierref01_Number.l0R
  rw [vernierref01_Number.l0]
  exact iteC (fun h0 => iteC (fun h1 => (if_pos h0).trans (rfl)) (fun h1 => rfl)) (fun h0 => rfl)
noncomputable def vernierref01_Number.c (k : Nat) : Con := S124.con fun x => vernierref01_Number.f k x
noncomputable def vernierref01_Number.G (k : Nat) : List (Go.FuncId × Con) := []
noncomputable def vernierref01_Number.cuts : List (Cut (TT S124.sb)) := [⟨[6, 4, 1, 0, 1, 1], [.sc 0 (.str), .sc 3 (.int .u64), .sc 4 (.int .i64)], fun k x => vernierref01_Number.l0 k x.1 x.2.1 x.2.2⟩]
theorem vernierref01_Number.w0 (k : Nat) (x : ET [.sc 0 (.str), .sc 3 (.int .u64), .sc 4 (.int .i64)]) : walk E124 (vernierref01_Number.G k) (cutsAt k vernierref01_Number.cuts) (retE E124 Go.Proofs.Tryz.f124.results.toList S124) 4000 true (stackAt B124 [6, 4, 1, 0, 1, 1]) (mkE [.sc 0 (.str), .sc 3 (.int .u64), .sc 4 (.int .i64)] x St.nil) = vernierref01_Number.l0 (k + 1) x.1 x.2.1 x.2.2 := Eq.trans (b := vernierref01_Number.l0R k x.1 x.2.1 x.2.2) (by kernel_rfl) (vernierref01_Number.l0E k x.1 x.2.1 x.2.2)
theorem vernierref01_Number.w (k : Nat) (x : TT S124.sa) : walk E124 (vernierref01_Number.G k) (cutsAt k vernierref01_Number.cuts) (retE E124 Go.Proofs.Tryz.f124.results.toList S124) 4000 true [([], .code B124)] (St0 S124 x) = vernierref01_Number.f k x := by kernel_rfl
theorem vernierref01_Number.ok (k : Nat) : FnOk Go.Proofs.Tryz.prog E124.eT 124 (vernierref01_Number.c k) := FnOk.walk (E := E124) (body := B124) Go.Proofs.Tryz.func124 rfl (by rfl) Go.Proofs.Tryz.ntmps124 S124 rfl (fun k x => vernierref01_Number.f k x) vernierref01_Number.G (fun k => trivial) 4000 vernierref01_Number.cuts ⟨⟨fun _ => rfl, fun k x q h => (vernierref01_Number.w0 k x).trans h⟩, trivial⟩ (fun k x r h => (vernierref01_Number.w k x).trans h) k
noncomputable def E150 : En := ⟨Go.Proofs.Tryz.prog, 156, Go.Proofs.Tryz.f150.ntmps⟩
noncomputable def S150 : Sig := ⟨[.s], [(.int .i64)], false, [.s], [.bool], false⟩
noncomputable def B150 : Go.Code := Go.Proofs.Tryz.f150.body.get!
def vernierref05_Is.f (a0 : Int) : Option (Bool) := if a0 = 8 then (some true) else (if a0 = 16 then (some true) else (if a0 = 32 then (some true) else (some (a0 == 64))))
--@ok
noncomputable def vernierref05_Is.c : Con := S150.con fun x => vernierref05_Is.f x
noncomputable def vernierref05_Is.G (k : Nat) : List (Go.FuncId × Con) := []
noncomputable def vernierref05_Is.cuts : List (Cut (TT S150.sb)) := []
theorem vernierref05_Is.w (k : Nat) (x : TT S150.sa) : walk E150 (vernierref05_Is.G k) (cutsAt k vernierref05_Is.cuts) (retE E150 Go.Proofs.Tryz.f150.results.toList S150) 4000 true [([], .code B150)] (St0 S150 x) = vernierref05_Is.f x := by kernel_rfl
theorem vernierref05_Is.ok : FnOk Go.Proofs.Tryz.prog E150.eT 150 (vernierref05_Is.c) := FnOk.walk (E := E150) (body := B150) Go.Proofs.Tryz.func150 rfl (by rfl) Go.Proofs.Tryz.ntmps150 S150 rfl (fun k x => vernierref05_Is.f x) vernierref05_Is.G (fun k => trivial) 4000 vernierref05_Is.cuts trivial (fun k x r h => (vernierref05_Is.w k x).trans h) 0
noncomputable def E114 : En := ⟨Go.Proofs.Tryz.prog, 156, Go.Proofs.Tryz.f114.ntmps⟩
noncomputable def S114 : Sig := ⟨[.s, .s], [(.int .i64), (.int .u64)], true, [.s, .s], [(.int .u64), (.int .i64)], false⟩
noncomputable def B114 : Go.Code := Go.Proofs.Tryz.f114.body.get!
def vernierref05_Fold.f (k : Nat) (a0 : Int) (a1 : Int) : Option (Int × Int) := (vernierref05_Is.f a0).bind fun t100 => (if t100 = true then ((vernierref01_Text.f k a1 a0).bind fun t101 => ((vernierref01_Number.f k t101).bind fun t102 => (some (t102, 0)))) else (some (0, 2)))
--@ok
noncomputable def vernierref05_Fold.c (k : Nat) : Con := S114.con fun x => vernierref05_Fold.f k x.1 x.2
noncomputable def vernierref05_Fold.G (k : Nat) : List (Go.FuncId × Con) := [(123, vernierref01_Text.c k), (124, vernierref01_Number.c k), (150, vernierref05_Is.c)]
noncomputable def vernierref05_Fold.cuts : List (Cut (TT S114.sb)) := []
theorem vernierref05_Fold.w (k : Nat) (x : TT S114.sa) : walk E114 (vernierref05_Fold.G k) (cutsAt k vernierref05_Fold.cuts) (retE E114 Go.Proofs.Tryz.f114.results.toList S114) 4000 true [([], .code B114)] (St0 S114 x) = vernierref05_Fold.f k x.1 x.2 := by kernel_rfl
theorem vernierref05_Fold.ok (k : Nat) : FnOk Go.Proofs.Tryz.prog E114.eT 114 (vernierref05_Fold.c k) := FnOk.walk (E := E114) (body := B114) Go.Proofs.Tryz.func114 rfl (by rfl) Go.Proofs.Tryz.ntmps114 S114 rfl (fun k x => vernierref05_Fold.f k x.1 x.2) vernierref05_Fold.G (fun k => ⟨vernierref01_Text.ok k, vernierref01_Number.ok k, vernierref05_Is.ok, trivial⟩) 4000 vernierref05_Fold.cuts trivial (fun k x r h => (vernierref05_Fold.w k x).trans h) k
noncomputable def E158 : En := ⟨Go.Proofs.Tryz.prog, 156, Go.Proofs.Tryz.f158.ntmps⟩
noncomputable def S158 : Sig := ⟨[.s], [(.int .i64)], false, [.s], [(.int .u64)], false⟩
noncomputable def B158 : Go.Code := Go.Proofs.Tryz.f158.body.get!
def vernierref05_Power.l0 : Nat → Int → Int → Int → Option (Int)
 | 0, _, _, _ => none
 | k + 1, x0, x3, x4 => if x4 < x0 then (vernierref05_Power.l0 k x0 (IntKind.u64.wrap (2 * x3)) (wrap64 (x4 + 1))) else (some x3)
def vernierref05_Power.f (k : Nat) (a0 : Int) : Option (Int) := vernierref05_Power.l0 k a0 1 0
--@ok
noncomputable def vernierref05_Power.c (k : Nat) : Con := S158.con fun x => vernierref05_Power.f k x
noncomputable def vernierref05_Power.G (k : Nat) : List (Go.FuncId × Con) := []
noncomputable def vernierref05_Power.cuts : List (Cut (TT S158.sb)) := [⟨[6, 4, 1, 0, 1, 1], [.sc 0 (.int .i64), .sc 3 (.int .u64), .sc 4 (.int .i64)], fun k x => vernierref05_Power.l0 k x.1 x.2.1 x.2.2⟩]
theorem vernierref05_Power.w0 (k : Nat) (x : ET [.sc 0 (.int .i64), .sc 3 (.int .u64), .sc 4 (.int .i64)]) : walk E158 (vernierref05_Power.G k) (cutsAt k vernierref05_Power.cuts) (retE E158 Go.Proofs.Tryz.f158.results.toList S158) 4000 true (stackAt B158 [6, 4, 1, 0, 1, 1]) (mkE [.sc 0 (.int .i64), .sc 3 (.int .u64), .sc 4 (.int .i64)] x St.nil) = vernierref05_Power.l0 (k + 1) x.1 x.2.1 x.2.2 := by kernel_rfl
theorem vernierref05_Power.w (k : Nat) (x : TT S158.sa) : walk E158 (vernierref05_Power.G k) (cutsAt k vernierref05_Power.cuts) (retE E158 Go.Proofs.Tryz.f158.results.toList S158) 4000 true [([], .code B158)] (St0 S158 x) = vernierref05_Power.f k x := by kernel_rfl
theorem vernierref05_Power.ok (k : Nat) : FnOk Go.Proofs.Tryz.prog E158.eT 158 (vernierref05_Power.c k) := FnOk.walk (E := E158) (body := B158) Go.Proofs.Tryz.func158 rfl (by rfl) Go.Proofs.Tryz.ntmps158 S158 rfl (fun k x => vernierref05_Power.f k x) vernierref05_Power.G (fun k => trivial) 4000 vernierref05_Power.cuts ⟨⟨fun _ => rfl, fun k x q h => (vernierref05_Power.w0 k x).trans h⟩, trivial⟩ (fun k x r h => (vernierref05_Power.w k x).trans h) k
noncomputable def E121 : En := ⟨Go.Proofs.Tryz.prog, 156, Go.Proofs.Tryz.f121.ntmps⟩
noncomputable def S121 : Sig := ⟨[.s, .s], [(.int .i64), (.int .u64)], true, [.s, .s], [(.int .i64), (.int .i64)], false⟩
noncomputable def B121 : Go.Code := Go.Proofs.Tryz.f121.body.get!
def vernierref05_Kind.f (k : Nat) (a0 : Int) (a1 : Int) : Option (Int × Int) := (vernierref05_Fold.f k a0 a1).bind fun t100 => (if t100.2 = 0 then (if t100.1 = 0 then (some (0, 0)) else ((vernierref05_Power.f k (wrap64 (a0 - 1))).bind fun t101 => (if t100.1 = t101 then (some (2, 0)) else (some (1, 0))))) else (some (0, t100.2)))
--@ok
noncomputable def vernierref05_Kind.c (k : Nat) : Con := S121.con fun x => vernierref05_Kind.f k x.1 x.2
noncomputable def vernierref05_Kind.G (k : Nat) : List (Go.FuncId × Con) := [(114, vernierref05_Fold.c k), (158, vernierref05_Power.c k)]
noncomputable def vernierref05_Kind.cuts : List (Cut (TT S121.sb)) := []
theorem vernierref05_Kind.w (k : Nat) (x : TT S121.sa) : walk E121 (vernierref05_Kind.G k) (cutsAt k vernierref05_Kind.cuts) (retE E121 Go.Proofs.Tryz.f121.results.toList S121) 4000 true [([], .code B121)] (St0 S121 x) = vernierref05_Kind.f k x.1 x.2 := by kernel_rfl
theorem vernierref05_Kind.ok (k : Nat) : FnOk Go.Proofs.Tryz.prog E121.eT 121 (vernierref05_Kind.c k) := FnOk.walk (E := E121) (body := B121) Go.Proofs.Tryz.func121 rfl (by rfl) Go.Proofs.Tryz.ntmps121 S121 rfl (fun k x => vernierref05_Kind.f k x.1 x.2) vernierref05_Kind.G (fun k => ⟨vernierref05_Fold.ok k, vernierref05_Power.ok k, trivial⟩) 4000 vernierref05_Kind.cuts trivial (fun k x r h => (vernierref05_Kind.w k x).trans h) k
noncomputable def E159 : En := ⟨Go.Proofs.Tryz.prog, 156, Go.Proofs.Tryz.f159.ntmps⟩
noncomputable def S159 : Sig := ⟨[.s, .s], [(.int .i64), (.int .u64)], false, [.s], [.str], false⟩
noncomputable def B159 : Go.Code := Go.Proofs.Tryz.f159.body.get!
def vernierref06_String.f (k : Nat) (a0 : Int) (a1 : Int) : Option (ByteArray) := (vernierref01_Text.f k a1 a0).bind fun t100 => (if 0 < (nI t100.size) then (if (bt t100 0) = 49 then ((vernierref01_Text.f k (IntKind.u64.wrap (-a1)) a0).bind fun t101 => (if 1 ≤ (nI t101.size) then (some (t101.extract 1 t101.size)) else (none))) else (if 1 ≤ (nI t100.size) then (some (t100.extract 1 t100.size)) else (none))) else (none))
--@ok
noncomputable def vernierref06_String.c (k : Nat) : Con := S159.con fun x => vernierref06_String.f k x.1 x.2
noncomputable def vernierref06_String.G (k : Nat) : List (Go.FuncId × Con) := [(123, vernierref01_Text.c k)]
noncomputable def vernierref06_String.cuts : List (Cut (TT S159.sb)) := []
theorem vernierref06_String.w (k : Nat) (x : TT S159.sa) : walk E159 (vernierref06_String.G k) (cutsAt k vernierref06_String.cuts) (retE E159 Go.Proofs.Tryz.f159.results.toList S159) 4000 true [([], .code B159)] (St0 S159 x) = vernierref06_String.f k x.1 x.2 := by kernel_rfl
theorem vernierref06_String.ok (k : Nat) : FnOk Go.Proofs.Tryz.prog E159.eT 159 (vernierref06_String.c k) := FnOk.walk (E := E159) (body := B159) Go.Proofs.Tryz.func159 rfl (by rfl) Go.Proofs.Tryz.ntmps159 S159 rfl (fun k x => vernierref06_String.f k x.1 x.2) vernierref06_String.G (fun k => ⟨vernierref01_Text.ok k, trivial⟩) 4000 vernierref06_String.cuts trivial (fun k x r h => (vernierref06_String.w k x).trans h) k
noncomputable def E160 : En := ⟨Go.Proofs.Tryz.prog, 156, Go.Proofs.Tryz.f160.ntmps⟩
noncomputable def S160 : Sig := ⟨[.s], [.str], false, [.s], [(.int .i64)], false⟩
noncomputable def B160 : Go.Code := Go.Proofs.Tryz.f160.body.get!
def vernierref06_run.l0 : Nat → ByteArray → Int → Option (Int)
 | 0, _, _ => none
 | k + 1, x0, x3 => if x3 < (nI x0.size) then (if 0 ≤ x3 then (if 0 < (nI x0.size) then (if (bt x0 x3) = (bt x0 0) then (vernierref06_run.l0 k x0 (wrap64 (x3 + 1))) else (some x3)) else (none)) else (none)) else (some x3)
def vernierref06_run.f (k : Nat) (a0 : ByteArray) : Option (Int) := vernierref06_run.l0 k a0 0
--@ok
def vernierref06_run.l0R (k : Nat) (x0 : ByteArray) (x3 : Int) : Option (Int) := if x3 < (nI x0.size) then (if 0 ≤ x3 then (if x3 < (nI x0.size) then (if 0 < (nI x0.size) then (if (bt x0 x3) = (bt x0 0) then (vernierref06_run.l0 k x0 (wrap64 (x3 + 1))) else (some x3)) else (none)) else (none)) else (none)) else (some x3)
theorem vernierref06_run.l0E (k : Nat) (x0 : ByteArray) (x3 : Int) : vernierref06_run.l0R k x0 x3 = vernierref06_run.l0 (k + 1) x0 x3 := by
  unfold vernierref06_run.l0R
  rw [vernierref06_run.l0]
  exact iteC (fun h0 => iteC (fun h1 => (if_pos h0).trans (iteC (fun h2 => iteC (fun h3 => rfl) (fun h3 => rfl)) (fun h2 => rfl))) (fun h1 => rfl)) (fun h0 => rfl)
noncomputable def vernierref06_run.c (k : Nat) : Con := S160.con fun x => vernierref06_run.f k x
noncomputable def vernierref06_run.G (k : Nat) : List (Go.FuncId × Con) := []
noncomputable def vernierref06_run.cuts : List (Cut (TT S160.sb)) := [⟨[6, 4, 0, 1, 1], [.sc 0 (.str), .sc 3 (.int .i64)], fun k x => vernierref06_run.l0 k x.1 x.2⟩]
theorem vernierref06_run.w0 (k : Nat) (x : ET [.sc 0 (.str), .sc 3 (.int .i64)]) : walk E160 (vernierref06_run.G k) (cutsAt k vernierref06_run.cuts) (retE E160 Go.Proofs.Tryz.f160.results.toList S160) 4000 true (stackAt B160 [6, 4, 0, 1, 1]) (mkE [.sc 0 (.str), .sc 3 (.int .i64)] x St.nil) = vernierref06_run.l0 (k + 1) x.1 x.2 := Eq.trans (b := vernierref06_run.l0R k x.1 x.2) (by kernel_rfl) (vernierref06_run.l0E k x.1 x.2)
theorem vernierref06_run.w (k : Nat) (x : TT S160.sa) : walk E160 (vernierref06_run.G k) (cutsAt k vernierref06_run.cuts) (retE E160 Go.Proofs.Tryz.f160.results.toList S160) 4000 true [([], .code B160)] (St0 S160 x) = vernierref06_run.f k x := by kernel_rfl
theorem vernierref06_run.ok (k : Nat) : FnOk Go.Proofs.Tryz.prog E160.eT 160 (vernierref06_run.c k) := FnOk.walk (E := E160) (body := B160) Go.Proofs.Tryz.func160 rfl (by rfl) Go.Proofs.Tryz.ntmps160 S160 rfl (fun k x => vernierref06_run.f k x) vernierref06_run.G (fun k => trivial) 4000 vernierref06_run.cuts ⟨⟨fun _ => rfl, fun k x q h => (vernierref06_run.w0 k x).trans h⟩, trivial⟩ (fun k x r h => (vernierref06_run.w k x).trans h) k
noncomputable def E122 : En := ⟨Go.Proofs.Tryz.prog, 156, Go.Proofs.Tryz.f122.ntmps⟩
noncomputable def S122 : Sig := ⟨[.s, .s], [(.int .i64), (.int .u64)], true, [.g 8, .s], [.bool, .bool, (.int .i64), (.int .i64), (.int .i64), (.int .i64), (.int .i64), (.int .u64), (.int .i64)], false⟩
noncomputable def B122 : Go.Code := Go.Proofs.Tryz.f122.body.get!
mutual
def vernierref06_Split.j0 : Nat → Int → Int → Int → Bool → Option (Bool × Bool × Int × Int × Int × Int × Int × Int × Int)
 | 0, _, _, _, _ => none
 | k + 1, x0, x1, x7, x23 => if x23 = true then (some (false, false, 0, 0, 0, 0, 0, 0, x7)) else ((vernierref06_String.f k x0 x1).bind fun t101 => (if 0 < (nI t101.size) then ((vernierref01_Text.f k x1 x0).bind fun t102 => (if 0 < (nI t102.size) then ((vernierref06_run.f k t101).bind fun t103 => (if (bt t101 0) = 49 then (vernierref06_Split.j1 k t101 ((bt t102 0) == 49) ((bt t101 0) == 49) t103 (wrap64 (t103 - 1))) else (vernierref06_Split.j1 k t101 ((bt t102 0) == 49) ((bt t101 0) == 49) t103 (wrap64 (-t103))))) else (none))) else (none)))
def vernierref06_Split.j1 : Nat → ByteArray → Bool → Bool → Int → Int → Option (Bool × Bool × Int × Int × Int × Int × Int × Int × Int)
 | 0, _, _, _, _, _ => none
 | k + 1, x8, x9000, x9001, x9002, x9003 => if x9002 < (nI x8.size) then (if 0 ≤ (wrap64 (x9002 + 1)) then (if (wrap64 (x9002 + 1)) ≤ (nI x8.size) then (vernierref06_Split.j2 k (x8.extract (((wrap64 (x9002 + 1)) : Int).toNat) x8.size) x9000 x9001 x9002 x9003) else (none)) else (none)) else (vernierref06_Split.j2 k (⟨#[]⟩ : ByteArray) x9000 x9001 x9002 x9003)
def vernierref06_Split.j2 : Nat → ByteArray → Bool → Bool → Int → Int → Option (Bool × Bool × Int × Int × Int × Int × Int × Int × Int)
 | 0, _, _, _, _, _ => none
 | k + 1, x10, x9000, x9001, x9002, x9003 => if (nI x10.size) > 2 then (if 2 ≤ (nI x10.size) then (if (((x10.extract 0 2).size) + 2) ≤ 9223372036854775807 then (if 2 ≤ (nI (((x10.extract 0 2) ++ (⟨#[48, 48]⟩ : ByteArray)).size)) then ((vernierref01_Number.f k (((x10.extract 0 2) ++ (⟨#[48, 48]⟩ : ByteArray)).extract 0 2)).bind fun t104 => ((vernierref01_Number.f k (x10.extract 2 x10.size)).bind fun t105 => (some (x9000, x9001, x9002, x9003, 2, wrap64 t104, wrap64 ((nI x10.size) - 2), t105, 0)))) else (none)) else (none)) else (none)) else (if (nI x10.size) ≤ (nI x10.size) then (if (((x10.extract 0 (((nI x10.size) : Int).toNat)).size) + 2) ≤ 9223372036854775807 then (if 2 ≤ (nI (((x10.extract 0 (((nI x10.size) : Int).toNat)) ++ (⟨#[48, 48]⟩ : ByteArray)).size)) then ((vernierref01_Number.f k (((x10.extract 0 (((nI x10.size) : Int).toNat)) ++ (⟨#[48, 48]⟩ : ByteArray)).extract 0 2)).bind fun t106 => ((vernierref01_Number.f k (x10.extract (((nI x10.size) : Int).toNat) x10.size)).bind fun t107 => (some (x9000, x9001, x9002, x9003, nI x10.size, wrap64 t106, wrap64 ((nI x10.size) - (nI x10.size)), t107, 0)))) else (none)) else (none)) else (none))
end
def vernierref06_Split.f (k : Nat) (a0 : Int) (a1 : Int) : Option (Bool × Bool × Int × Int × Int × Int × Int × Int × Int) := (vernierref05_Kind.f k a0 a1).bind fun t100 => (if t100.2 = 0 then (vernierref06_Split.j0 k a0 a1 t100.2 (t100.1 != 1)) else (vernierref06_Split.j0 k a0 a1 t100.2 true))
--@ok
def vernierref06_Split.j2R (k : Nat) (x10 : ByteArray) (x9000 : Bool) (x9001 : Bool) (x9002 : Int) (x9003 : Int) : Option (Bool × Bool × Int × Int × Int × Int × Int × Int × Int) := if (nI x10.size) > 2 then (if 2 ≤ (nI x10.size) then (if (((x10.extract 0 2).size) + 2) ≤ 9223372036854775807 then (if 2 ≤ (nI (((x10.extract 0 2) ++ (⟨#[48, 48]⟩ : ByteArray)).size)) then ((vernierref01_Number.f k (((x10.extract 0 2) ++ (⟨#[48, 48]⟩ : ByteArray)).extract 0 2)).bind fun t104 => (if 2 ≤ (nI x10.size) then ((vernierref01_Number.f k (x10.extract 2 x10.size)).bind fun t105 => (some (x9000, x9001, x9002, x9003, 2, wrap64 t104, wrap64 ((nI x10.size) - 2), t105, 0))) else (none))) else (none)) else (none)) else (none)) else (if (nI x10.size) ≤ (nI x10.size) then (if (((x10.extract 0 (((nI x10.size) : Int).toNat)).size) + 2) ≤ 9223372036854775807 then (if 2 ≤ (nI (((x10.extract 0 (((nI x10.size) : Int).toNat)) ++ (⟨#[48, 48]⟩ : ByteArray)).size)) then ((vernierref01_Number.f k (((x10.extract 0 (((nI x10.size) : Int).toNat)) ++ (⟨#[48, 48]⟩ : ByteArray)).extract 0 2)).bind fun t106 => (if (nI x10.size) ≤ (nI x10.size) then ((vernierref01_Number.f k (x10.extract (((nI x10.size) : Int).toNat) x10.size)).bind fun t107 => (some (x9000, x9001, x9002, x9003, nI x10.size, wrap64 t106, wrap64 ((nI x10.size) - (nI x10.size)), t107, 0))) else (none))) else (none)) else (none)) else (none))
theorem vernierref06_Split.j2E (k : Nat) (x10 : ByteArray) (x9000 : Bool) (x9001 : Bool) (x9002 : Int) (x9003 : Int) : vernierref06_Split.j2R k x10 x9000 x9001 x9002 x9003 = vernierref06_Split.j2 (k + 1) x10 x9000 x9001 x9002 x9003 := by
  unfold vernierref06_Split.j2R
  rw [vernierref06_Split.j2]
  exact iteC (fun h0 => iteC (fun h1 => iteC (fun h2 => iteC (fun h3 => bindC fun _ => (if_pos h1).trans (bindC fun _ => rfl)) (fun h3 => rfl)) (fun h2 => rfl)) (fun h1 => rfl)) (fun h0 => iteC (fun h1 => iteC (fun h2 => iteC (fun h3 => bindC fun _ => (if_pos h1).trans (bindC fun _ => rfl)) (fun h3 => rfl)) (fun h2 => rfl)) (fun h1 => rfl))
noncomputable def vernierref06_Split.c (k : Nat) : Con := S122.con fun x => vernierref06_Split.f k x.1 x.2
noncomputable def vernierref06_Split.G (k : Nat) : List (Go.FuncId × Con) := [(121, vernierref05_Kind.c k), (123, vernierref01_Text.c k), (124, vernierref01_Number.c k), (159, vernierref06_String.c k), (160, vernierref06_run.c k)]
noncomputable def vernierref06_Split.cuts : List (Cut (TT S122.sb)) := [⟨[1, 0, 1, 1], [.sc 0 (.int .i64), .sc 1 (.int .u64), .sc 7 (.int .i64), .sc 23 (.bool), .box 4 135 [.bool, .bool, .int .i64, .int .i64, .int .i64, .int .i64, .int .i64, .int .u64]], fun k x => vernierref06_Split.j0 k x.1 x.2.1 x.2.2.1 x.2.2.2.1⟩, ⟨[1, 1, 1, 1, 1, 1, 1], [.sc 8 (.str), .box 4 135 [.bool, .bool, .int .i64, .int .i64, .int .i64, .int .i64, .int .i64, .int .u64], .box 9 135 [.bool, .bool, .int .i64, .int .i64, .int .i64, .int .i64, .int .i64, .int .u64]], fun k x => vernierref06_Split.j1 k x.1 x.2.2.1 x.2.2.2.1 x.2.2.2.2.1 x.2.2.2.2.2.1⟩, ⟨[1, 1, 1, 1, 1, 1, 1, 1, 1], [.sc 10 (.str), .box 4 135 [.bool, .bool, .int .i64, .int .i64, .int .i64, .int .i64, .int .i64, .int .u64], .box 9 135 [.bool, .bool, .int .i64, .int .i64, .int .i64, .int .i64, .int .i64, .int .u64]], fun k x => vernierref06_Split.j2 k x.1 x.2.2.1 x.2.2.2.1 x.2.2.2.2.1 x.2.2.2.2.2.1⟩]
theorem vernierref06_Split.w0 (k : Nat) (x : ET [.sc 0 (.int .i64), .sc 1 (.int .u64), .sc 7 (.int .i64), .sc 23 (.bool), .box 4 135 [.bool, .bool, .int .i64, .int .i64, .int .i64, .int .i64, .int .i64, .int .u64]]) : walk E122 (vernierref06_Split.G k) (cutsAt k vernierref06_Split.cuts) (retE E122 Go.Proofs.Tryz.f122.results.toList S122) 4000 true (stackAt B122 [1, 0, 1, 1]) (mkE [.sc 0 (.int .i64), .sc 1 (.int .u64), .sc 7 (.int .i64), .sc 23 (.bool), .box 4 135 [.bool, .bool, .int .i64, .int .i64, .int .i64, .int .i64, .int .i64, .int .u64]] x St.nil) = vernierref06_Split.j0 (k + 1) x.1 x.2.1 x.2.2.1 x.2.2.2.1 := by kernel_rfl
theorem vernierref06_Split.w1 (k : Nat) (x : ET [.sc 8 (.str), .box 4 135 [.bool, .bool, .int .i64, .int .i64, .int .i64, .int .i64, .int .i64, .int .u64], .box 9 135 [.bool, .bool, .int .i64, .int .i64, .int .i64, .int .i64, .int .i64, .int .u64]]) : walk E122 (vernierref06_Split.G k) (cutsAt k vernierref06_Split.cuts) (retE E122 Go.Proofs.Tryz.f122.results.toList S122) 4000 true (stackAt B122 [1, 1, 1, 1, 1, 1, 1]) (mkE [.sc 8 (.str), .box 4 135 [.bool, .bool, .int .i64, .int .i64, .int .i64, .int .i64, .int .i64, .int .u64], .box 9 135 [.bool, .bool, .int .i64, .int .i64, .int .i64, .int .i64, .int .i64, .int .u64]] x St.nil) = vernierref06_Split.j1 (k + 1) x.1 x.2.2.1 x.2.2.2.1 x.2.2.2.2.1 x.2.2.2.2.2.1 := by kernel_rfl
theorem vernierref06_Split.w2 (k : Nat) (x : ET [.sc 10 (.str), .box 4 135 [.bool, .bool, .int .i64, .int .i64, .int .i64, .int .i64, .int .i64, .int .u64], .box 9 135 [.bool, .bool, .int .i64, .int .i64, .int .i64, .int .i64, .int .i64, .int .u64]]) : walk E122 (vernierref06_Split.G k) (cutsAt k vernierref06_Split.cuts) (retE E122 Go.Proofs.Tryz.f122.results.toList S122) 4000 true (stackAt B122 [1, 1, 1, 1, 1, 1, 1, 1, 1]) (mkE [.sc 10 (.str), .box 4 135 [.bool, .bool, .int .i64, .int .i64, .int .i64, .int .i64, .int .i64, .int .u64], .box 9 135 [.bool, .bool, .int .i64, .int .i64, .int .i64, .int .i64, .int .i64, .int .u64]] x St.nil) = vernierref06_Split.j2 (k + 1) x.1 x.2.2.1 x.2.2.2.1 x.2.2.2.2.1 x.2.2.2.2.2.1 := Eq.trans (b := vernierref06_Split.j2R k x.1 x.2.2.1 x.2.2.2.1 x.2.2.2.2.1 x.2.2.2.2.2.1) (by kernel_rfl) (vernierref06_Split.j2E k x.1 x.2.2.1 x.2.2.2.1 x.2.2.2.2.1 x.2.2.2.2.2.1)
theorem vernierref06_Split.w (k : Nat) (x : TT S122.sa) : walk E122 (vernierref06_Split.G k) (cutsAt k vernierref06_Split.cuts) (retE E122 Go.Proofs.Tryz.f122.results.toList S122) 4000 true [([], .code B122)] (St0 S122 x) = vernierref06_Split.f k x.1 x.2 := by kernel_rfl
theorem vernierref06_Split.ok (k : Nat) : FnOk Go.Proofs.Tryz.prog E122.eT 122 (vernierref06_Split.c k) := FnOk.walk (E := E122) (body := B122) Go.Proofs.Tryz.func122 rfl (by rfl) Go.Proofs.Tryz.ntmps122 S122 rfl (fun k x => vernierref06_Split.f k x.1 x.2) vernierref06_Split.G (fun k => ⟨vernierref05_Kind.ok k, vernierref01_Text.ok k, vernierref01_Number.ok k, vernierref06_String.ok k, vernierref06_run.ok k, trivial⟩) 4000 vernierref06_Split.cuts ⟨⟨fun _ => rfl, fun k x q h => (vernierref06_Split.w0 k x).trans h⟩, ⟨fun _ => rfl, fun k x q h => (vernierref06_Split.w1 k x).trans h⟩, ⟨fun _ => rfl, fun k x q h => (vernierref06_Split.w2 k x).trans h⟩, trivial⟩ (fun k x r h => (vernierref06_Split.w k x).trans h) k
noncomputable def E92 : En := ⟨Go.Proofs.Tryz.prog, 156, Go.Proofs.Tryz.f92.ntmps⟩
noncomputable def S92 : Sig := ⟨[.s, .s], [(.int .i64), (.int .u64)], true, [.g 4, .s], [(.int .i64), .bool, (.int .i64), (.int .u64), (.int .i64)], false⟩
noncomputable def B92 : Go.Code := Go.Proofs.Tryz.f92.body.get!
mutual
def vernierref06_Decodes.j0 : Nat → Int → Int → Int → Int → Bool → Option (Int × Bool × Int × Int × Int)
 | 0, _, _, _, _, _ => none
 | k + 1, x0, x1, x6, x7, x23 => if x23 = true then (some (x6, false, 0, 0, x7)) else ((vernierref06_Split.f k x0 x1).bind fun t101 => ((vernierref01_Text.f k t101.2.2.2.2.2.2.2.1 t101.2.2.2.2.2.2.1).bind fun t102 => (if (1 + t102.size) ≤ 9223372036854775807 then (vernierref06_Decodes.l0 k ((⟨#[49]⟩ : ByteArray) ++ t102) x6 t101.1 (wrap64 ((wrap64 (4 * t101.2.2.2.1)) + t101.2.2.2.2.2.1))) else (none))))
def vernierref06_Decodes.l0 : Nat → ByteArray → Int → Bool → Int → Option (Int × Bool × Int × Int × Int)
 | 0, _, _, _, _ => none
 | k + 1, x11, x10000, x10001, x10002 => if (nI x11.size) < 64 then (if x11.size < 9223372036854775807 then (vernierref06_Decodes.l0 k (x11 ++ (⟨#[48]⟩ : ByteArray)) x10000 x10001 x10002) else (none)) else ((vernierref01_Number.f k x11).bind fun t103 => (some (x10000, x10001, x10002, t103, 0)))
end
def vernierref06_Decodes.f (k : Nat) (a0 : Int) (a1 : Int) : Option (Int × Bool × Int × Int × Int) := (vernierref05_Kind.f k a0 a1).bind fun t100 => (if t100.2 = 0 then (vernierref06_Decodes.j0 k a0 a1 t100.1 t100.2 (t100.1 != 1)) else (vernierref06_Decodes.j0 k a0 a1 t100.1 t100.2 true))
--@ok
noncomputable def vernierref06_Decodes.c (k : Nat) : Con := S92.con fun x => vernierref06_Decodes.f k x.1 x.2
noncomputable def vernierref06_Decodes.G (k : Nat) : List (Go.FuncId × Con) := [(121, vernierref05_Kind.c k), (122, vernierref06_Split.c k), (123, vernierref01_Text.c k), (124, vernierref01_Number.c k)]
noncomputable def vernierref06_Decodes.cuts : List (Cut (TT S92.sb)) := [⟨[1, 0, 1, 1], [.sc 0 (.int .i64), .sc 1 (.int .u64), .sc 6 (.int .i64), .sc 7 (.int .i64), .sc 23 (.bool), .box 4 72 [.int .i64, .bool, .int .i64, .int .u64]], fun k x => vernierref06_Decodes.j0 k x.1 x.2.1 x.2.2.1 x.2.2.2.1 x.2.2.2.2.1⟩, ⟨[6, 4, 0, 1, 1, 1, 1, 1, 1], [.sc 11 (.str), .box 4 72 [.int .i64, .bool, .int .i64, .int .u64], .box 10 72 [.int .i64, .bool, .int .i64, .int .u64]], fun k x => vernierref06_Decodes.l0 k x.1 x.2.2.1 x.2.2.2.1 x.2.2.2.2.1⟩]
theorem vernierref06_Decodes.w0 (k : Nat) (x : ET [.sc 0 (.int .i64), .sc 1 (.int .u64), .sc 6 (.int .i64), .sc 7 (.int .i64), .sc 23 (.bool), .box 4 72 [.int .i64, .bool, .int .i64, .int .u64]]) : walk E92 (vernierref06_Decodes.G k) (cutsAt k vernierref06_Decodes.cuts) (retE E92 Go.Proofs.Tryz.f92.results.toList S92) 4000 true (stackAt B92 [1, 0, 1, 1]) (mkE [.sc 0 (.int .i64), .sc 1 (.int .u64), .sc 6 (.int .i64), .sc 7 (.int .i64), .sc 23 (.bool), .box 4 72 [.int .i64, .bool, .int .i64, .int .u64]] x St.nil) = vernierref06_Decodes.j0 (k + 1) x.1 x.2.1 x.2.2.1 x.2.2.2.1 x.2.2.2.2.1 := by kernel_rfl
theorem vernierref06_Decodes.w1 (k : Nat) (x : ET [.sc 11 (.str), .box 4 72 [.int .i64, .bool, .int .i64, .int .u64], .box 10 72 [.int .i64, .bool, .int .i64, .int .u64]]) : walk E92 (vernierref06_Decodes.G k) (cutsAt k vernierref06_Decodes.cuts) (retE E92 Go.Proofs.Tryz.f92.results.toList S92) 4000 true (stackAt B92 [6, 4, 0, 1, 1, 1, 1, 1, 1]) (mkE [.sc 11 (.str), .box 4 72 [.int .i64, .bool, .int .i64, .int .u64], .box 10 72 [.int .i64, .bool, .int .i64, .int .u64]] x St.nil) = vernierref06_Decodes.l0 (k + 1) x.1 x.2.2.1 x.2.2.2.1 x.2.2.2.2.1 := by kernel_rfl
theorem vernierref06_Decodes.w (k : Nat) (x : TT S92.sa) : walk E92 (vernierref06_Decodes.G k) (cutsAt k vernierref06_Decodes.cuts) (retE E92 Go.Proofs.Tryz.f92.results.toList S92) 4000 true [([], .code B92)] (St0 S92 x) = vernierref06_Decodes.f k x.1 x.2 := by kernel_rfl
theorem vernierref06_Decodes.ok (k : Nat) : FnOk Go.Proofs.Tryz.prog E92.eT 92 (vernierref06_Decodes.c k) := FnOk.walk (E := E92) (body := B92) Go.Proofs.Tryz.func92 rfl (by rfl) Go.Proofs.Tryz.ntmps92 S92 rfl (fun k x => vernierref06_Decodes.f k x.1 x.2) vernierref06_Decodes.G (fun k => ⟨vernierref05_Kind.ok k, vernierref06_Split.ok k, vernierref01_Text.ok k, vernierref01_Number.ok k, trivial⟩) 4000 vernierref06_Decodes.cuts ⟨⟨fun _ => rfl, fun k x q h => (vernierref06_Decodes.w0 k x).trans h⟩, ⟨fun _ => rfl, fun k x q h => (vernierref06_Decodes.w1 k x).trans h⟩, trivial⟩ (fun k x r h => (vernierref06_Decodes.w k x).trans h) k
noncomputable def E64 : En := ⟨Go.Proofs.Tryz.prog, 156, Go.Proofs.Tryz.f64.ntmps⟩
noncomputable def S64 : Sig := ⟨[.s, .s], [(.int .i64), (.int .u64)], false, [.g 4], [(.int .i64), .bool, (.int .i64), (.int .u64)], false⟩
noncomputable def B64 : Go.Code := Go.Proofs.Tryz.f64.body.get!
def vernierref06_Decode.f (k : Nat) (a0 : Int) (a1 : Int) : Option (Int × Bool × Int × Int) := (vernierref06_Decodes.f k a0 a1).bind fun t100 => (some (t100.1, t100.2.1, t100.2.2.1, t100.2.2.2.1))
--@ok
noncomputable def vernierref06_Decode.c (k : Nat) : Con := S64.con fun x => vernierref06_Decode.f k x.1 x.2
noncomputable def vernierref06_Decode.G (k : Nat) : List (Go.FuncId × Con) := [(92, vernierref06_Decodes.c k)]
noncomputable def vernierref06_Decode.cuts : List (Cut (TT S64.sb)) := []
theorem vernierref06_Decode.w (k : Nat) (x : TT S64.sa) : walk E64 (vernierref06_Decode.G k) (cutsAt k vernierref06_Decode.cuts) (retE E64 Go.Proofs.Tryz.f64.results.toList S64) 4000 true [([], .code B64)] (St0 S64 x) = vernierref06_Decode.f k x.1 x.2 := by kernel_rfl
theorem vernierref06_Decode.ok (k : Nat) : FnOk Go.Proofs.Tryz.prog E64.eT 64 (vernierref06_Decode.c k) := FnOk.walk (E := E64) (body := B64) Go.Proofs.Tryz.func64 rfl (by rfl) Go.Proofs.Tryz.ntmps64 S64 rfl (fun k x => vernierref06_Decode.f k x.1 x.2) vernierref06_Decode.G (fun k => ⟨vernierref06_Decodes.ok k, trivial⟩) 4000 vernierref06_Decode.cuts trivial (fun k x r h => (vernierref06_Decode.w k x).trans h) k
noncomputable def E79 : En := ⟨Go.Proofs.Tryz.prog, 156, Go.Proofs.Tryz.f79.ntmps⟩
noncomputable def S79 : Sig := ⟨[.s, .s], [(.int .i64), (.int .u64)], false, [.s], [(.int .u64)], false⟩
noncomputable def B79 : Go.Code := Go.Proofs.Tryz.f79.body.get!
def vernierref06_Fold.f (k : Nat) (a0 : Int) (a1 : Int) : Option (Int) := (vernierref05_Fold.f k a0 a1).bind fun t100 => (some t100.1)
--@ok
noncomputable def vernierref06_Fold.c (k : Nat) : Con := S79.con fun x => vernierref06_Fold.f k x.1 x.2
noncomputable def vernierref06_Fold.G (k : Nat) : List (Go.FuncId × Con) := [(114, vernierref05_Fold.c k)]
noncomputable def vernierref06_Fold.cuts : List (Cut (TT S79.sb)) := []
theorem vernierref06_Fold.w (k : Nat) (x : TT S79.sa) : walk E79 (vernierref06_Fold.G k) (cutsAt k vernierref06_Fold.cuts) (retE E79 Go.Proofs.Tryz.f79.results.toList S79) 4000 true [([], .code B79)] (St0 S79 x) = vernierref06_Fold.f k x.1 x.2 := by kernel_rfl
theorem vernierref06_Fold.ok (k : Nat) : FnOk Go.Proofs.Tryz.prog E79.eT 79 (vernierref06_Fold.c k) := FnOk.walk (E := E79) (body := B79) Go.Proofs.Tryz.func79 rfl (by rfl) Go.Proofs.Tryz.ntmps79 S79 rfl (fun k x => vernierref06_Fold.f k x.1 x.2) vernierref06_Fold.G (fun k => ⟨vernierref05_Fold.ok k, trivial⟩) 4000 vernierref06_Fold.cuts trivial (fun k x r h => (vernierref06_Fold.w k x).trans h) k
noncomputable def E25 : En := ⟨Go.Proofs.Tryz.prog, 156, Go.Proofs.Tryz.f25.ntmps⟩
noncomputable def S25 : Sig := ⟨[.s, .s], [(.int .i64), (.int .u64)], false, [.s], [(.int .u64)], false⟩
noncomputable def B25 : Go.Code := Go.Proofs.Tryz.f25.body.get!
def vernierref06_Neg.f (k : Nat) (a0 : Int) (a1 : Int) : Option (Int) := (vernierref06_Fold.f k a0 (IntKind.u64.wrap (-a1))).bind fun t100 => (some t100)
--@ok
noncomputable def vernierref06_Neg.c (k : Nat) : Con := S25.con fun x => vernierref06_Neg.f k x.1 x.2
noncomputable def vernierref06_Neg.G (k : Nat) : List (Go.FuncId × Con) := [(79, vernierref06_Fold.c k)]
noncomputable def vernierref06_Neg.cuts : List (Cut (TT S25.sb)) := []
theorem vernierref06_Neg.w (k : Nat) (x : TT S25.sa) : walk E25 (vernierref06_Neg.G k) (cutsAt k vernierref06_Neg.cuts) (retE E25 Go.Proofs.Tryz.f25.results.toList S25) 4000 true [([], .code B25)] (St0 S25 x) = vernierref06_Neg.f k x.1 x.2 := by kernel_rfl
theorem vernierref06_Neg.ok (k : Nat) : FnOk Go.Proofs.Tryz.prog E25.eT 25 (vernierref06_Neg.c k) := FnOk.walk (E := E25) (body := B25) Go.Proofs.Tryz.func25 rfl (by rfl) Go.Proofs.Tryz.ntmps25 S25 rfl (fun k x => vernierref06_Neg.f k x.1 x.2) vernierref06_Neg.G (fun k => ⟨vernierref06_Fold.ok k, trivial⟩) 4000 vernierref06_Neg.cuts trivial (fun k x r h => (vernierref06_Neg.w k x).trans h) k
end Go.Proofs.YtnjhblakghjdoaaGreat.Fn
set_option maxRecDepth 100000
set_option linter.unusedVariables false
noncomputable section
namespace Go.Proofs.YtnjhblakghjdoaaGreat.Fn
open Go Go.RowKit Go.Proofs.YtnjhblakghjdoaaGreat.Ab
noncomputable def E105 : En := ⟨Go.Proofs.Tryz.prog, 156, Go.Proofs.Tryz.f105.ntmps⟩
noncomputable def S105 : Sig := ⟨[.g 6], [(.int .i64), .bool, (.int .i64), (.int .u64), (.int .u64), .bool], false, [.s], [.bool], false⟩
noncomputable def B105 : Go.Code := Go.Proofs.Tryz.f105.body.get!
def vernierref07_Sound.f (a0_0 : Int) (a0_1 : Bool) (a0_2 : Int) (a0_3 : Int) (a0_4 : Int) (a0_5 : Bool) : Option (Bool) := if a0_0 = 0 then (some ((a0_0 == a0_0) && ((!a0_1) && ((a0_2 == 0) && ((a0_3 == 0) && ((a0_4 == 0) && (!a0_5))))))) else (if a0_0 = 2 then (some ((a0_0 == a0_0) && ((!a0_1) && ((a0_2 == 0) && ((a0_3 == 0) && ((a0_4 == 0) && (!a0_5))))))) else (if a0_0 = 1 then (if a0_3 ≥ 9223372036854775808 then (if a0_2 ≥ (-1099511627776) then (some (decide (a0_2 ≤ 1099511627776))) else (some false)) else (some false)) else (some false)))
--@ok
noncomputable def vernierref07_Sound.c : Con := S105.con fun x => vernierref07_Sound.f x.1 x.2.1 x.2.2.1 x.2.2.2.1 x.2.2.2.2.1 x.2.2.2.2.2
noncomputable def vernierref07_Sound.G (k : Nat) : List (Go.FuncId × Con) := []
noncomputable def vernierref07_Sound.cuts : List (Cut (TT S105.sb)) := []
theorem vernierref07_Sound.w (k : Nat) (x : TT S105.sa) : walk E105 (vernierref07_Sound.G k) (cutsAt k vernierref07_Sound.cuts) (retE E105 Go.Proofs.Tryz.f105.results.toList S105) 4000 true [([], .code B105)] (St0 S105 x) = vernierref07_Sound.f x.1 x.2.1 x.2.2.1 x.2.2.2.1 x.2.2.2.2.1 x.2.2.2.2.2 := by kernel_rfl
theorem vernierref07_Sound.ok : FnOk Go.Proofs.Tryz.prog E105.eT 105 (vernierref07_Sound.c) := FnOk.walk (E := E105) (body := B105) Go.Proofs.Tryz.func105 rfl (by rfl) Go.Proofs.Tryz.ntmps105 S105 rfl (fun k x => vernierref07_Sound.f x.1 x.2.1 x.2.2.1 x.2.2.2.1 x.2.2.2.2.1 x.2.2.2.2.2) vernierref07_Sound.G (fun k => trivial) 4000 vernierref07_Sound.cuts trivial (fun k x r h => (vernierref07_Sound.w k x).trans h) 0
noncomputable def E161 : En := ⟨Go.Proofs.Tryz.prog, 156, Go.Proofs.Tryz.f161.ntmps⟩
noncomputable def S161 : Sig := ⟨[.s], [.str], false, [.s], [.bool], false⟩
noncomputable def B161 : Go.Code := Go.Proofs.Tryz.f161.body.get!
def vernierref07_some.l0 : Nat → ByteArray → Int → Option (Bool)
 | 0, _, _ => none
 | k + 1, x0, x3 => if x3 < (nI x0.size) then (if 0 ≤ x3 then (if (bt x0 x3) = 49 then (some true) else (vernierref07_some.l0 k x0 (wrap64 (x3 + 1)))) else (none)) else (some false)
def vernierref07_some.f (k : Nat) (a0 : ByteArray) : Option (Bool) := vernierref07_some.l0 k a0 0
--@ok
def vernierref07_some.l0R (k : Nat) (x0 : ByteArray) (x3 : Int) : Option (Bool) := if x3 < (nI x0.size) then (if 0 ≤ x3 then (if x3 < (nI x0.size) then (if (bt x0 x3) = 49 then (some true) else (vernierref07_some.l0 k x0 (wrap64 (x3 + 1)))) else (none)) else (none)) else (some false)
theorem vernierref07_some.l0E (k : Nat) (x0 : ByteArray) (x3 : Int) : vernierref07_some.l0R k x0 x3 = vernierref07_some.l0 (k + 1) x0 x3 := by
  unfold vernierref07_some.l0R
  rw [vernierref07_some.l0]
  exact iteC (fun h0 => iteC (fun h1 => (if_pos h0).trans (iteC (fun h2 => rfl) (fun h2 => rfl))) (fun h1 => rfl)) (fun h0 => rfl)
noncomputable def vernierref07_some.c (k : Nat) : Con := S161.con fun x => vernierref07_some.f k x
noncomputable def vernierref07_some.G (k : Nat) : List (Go.FuncId × Con) := []
noncomputable def vernierref07_some.cuts : List (Cut (TT S161.sb)) := [⟨[6, 4, 1, 0, 1], [.sc 0 (.str), .sc 3 (.int .i64)], fun k x => vernierref07_some.l0 k x.1 x.2⟩]
theorem vernierref07_some.w0 (k : Nat) (x : ET [.sc 0 (.str), .sc 3 (.int .i64)]) : walk E161 (vernierref07_some.G k) (cutsAt k vernierref07_some.cuts) (retE E161 Go.Proofs.Tryz.f161.results.toList S161) 4000 true (stackAt B161 [6, 4, 1, 0, 1]) (mkE [.sc 0 (.str), .sc 3 (.int .i64)] x St.nil) = vernierref07_some.l0 (k + 1) x.1 x.2 := Eq.trans (b := vernierref07_some.l0R k x.1 x.2) (by kernel_rfl) (vernierref07_some.l0E k x.1 x.2)
theorem vernierref07_some.w (k : Nat) (x : TT S161.sa) : walk E161 (vernierref07_some.G k) (cutsAt k vernierref07_some.cuts) (retE E161 Go.Proofs.Tryz.f161.results.toList S161) 4000 true [([], .code B161)] (St0 S161 x) = vernierref07_some.f k x := by kernel_rfl
theorem vernierref07_some.ok (k : Nat) : FnOk Go.Proofs.Tryz.prog E161.eT 161 (vernierref07_some.c k) := FnOk.walk (E := E161) (body := B161) Go.Proofs.Tryz.func161 rfl (by rfl) Go.Proofs.Tryz.ntmps161 S161 rfl (fun k x => vernierref07_some.f k x) vernierref07_some.G (fun k => trivial) 4000 vernierref07_some.cuts ⟨⟨fun _ => rfl, fun k x q h => (vernierref07_some.w0 k x).trans h⟩, trivial⟩ (fun k x r h => (vernierref07_some.w k x).trans h) k
noncomputable def E181 : En := ⟨Go.Proofs.Tryz.prog, 156, Go.Proofs.Tryz.f181.ntmps⟩
noncomputable def S181 : Sig := ⟨[.s], [(.int .i64)], false, [.s], [(.int .i64)], false⟩
noncomputable def B181 : Go.Code := Go.Proofs.Tryz.f181.body.get!
def vernierref06_regime.f (a0 : Int) : Option (Int) := if (wrap64 (4 * (wrap64 (Int.tdiv a0 4)))) > a0 then (some (wrap64 ((wrap64 (Int.tdiv a0 4)) - 1))) else (some (wrap64 (Int.tdiv a0 4)))
--@ok
noncomputable def vernierref06_regime.c : Con := S181.con fun x => vernierref06_regime.f x
noncomputable def vernierref06_regime.G (k : Nat) : List (Go.FuncId × Con) := []
noncomputable def vernierref06_regime.cuts : List (Cut (TT S181.sb)) := []
theorem vernierref06_regime.w (k : Nat) (x : TT S181.sa) : walk E181 (vernierref06_regime.G k) (cutsAt k vernierref06_regime.cuts) (retE E181 Go.Proofs.Tryz.f181.results.toList S181) 4000 true [([], .code B181)] (St0 S181 x) = vernierref06_regime.f x := by kernel_rfl
theorem vernierref06_regime.ok : FnOk Go.Proofs.Tryz.prog E181.eT 181 (vernierref06_regime.c) := FnOk.walk (E := E181) (body := B181) Go.Proofs.Tryz.func181 rfl (by rfl) Go.Proofs.Tryz.ntmps181 S181 rfl (fun k x => vernierref06_regime.f x) vernierref06_regime.G (fun k => trivial) 4000 vernierref06_regime.cuts trivial (fun k x r h => (vernierref06_regime.w k x).trans h) 0
noncomputable def E162 : En := ⟨Go.Proofs.Tryz.prog, 156, Go.Proofs.Tryz.f162.ntmps⟩
noncomputable def S162 : Sig := ⟨[.s], [(.int .i64)], false, [.s], [.str], false⟩
noncomputable def B162 : Go.Code := Go.Proofs.Tryz.f162.body.get!
mutual
def vernierref06_Head.l0 : Nat → Int → Int → List Int → Int → Option (ByteArray)
 | 0, _, _, _, _ => none
 | k + 1, x0, x3, x4, x5 => if x5 ≤ x3 then (if x4.length < 140737488355328 then (vernierref06_Head.l0 k x0 x3 (x4 ++ ([49] : List Int)) (wrap64 (x5 + 1))) else (none)) else (vernierref06_Head.l1 k x0 x3 x4 0)
def vernierref06_Head.l1 : Nat → Int → Int → List Int → Int → Option (ByteArray)
 | 0, _, _, _, _ => none
 | k + 1, x0, x3, x4, x6 => if x6 > x3 then (if x4.length < 140737488355328 then (vernierref06_Head.l1 k x0 x3 (x4 ++ ([48] : List Int)) (wrap64 (x6 - 1))) else (none)) else (if x3 ≥ 0 then (if x4.length < 140737488355328 then ((vernierref01_Text.f k (IntKind.u64.wrap (wrap64 (x0 - (wrap64 (4 * x3))))) 2).bind fun t101 => (if (((strOfNums (x4 ++ ([48] : List Int))).size) + t101.size) ≤ 9223372036854775807 then (some ((strOfNums (x4 ++ ([48] : List Int))) ++ t101)) else (none))) else (none)) else (if x4.length < 140737488355328 then ((vernierref01_Text.f k (IntKind.u64.wrap (wrap64 (x0 - (wrap64 (4 * x3))))) 2).bind fun t102 => (if (((strOfNums (x4 ++ ([49] : List Int))).size) + t102.size) ≤ 9223372036854775807 then (some ((strOfNums (x4 ++ ([49] : List Int))) ++ t102)) else (none))) else (none)))
end
def vernierref06_Head.f (k : Nat) (a0 : Int) : Option (ByteArray) := (vernierref06_regime.f a0).bind fun t100 => (vernierref06_Head.l0 k a0 t100 ([] : List Int) 0)
--@ok
noncomputable def vernierref06_Head.c (k : Nat) : Con := S162.con fun x => vernierref06_Head.f k x
noncomputable def vernierref06_Head.G (k : Nat) : List (Go.FuncId × Con) := [(123, vernierref01_Text.c k), (181, vernierref06_regime.c)]
noncomputable def vernierref06_Head.cuts : List (Cut (TT S162.sb)) := [⟨[6, 4, 1, 0, 1, 1, 1], [.sc 0 (.int .i64), .sc 3 (.int .i64), .lst 4 .u8 5, .sc 5 (.int .i64)], fun k x => vernierref06_Head.l0 k x.1 x.2.1 x.2.2.1 x.2.2.2⟩, ⟨[6, 4, 1, 0, 1, 1, 1, 1], [.sc 0 (.int .i64), .sc 3 (.int .i64), .lst 4 .u8 5, .sc 6 (.int .i64)], fun k x => vernierref06_Head.l1 k x.1 x.2.1 x.2.2.1 x.2.2.2⟩]
theorem vernierref06_Head.w0 (k : Nat) (x : ET [.sc 0 (.int .i64), .sc 3 (.int .i64), .lst 4 .u8 5, .sc 5 (.int .i64)]) : walk E162 (vernierref06_Head.G k) (cutsAt k vernierref06_Head.cuts) (retE E162 Go.Proofs.Tryz.f162.results.toList S162) 4000 true (stackAt B162 [6, 4, 1, 0, 1, 1, 1]) (mkE [.sc 0 (.int .i64), .sc 3 (.int .i64), .lst 4 .u8 5, .sc 5 (.int .i64)] x St.nil) = vernierref06_Head.l0 (k + 1) x.1 x.2.1 x.2.2.1 x.2.2.2 := by kernel_rfl
theorem vernierref06_Head.w1 (k : Nat) (x : ET [.sc 0 (.int .i64), .sc 3 (.int .i64), .lst 4 .u8 5, .sc 6 (.int .i64)]) : walk E162 (vernierref06_Head.G k) (cutsAt k vernierref06_Head.cuts) (retE E162 Go.Proofs.Tryz.f162.results.toList S162) 4000 true (stackAt B162 [6, 4, 1, 0, 1, 1, 1, 1]) (mkE [.sc 0 (.int .i64), .sc 3 (.int .i64), .lst 4 .u8 5, .sc 6 (.int .i64)] x St.nil) = vernierref06_Head.l1 (k + 1) x.1 x.2.1 x.2.2.1 x.2.2.2 := by kernel_rfl
theorem vernierref06_Head.w (k : Nat) (x : TT S162.sa) : walk E162 (vernierref06_Head.G k) (cutsAt k vernierref06_Head.cuts) (retE E162 Go.Proofs.Tryz.f162.results.toList S162) 4000 true [([], .code B162)] (St0 S162 x) = vernierref06_Head.f k x := by kernel_rfl
theorem vernierref06_Head.ok (k : Nat) : FnOk Go.Proofs.Tryz.prog E162.eT 162 (vernierref06_Head.c k) := FnOk.walk (E := E162) (body := B162) Go.Proofs.Tryz.func162 rfl (by rfl) Go.Proofs.Tryz.ntmps162 S162 rfl (fun k x => vernierref06_Head.f k x) vernierref06_Head.G (fun k => ⟨vernierref01_Text.ok k, vernierref06_regime.ok, trivial⟩) 4000 vernierref06_Head.cuts ⟨⟨fun _ => rfl, fun k x q h => (vernierref06_Head.w0 k x).trans h⟩, ⟨fun _ => rfl, fun k x q h => (vernierref06_Head.w1 k x).trans h⟩, trivial⟩ (fun k x r h => (vernierref06_Head.w k x).trans h) k
noncomputable def E163 : En := ⟨Go.Proofs.Tryz.prog, 156, Go.Proofs.Tryz.f163.ntmps⟩
noncomputable def S163 : Sig := ⟨[.s, .s], [.str, .bool], false, [.s], [(.int .i64)], false⟩
noncomputable def B163 : Go.Code := Go.Proofs.Tryz.f163.body.get!
mutual
def vernierref07_left.j0 : Nat → ByteArray → Bool → Option (Int)
 | 0, _, _ => none
 | k + 1, x0, x1 => if 1 ≤ (nI x0.size) then ((vernierref07_some.f k (x0.extract 1 x0.size)).bind fun t100 => (if 0 < (nI x0.size) then (if (bt x0 0) = 49 then (if t100 = true then (vernierref07_left.j1 k x0 x1 t100 true) else (vernierref07_left.j1 k x0 x1 t100 x1)) else (vernierref07_left.j1 k x0 x1 t100 false)) else (none))) else (none)
def vernierref07_left.j1 : Nat → ByteArray → Bool → Bool → Bool → Option (Int)
 | 0, _, _, _, _ => none
 | k + 1, x0, x1, x5, x11 => if x11 = true then (some 3) else (if 0 < (nI x0.size) then (if (bt x0 0) = 49 then (some 2) else (if x5 = true then (some 1) else (if x1 = true then (some 1) else (some 0)))) else (none))
end
def vernierref07_left.f (k : Nat) (a0 : ByteArray) (a1 : Bool) : Option (Int) := if (a0.toList == ([] : List UInt8)) = true then (vernierref07_left.j0 k (⟨#[48]⟩ : ByteArray) a1) else (vernierref07_left.j0 k a0 a1)
--@ok
noncomputable def vernierref07_left.c (k : Nat) : Con := S163.con fun x => vernierref07_left.f k x.1 x.2
noncomputable def vernierref07_left.G (k : Nat) : List (Go.FuncId × Con) := [(161, vernierref07_some.c k)]
noncomputable def vernierref07_left.cuts : List (Cut (TT S163.sb)) := [⟨[1, 1], [.sc 0 (.str), .sc 1 (.bool)], fun k x => vernierref07_left.j0 k x.1 x.2⟩, ⟨[1, 4, 0, 1, 1, 1], [.sc 0 (.str), .sc 1 (.bool), .sc 5 (.bool), .sc 11 (.bool)], fun k x => vernierref07_left.j1 k x.1 x.2.1 x.2.2.1 x.2.2.2⟩]
theorem vernierref07_left.w0 (k : Nat) (x : ET [.sc 0 (.str), .sc 1 (.bool)]) : walk E163 (vernierref07_left.G k) (cutsAt k vernierref07_left.cuts) (retE E163 Go.Proofs.Tryz.f163.results.toList S163) 4000 true (stackAt B163 [1, 1]) (mkE [.sc 0 (.str), .sc 1 (.bool)] x St.nil) = vernierref07_left.j0 (k + 1) x.1 x.2 := by kernel_rfl
theorem vernierref07_left.w1 (k : Nat) (x : ET [.sc 0 (.str), .sc 1 (.bool), .sc 5 (.bool), .sc 11 (.bool)]) : walk E163 (vernierref07_left.G k) (cutsAt k vernierref07_left.cuts) (retE E163 Go.Proofs.Tryz.f163.results.toList S163) 4000 true (stackAt B163 [1, 4, 0, 1, 1, 1]) (mkE [.sc 0 (.str), .sc 1 (.bool), .sc 5 (.bool), .sc 11 (.bool)] x St.nil) = vernierref07_left.j1 (k + 1) x.1 x.2.1 x.2.2.1 x.2.2.2 := by kernel_rfl
theorem vernierref07_left.w (k : Nat) (x : TT S163.sa) : walk E163 (vernierref07_left.G k) (cutsAt k vernierref07_left.cuts) (retE E163 Go.Proofs.Tryz.f163.results.toList S163) 4000 true [([], .code B163)] (St0 S163 x) = vernierref07_left.f k x.1 x.2 := by kernel_rfl
theorem vernierref07_left.ok (k : Nat) : FnOk Go.Proofs.Tryz.prog E163.eT 163 (vernierref07_left.c k) := FnOk.walk (E := E163) (body := B163) Go.Proofs.Tryz.func163 rfl (by rfl) Go.Proofs.Tryz.ntmps163 S163 rfl (fun k x => vernierref07_left.f k x.1 x.2) vernierref07_left.G (fun k => ⟨vernierref07_some.ok k, trivial⟩) 4000 vernierref07_left.cuts ⟨⟨fun _ => rfl, fun k x q h => (vernierref07_left.w0 k x).trans h⟩, ⟨fun _ => rfl, fun k x q h => (vernierref07_left.w1 k x).trans h⟩, trivial⟩ (fun k x r h => (vernierref07_left.w k x).trans h) k
noncomputable def E125 : En := ⟨Go.Proofs.Tryz.prog, 156, Go.Proofs.Tryz.f125.ntmps⟩
noncomputable def S125 : Sig := ⟨[.s, .g 6], [(.int .i64), (.int .i64), .bool, (.int .i64), (.int .u64), (.int .u64), .bool], true, [.s, .s, .s], [(.int .u64), (.int .i64), (.int .i64)], false⟩
noncomputable def B125 : Go.Code := Go.Proofs.Tryz.f125.body.get!
mutual
def vernierref07_Cut.j0 : Nat → Int → Option (Int × Int × Int)
 | 0, _ => none
 | k + 1, x9 => some (x9, 0, 0)
def vernierref07_Cut.j1 : Nat → Int → ByteArray → Bool → Int → Bool → Option (Int × Int × Int)
 | 0, _, _, _, _, _ => none
 | k + 1, x0, x10, x11, x3002, x3005 => if x3002 ≥ (wrap64 ((wrap64 (4 * x0)) - 8)) then ((vernierref05_Power.f k (wrap64 (x0 - 1))).bind fun t106 => (some (IntKind.u64.wrap (t106 - 1), 0, 0))) else (if x3002 < (wrap64 (-(wrap64 ((wrap64 (4 * x0)) - 8)))) then (vernierref07_Cut.j2 k x0 x10 true x3002 x3005) else (if x3002 = (wrap64 (-(wrap64 ((wrap64 (4 * x0)) - 8)))) then (vernierref07_Cut.j2 k x0 x10 x11 x3002 x3005) else (vernierref07_Cut.j2 k x0 x10 false x3002 x3005)))
def vernierref07_Cut.j2 : Nat → Int → ByteArray → Bool → Int → Bool → Option (Int × Int × Int)
 | 0, _, _, _, _, _ => none
 | k + 1, x0, x10, x73, x3002, x3005 => if x73 = true then (some (1, 0, 0)) else ((vernierref06_Head.f k x3002).bind fun t107 => (if (t107.size + x10.size) ≤ 9223372036854775807 then (if 0 ≤ (wrap64 (x0 - 1)) then (if (wrap64 (x0 - 1)) ≤ (nI ((t107 ++ x10).size)) then ((vernierref01_Number.f k ((t107 ++ x10).extract 0 (((wrap64 (x0 - 1)) : Int).toNat))).bind fun t108 => ((vernierref07_left.f k ((t107 ++ x10).extract (((wrap64 (x0 - 1)) : Int).toNat) ((t107 ++ x10).size)) x3005).bind fun t109 => (some (t108, t109, 0)))) else (none)) else (none)) else (none)))
end
def vernierref07_Cut.f (k : Nat) (a0 : Int) (a1_0 : Int) (a1_1 : Bool) (a1_2 : Int) (a1_3 : Int) (a1_4 : Int) (a1_5 : Bool) : Option (Int × Int × Int) := (vernierref05_Is.f a0).bind fun t100 => ((vernierref07_Sound.f a1_0 a1_1 a1_2 a1_3 a1_4 a1_5).bind fun t101 => (if t100 = true then (if t101 = true then (if a1_0 = 1 then ((vernierref01_Text.f k a1_3 64).bind fun t102 => (if 1 ≤ (nI t102.size) then ((vernierref01_Text.f k a1_4 64).bind fun t103 => (if (((t102.extract 1 t102.size).size) + t103.size) ≤ 9223372036854775807 then (if a1_5 = true then (vernierref07_Cut.j1 k a0 ((t102.extract 1 t102.size) ++ t103) false a1_2 a1_5) else ((vernierref07_some.f k ((t102.extract 1 t102.size) ++ t103)).bind fun t104 => (vernierref07_Cut.j1 k a0 ((t102.extract 1 t102.size) ++ t103) (!t104) a1_2 a1_5))) else (none))) else (none))) else (if a1_0 = 2 then ((vernierref05_Power.f k (wrap64 (a0 - 1))).bind fun t105 => (vernierref07_Cut.j0 k t105)) else (vernierref07_Cut.j0 k 0))) else (some (0, 0, 1))) else (some (0, 0, 2))))
--@ok
def vernierref07_Cut.j2R (k : Nat) (x0 : Int) (x10 : ByteArray) (x73 : Bool) (x3002 : Int) (x3005 : Bool) : Option (Int × Int × Int) := if x73 = true then (some (1, 0, 0)) else ((vernierref06_Head.f k x3002).bind fun t107 => (if (t107.size + x10.size) ≤ 9223372036854775807 then (if 0 ≤ (wrap64 (x0 - 1)) then (if (wrap64 (x0 - 1)) ≤ (nI ((t107 ++ x10).size)) then (if 0 ≤ (wrap64 (x0 - 1)) then (if (wrap64 (x0 - 1)) ≤ (nI ((t107 ++ x10).size)) then ((vernierref01_Number.f k ((t107 ++ x10).extract 0 (((wrap64 (x0 - 1)) : Int).toNat))).bind fun t108 => ((vernierref07_left.f k ((t107 ++ x10).extract (((wrap64 (x0 - 1)) : Int).toNat) ((t107 ++ x10).size)) x3005).bind fun t109 => (some (t108, t109, 0)))) else (none)) else (none)) else (none)) else (none)) else (none)))
theorem vernierref07_Cut.j2E (k : Nat) (x0 : Int) (x10 : ByteArray) (x73 : Bool) (x3002 : Int) (x3005 : Bool) : vernierref07_Cut.j2R k x0 x10 x73 x3002 x3005 = vernierref07_Cut.j2 (k + 1) x0 x10 x73 x3002 x3005 := by
  unfold vernierref07_Cut.j2R
  rw [vernierref07_Cut.j2]
  exact iteC (fun h0 => rfl) (fun h0 => bindC fun _ => iteC (fun h1 => iteC (fun h2 => iteC (fun h3 => (if_pos h2).trans ((if_pos h3).trans (bindC fun _ => bindC fun _ => rfl))) (fun h3 => rfl)) (fun h2 => rfl)) (fun h1 => rfl))
noncomputable def vernierref07_Cut.c (k : Nat) : Con := S125.con fun x => vernierref07_Cut.f k x.1 x.2.1 x.2.2.1 x.2.2.2.1 x.2.2.2.2.1 x.2.2.2.2.2.1 x.2.2.2.2.2.2
noncomputable def vernierref07_Cut.G (k : Nat) : List (Go.FuncId × Con) := [(105, vernierref07_Sound.c), (123, vernierref01_Text.c k), (124, vernierref01_Number.c k), (150, vernierref05_Is.c), (158, vernierref05_Power.c k), (161, vernierref07_some.c k), (162, vernierref06_Head.c k), (163, vernierref07_left.c k)]
noncomputable def vernierref07_Cut.cuts : List (Cut (TT S125.sb)) := [⟨[1, 1, 2, 1, 0, 1, 1, 1, 1, 1], [.sc 9 (.int .u64)], fun k x => vernierref07_Cut.j0 k x⟩, ⟨[1, 1, 1, 1, 1, 1, 1, 1], [.sc 0 (.int .i64), .sc 10 (.str), .sc 11 (.bool), .box 3 68 [.int .i64, .bool, .int .i64, .int .u64, .int .u64, .bool]], fun k x => vernierref07_Cut.j1 k x.1 x.2.1 x.2.2.1 x.2.2.2.2.2.1 x.2.2.2.2.2.2.2.2⟩, ⟨[1, 0, 1, 1, 1, 1, 1, 1, 1, 1, 1, 1], [.sc 0 (.int .i64), .sc 10 (.str), .sc 73 (.bool), .box 3 68 [.int .i64, .bool, .int .i64, .int .u64, .int .u64, .bool]], fun k x => vernierref07_Cut.j2 k x.1 x.2.1 x.2.2.1 x.2.2.2.2.2.1 x.2.2.2.2.2.2.2.2⟩]
theorem vernierref07_Cut.w0 (k : Nat) (x : ET [.sc 9 (.int .u64)]) : walk E125 (vernierref07_Cut.G k) (cutsAt k vernierref07_Cut.cuts) (retE E125 Go.Proofs.Tryz.f125.results.toList S125) 4000 true (stackAt B125 [1, 1, 2, 1, 0, 1, 1, 1, 1, 1]) (mkE [.sc 9 (.int .u64)] x St.nil) = vernierref07_Cut.j0 (k + 1) x := by kernel_rfl
theorem vernierref07_Cut.w1 (k : Nat) (x : ET [.sc 0 (.int .i64), .sc 10 (.str), .sc 11 (.bool), .box 3 68 [.int .i64, .bool, .int .i64, .int .u64, .int .u64, .bool]]) : walk E125 (vernierref07_Cut.G k) (cutsAt k vernierref07_Cut.cuts) (retE E125 Go.Proofs.Tryz.f125.results.toList S125) 4000 true (stackAt B125 [1, 1, 1, 1, 1, 1, 1, 1]) (mkE [.sc 0 (.int .i64), .sc 10 (.str), .sc 11 (.bool), .box 3 68 [.int .i64, .bool, .int .i64, .int .u64, .int .u64, .bool]] x St.nil) = vernierref07_Cut.j1 (k + 1) x.1 x.2.1 x.2.2.1 x.2.2.2.2.2.1 x.2.2.2.2.2.2.2.2 := by kernel_rfl
theorem vernierref07_Cut.w2 (k : Nat) (x : ET [.sc 0 (.int .i64), .sc 10 (.str), .sc 73 (.bool), .box 3 68 [.int .i64, .bool, .int .i64, .int .u64, .int .u64, .bool]]) : walk E125 (vernierref07_Cut.G k) (cutsAt k vernierref07_Cut.cuts) (retE E125 Go.Proofs.Tryz.f125.results.toList S125) 4000 true (stackAt B125 [1, 0, 1, 1, 1, 1, 1, 1, 1, 1, 1, 1]) (mkE [.sc 0 (.int .i64), .sc 10 (.str), .sc 73 (.bool), .box 3 68 [.int .i64, .bool, .int .i64, .int .u64, .int .u64, .bool]] x St.nil) = vernierref07_Cut.j2 (k + 1) x.1 x.2.1 x.2.2.1 x.2.2.2.2.2.1 x.2.2.2.2.2.2.2.2 := Eq.trans (b := vernierref07_Cut.j2R k x.1 x.2.1 x.2.2.1 x.2.2.2.2.2.1 x.2.2.2.2.2.2.2.2) (by kernel_rfl) (vernierref07_Cut.j2E k x.1 x.2.1 x.2.2.1 x.2.2.2.2.2.1 x.2.2.2.2.2.2.2.2)
theorem vernierref07_Cut.w (k : Nat) (x : TT S125.sa) : walk E125 (vernierref07_Cut.G k) (cutsAt k vernierref07_Cut.cuts) (retE E125 Go.Proofs.Tryz.f125.results.toList S125) 4000 true [([], .code B125)] (St0 S125 x) = vernierref07_Cut.f k x.1 x.2.1 x.2.2.1 x.2.2.2.1 x.2.2.2.2.1 x.2.2.2.2.2.1 x.2.2.2.2.2.2 := by kernel_rfl
theorem vernierref07_Cut.ok (k : Nat) : FnOk Go.Proofs.Tryz.prog E125.eT 125 (vernierref07_Cut.c k) := FnOk.walk (E := E125) (body := B125) Go.Proofs.Tryz.func125 rfl (by rfl) Go.Proofs.Tryz.ntmps125 S125 rfl (fun k x => vernierref07_Cut.f k x.1 x.2.1 x.2.2.1 x.2.2.2.1 x.2.2.2.2.1 x.2.2.2.2.2.1 x.2.2.2.2.2.2) vernierref07_Cut.G (fun k => ⟨vernierref07_Sound.ok, vernierref01_Text.ok k, vernierref01_Number.ok k, vernierref05_Is.ok, vernierref05_Power.ok k, vernierref07_some.ok k, vernierref06_Head.ok k, vernierref07_left.ok k, trivial⟩) 4000 vernierref07_Cut.cuts ⟨⟨fun _ => rfl, fun k x q h => (vernierref07_Cut.w0 k x).trans h⟩, ⟨fun _ => rfl, fun k x q h => (vernierref07_Cut.w1 k x).trans h⟩, ⟨fun _ => rfl, fun k x q h => (vernierref07_Cut.w2 k x).trans h⟩, trivial⟩ (fun k x r h => (vernierref07_Cut.w k x).trans h) k
noncomputable def E93 : En := ⟨Go.Proofs.Tryz.prog, 156, Go.Proofs.Tryz.f93.ntmps⟩
noncomputable def S93 : Sig := ⟨[.s, .g 6], [(.int .i64), (.int .i64), .bool, (.int .i64), (.int .u64), (.int .u64), .bool], true, [.s, .s], [(.int .u64), (.int .i64)], false⟩
noncomputable def B93 : Go.Code := Go.Proofs.Tryz.f93.body.get!
def vernierref07_Rounds.j0 : Nat → Int → Int → Bool → Bool → Option (Int × Int)
 | 0, _, _, _, _ => none
 | k + 1, x0, x6, x29, x3001 => if x29 = true then (if x3001 = true then ((vernierref06_Neg.f k x0 (IntKind.u64.wrap (x6 + 1))).bind fun t101 => (some (t101, 0))) else (some (IntKind.u64.wrap (x6 + 1), 0))) else (if x3001 = true then ((vernierref06_Neg.f k x0 x6).bind fun t102 => (some (t102, 0))) else (some (x6, 0)))
def vernierref07_Rounds.f (k : Nat) (a0 : Int) (a1_0 : Int) (a1_1 : Bool) (a1_2 : Int) (a1_3 : Int) (a1_4 : Int) (a1_5 : Bool) : Option (Int × Int) := (vernierref07_Cut.f k a0 a1_0 a1_1 a1_2 a1_3 a1_4 a1_5).bind fun t100 => (if t100.2.2 = 0 then (if t100.2.1 = 3 then (vernierref07_Rounds.j0 k a0 t100.1 true a1_1) else (if t100.2.1 = 2 then (vernierref07_Rounds.j0 k a0 t100.1 ((Int.tmod t100.1 2) == 1) a1_1) else (vernierref07_Rounds.j0 k a0 t100.1 false a1_1))) else (some (0, t100.2.2)))
--@ok
noncomputable def vernierref07_Rounds.c (k : Nat) : Con := S93.con fun x => vernierref07_Rounds.f k x.1 x.2.1 x.2.2.1 x.2.2.2.1 x.2.2.2.2.1 x.2.2.2.2.2.1 x.2.2.2.2.2.2
noncomputable def vernierref07_Rounds.G (k : Nat) : List (Go.FuncId × Con) := [(25, vernierref06_Neg.c k), (125, vernierref07_Cut.c k)]
noncomputable def vernierref07_Rounds.cuts : List (Cut (TT S93.sb)) := [⟨[1, 0, 1, 1, 1], [.sc 0 (.int .i64), .sc 6 (.int .u64), .sc 29 (.bool), .box 3 68 [.int .i64, .bool, .int .i64, .int .u64, .int .u64, .bool]], fun k x => vernierref07_Rounds.j0 k x.1 x.2.1 x.2.2.1 x.2.2.2.2.1⟩]
theorem vernierref07_Rounds.w0 (k : Nat) (x : ET [.sc 0 (.int .i64), .sc 6 (.int .u64), .sc 29 (.bool), .box 3 68 [.int .i64, .bool, .int .i64, .int .u64, .int .u64, .bool]]) : walk E93 (vernierref07_Rounds.G k) (cutsAt k vernierref07_Rounds.cuts) (retE E93 Go.Proofs.Tryz.f93.results.toList S93) 4000 true (stackAt B93 [1, 0, 1, 1, 1]) (mkE [.sc 0 (.int .i64), .sc 6 (.int .u64), .sc 29 (.bool), .box 3 68 [.int .i64, .bool, .int .i64, .int .u64, .int .u64, .bool]] x St.nil) = vernierref07_Rounds.j0 (k + 1) x.1 x.2.1 x.2.2.1 x.2.2.2.2.1 := by kernel_rfl
theorem vernierref07_Rounds.w (k : Nat) (x : TT S93.sa) : walk E93 (vernierref07_Rounds.G k) (cutsAt k vernierref07_Rounds.cuts) (retE E93 Go.Proofs.Tryz.f93.results.toList S93) 4000 true [([], .code B93)] (St0 S93 x) = vernierref07_Rounds.f k x.1 x.2.1 x.2.2.1 x.2.2.2.1 x.2.2.2.2.1 x.2.2.2.2.2.1 x.2.2.2.2.2.2 := by kernel_rfl
theorem vernierref07_Rounds.ok (k : Nat) : FnOk Go.Proofs.Tryz.prog E93.eT 93 (vernierref07_Rounds.c k) := FnOk.walk (E := E93) (body := B93) Go.Proofs.Tryz.func93 rfl (by rfl) Go.Proofs.Tryz.ntmps93 S93 rfl (fun k x => vernierref07_Rounds.f k x.1 x.2.1 x.2.2.1 x.2.2.2.1 x.2.2.2.2.1 x.2.2.2.2.2.1 x.2.2.2.2.2.2) vernierref07_Rounds.G (fun k => ⟨vernierref06_Neg.ok k, vernierref07_Cut.ok k, trivial⟩) 4000 vernierref07_Rounds.cuts ⟨⟨fun _ => rfl, fun k x q h => (vernierref07_Rounds.w0 k x).trans h⟩, trivial⟩ (fun k x r h => (vernierref07_Rounds.w k x).trans h) k
noncomputable def E65 : En := ⟨Go.Proofs.Tryz.prog, 156, Go.Proofs.Tryz.f65.ntmps⟩
noncomputable def S65 : Sig := ⟨[.s, .g 6], [(.int .i64), (.int .i64), .bool, (.int .i64), (.int .u64), (.int .u64), .bool], false, [.s], [(.int .u64)], false⟩
noncomputable def B65 : Go.Code := Go.Proofs.Tryz.f65.body.get!
def vernierref07_Round.f (k : Nat) (a0 : Int) (a1_0 : Int) (a1_1 : Bool) (a1_2 : Int) (a1_3 : Int) (a1_4 : Int) (a1_5 : Bool) : Option (Int) := (vernierref07_Rounds.f k a0 a1_0 a1_1 a1_2 a1_3 a1_4 a1_5).bind fun t100 => (some t100.1)
--@ok
noncomputable def vernierref07_Round.c (k : Nat) : Con := S65.con fun x => vernierref07_Round.f k x.1 x.2.1 x.2.2.1 x.2.2.2.1 x.2.2.2.2.1 x.2.2.2.2.2.1 x.2.2.2.2.2.2
noncomputable def vernierref07_Round.G (k : Nat) : List (Go.FuncId × Con) := [(93, vernierref07_Rounds.c k)]
noncomputable def vernierref07_Round.cuts : List (Cut (TT S65.sb)) := []
theorem vernierref07_Round.w (k : Nat) (x : TT S65.sa) : walk E65 (vernierref07_Round.G k) (cutsAt k vernierref07_Round.cuts) (retE E65 Go.Proofs.Tryz.f65.results.toList S65) 4000 true [([], .code B65)] (St0 S65 x) = vernierref07_Round.f k x.1 x.2.1 x.2.2.1 x.2.2.2.1 x.2.2.2.2.1 x.2.2.2.2.2.1 x.2.2.2.2.2.2 := by kernel_rfl
theorem vernierref07_Round.ok (k : Nat) : FnOk Go.Proofs.Tryz.prog E65.eT 65 (vernierref07_Round.c k) := FnOk.walk (E := E65) (body := B65) Go.Proofs.Tryz.func65 rfl (by rfl) Go.Proofs.Tryz.ntmps65 S65 rfl (fun k x => vernierref07_Round.f k x.1 x.2.1 x.2.2.1 x.2.2.2.1 x.2.2.2.2.1 x.2.2.2.2.2.1 x.2.2.2.2.2.2) vernierref07_Round.G (fun k => ⟨vernierref07_Rounds.ok k, trivial⟩) 4000 vernierref07_Round.cuts trivial (fun k x r h => (vernierref07_Round.w k x).trans h) k
noncomputable def E95 : En := ⟨Go.Proofs.Tryz.prog, 156, Go.Proofs.Tryz.f95.ntmps⟩
noncomputable def S95 : Sig := ⟨[.g 4], [(.int .i64), .bool, (.int .i64), (.int .u64)], false, [.s], [.bool], false⟩
noncomputable def B95 : Go.Code := Go.Proofs.Tryz.f95.body.get!
def vernierref06_Sound.f (a0_0 : Int) (a0_1 : Bool) (a0_2 : Int) (a0_3 : Int) : Option (Bool) := if a0_0 = 0 then (some ((a0_0 == a0_0) && ((!a0_1) && ((a0_2 == 0) && (a0_3 == 0))))) else (if a0_0 = 2 then (some ((a0_0 == a0_0) && ((!a0_1) && ((a0_2 == 0) && (a0_3 == 0))))) else (if a0_0 = 1 then (if a0_3 ≥ 9223372036854775808 then (if a0_2 ≥ (-1073741824) then (some (decide (a0_2 ≤ 1073741824))) else (some false)) else (some false)) else (some false)))
--@ok
noncomputable def vernierref06_Sound.c : Con := S95.con fun x => vernierref06_Sound.f x.1 x.2.1 x.2.2.1 x.2.2.2
noncomputable def vernierref06_Sound.G (k : Nat) : List (Go.FuncId × Con) := []
noncomputable def vernierref06_Sound.cuts : List (Cut (TT S95.sb)) := []
theorem vernierref06_Sound.w (k : Nat) (x : TT S95.sa) : walk E95 (vernierref06_Sound.G k) (cutsAt k vernierref06_Sound.cuts) (retE E95 Go.Proofs.Tryz.f95.results.toList S95) 4000 true [([], .code B95)] (St0 S95 x) = vernierref06_Sound.f x.1 x.2.1 x.2.2.1 x.2.2.2 := by kernel_rfl
theorem vernierref06_Sound.ok : FnOk Go.Proofs.Tryz.prog E95.eT 95 (vernierref06_Sound.c) := FnOk.walk (E := E95) (body := B95) Go.Proofs.Tryz.func95 rfl (by rfl) Go.Proofs.Tryz.ntmps95 S95 rfl (fun k x => vernierref06_Sound.f x.1 x.2.1 x.2.2.1 x.2.2.2) vernierref06_Sound.G (fun k => trivial) 4000 vernierref06_Sound.cuts trivial (fun k x r h => (vernierref06_Sound.w k x).trans h) 0
noncomputable def E73 : En := ⟨Go.Proofs.Tryz.prog, 156, Go.Proofs.Tryz.f73.ntmps⟩
noncomputable def S73 : Sig := ⟨[.g 4], [(.int .i64), .bool, (.int .i64), (.int .u64)], true, [.g 6, .s], [(.int .i64), .bool, (.int .i64), (.int .u64), (.int .u64), .bool, (.int .i64)], false⟩
noncomputable def B73 : Go.Code := Go.Proofs.Tryz.f73.body.get!
def vernierref07_Of.f (a0_0 : Int) (a0_1 : Bool) (a0_2 : Int) (a0_3 : Int) : Option (Int × Bool × Int × Int × Int × Bool × Int) := (vernierref06_Sound.f a0_0 a0_1 a0_2 a0_3).bind fun t100 => (if t100 = true then (some (a0_0, a0_1, a0_2, a0_3, 0, false, 0)) else (some (0, false, 0, 0, 0, false, 1)))
--@ok
noncomputable def vernierref07_Of.c : Con := S73.con fun x => vernierref07_Of.f x.1 x.2.1 x.2.2.1 x.2.2.2
noncomputable def vernierref07_Of.G (k : Nat) : List (Go.FuncId × Con) := [(95, vernierref06_Sound.c)]
noncomputable def vernierref07_Of.cuts : List (Cut (TT S73.sb)) := []
theorem vernierref07_Of.w (k : Nat) (x : TT S73.sa) : walk E73 (vernierref07_Of.G k) (cutsAt k vernierref07_Of.cuts) (retE E73 Go.Proofs.Tryz.f73.results.toList S73) 4000 true [([], .code B73)] (St0 S73 x) = vernierref07_Of.f x.1 x.2.1 x.2.2.1 x.2.2.2 := by kernel_rfl
theorem vernierref07_Of.ok : FnOk Go.Proofs.Tryz.prog E73.eT 73 (vernierref07_Of.c) := FnOk.walk (E := E73) (body := B73) Go.Proofs.Tryz.func73 rfl (by rfl) Go.Proofs.Tryz.ntmps73 S73 rfl (fun k x => vernierref07_Of.f x.1 x.2.1 x.2.2.1 x.2.2.2) vernierref07_Of.G (fun k => ⟨vernierref06_Sound.ok, trivial⟩) 4000 vernierref07_Of.cuts trivial (fun k x r h => (vernierref07_Of.w k x).trans h) 0
noncomputable def E143 : En := ⟨Go.Proofs.Tryz.prog, 156, Go.Proofs.Tryz.f143.ntmps⟩
noncomputable def S143 : Sig := ⟨[.s, .s], [(.rd .i64), (.int .i64)], false, [.s], [(.int .i64)], false⟩
noncomputable def B143 : Go.Code := Go.Proofs.Tryz.f143.body.get!
def vernierref04_digit.f (l0 : List Int) (a1 : Int) : Option (Int) := if a1 < (nI l0.length) then (if 0 ≤ a1 then (some (rd l0 a1)) else (none)) else (some 0)
--@ok
def vernierref04_digit.fR (l0 : List Int) (a1 : Int) : Option (Int) := if a1 < (nI l0.length) then (if 0 ≤ a1 then (if a1 < (nI l0.length) then (some (rd l0 a1)) else (none)) else (none)) else (some 0)
theorem vernierref04_digit.fE (l0 : List Int) (a1 : Int) : vernierref04_digit.fR l0 a1 = vernierref04_digit.f l0 a1 := by
  unfold vernierref04_digit.fR vernierref04_digit.f
  exact iteC (fun h0 => iteC (fun h1 => (if_pos h0).trans (rfl)) (fun h1 => rfl)) (fun h0 => rfl)
noncomputable def vernierref04_digit.c : Con := S143.con fun x => vernierref04_digit.f x.1 x.2
noncomputable def vernierref04_digit.G (k : Nat) : List (Go.FuncId × Con) := []
noncomputable def vernierref04_digit.cuts : List (Cut (TT S143.sb)) := []
theorem vernierref04_digit.w (k : Nat) (x : TT S143.sa) : walk E143 (vernierref04_digit.G k) (cutsAt k vernierref04_digit.cuts) (retE E143 Go.Proofs.Tryz.f143.results.toList S143) 4000 true [([], .code B143)] (St0 S143 x) = vernierref04_digit.f x.1 x.2 := Eq.trans (b := vernierref04_digit.fR x.1 x.2) (by kernel_rfl) (vernierref04_digit.fE x.1 x.2)
theorem vernierref04_digit.ok : FnOk Go.Proofs.Tryz.prog E143.eT 143 (vernierref04_digit.c) := FnOk.walk (E := E143) (body := B143) Go.Proofs.Tryz.func143 rfl (by rfl) Go.Proofs.Tryz.ntmps143 S143 rfl (fun k x => vernierref04_digit.f x.1 x.2) vernierref04_digit.G (fun k => trivial) 4000 vernierref04_digit.cuts trivial (fun k x r h => (vernierref04_digit.w k x).trans h) 0
noncomputable def E135 : En := ⟨Go.Proofs.Tryz.prog, 156, Go.Proofs.Tryz.f135.ntmps⟩
noncomputable def S135 : Sig := ⟨[.s, .s], [(.rd .i64), (.int .i64)], false, [.s], [(.rd .i64)], true⟩
noncomputable def B135 : Go.Code := Go.Proofs.Tryz.f135.body.get!
def vernierref04_times.l0 : Nat → List Int → Int → List Int → Int → Int → Option (List Int)
 | 0, _, _, _, _, _ => none
 | k + 1, x0, x1, x5, x6, x7 => if x7 < (nI x0.length) then (if x1 > 0 then ((vernierref04_digit.f x0 x7).bind fun t100 => (if x5.length < 17592186044416 then (vernierref04_times.l0 k x0 x1 (x5 ++ ([Int.tmod (wrap64 ((wrap64 (t100 * x1)) + x6)) 16777216] : List Int)) (wrap64 (Int.tdiv (wrap64 ((wrap64 (t100 * x1)) + x6)) 16777216)) (wrap64 (x7 + 1))) else (none))) else (if x6 > 0 then ((vernierref04_digit.f x0 x7).bind fun t101 => (if x5.length < 17592186044416 then (vernierref04_times.l0 k x0 x1 (x5 ++ ([Int.tmod (wrap64 ((wrap64 (t101 * x1)) + x6)) 16777216] : List Int)) (wrap64 (Int.tdiv (wrap64 ((wrap64 (t101 * x1)) + x6)) 16777216)) (wrap64 (x7 + 1))) else (none))) else (some x5))) else (if x6 > 0 then ((vernierref04_digit.f x0 x7).bind fun t102 => (if x5.length < 17592186044416 then (vernierref04_times.l0 k x0 x1 (x5 ++ ([Int.tmod (wrap64 ((wrap64 (t102 * x1)) + x6)) 16777216] : List Int)) (wrap64 (Int.tdiv (wrap64 ((wrap64 (t102 * x1)) + x6)) 16777216)) (wrap64 (x7 + 1))) else (none))) else (some x5))
def vernierref04_times.f (k : Nat) (l0 : List Int) (a1 : Int) : Option (List Int) := vernierref04_times.l0 k l0 a1 ([] : List Int) 0 0
--@ok
noncomputable def vernierref04_times.c (k : Nat) : Con := S135.con fun x => vernierref04_times.f k x.1 x.2
noncomputable def vernierref04_times.G (k : Nat) : List (Go.FuncId × Con) := [(143, vernierref04_digit.c)]
noncomputable def vernierref04_times.cuts : List (Cut (TT S135.sb)) := [⟨[6, 4, 1, 0, 1, 1, 1], [.sc 0 (.rd .i64), .sc 1 (.int .i64), .lst 5 .i64 3, .sc 6 (.int .i64), .sc 7 (.int .i64)], fun k x => vernierref04_times.l0 k x.1 x.2.1 x.2.2.1 x.2.2.2.1 x.2.2.2.2⟩]
theorem vernierref04_times.w0 (k : Nat) (x : ET [.sc 0 (.rd .i64), .sc 1 (.int .i64), .lst 5 .i64 3, .sc 6 (.int .i64), .sc 7 (.int .i64)]) : walk E135 (vernierref04_times.G k) (cutsAt k vernierref04_times.cuts) (retE E135 Go.Proofs.Tryz.f135.results.toList S135) 4000 true (stackAt B135 [6, 4, 1, 0, 1, 1, 1]) (mkE [.sc 0 (.rd .i64), .sc 1 (.int .i64), .lst 5 .i64 3, .sc 6 (.int .i64), .sc 7 (.int .i64)] x St.nil) = vernierref04_times.l0 (k + 1) x.1 x.2.1 x.2.2.1 x.2.2.2.1 x.2.2.2.2 := by kernel_rfl
theorem vernierref04_times.w (k : Nat) (x : TT S135.sa) : walk E135 (vernierref04_times.G k) (cutsAt k vernierref04_times.cuts) (retE E135 Go.Proofs.Tryz.f135.results.toList S135) 4000 true [([], .code B135)] (St0 S135 x) = vernierref04_times.f k x.1 x.2 := by kernel_rfl
theorem vernierref04_times.ok (k : Nat) : FnOk Go.Proofs.Tryz.prog E135.eT 135 (vernierref04_times.c k) := FnOk.walk (E := E135) (body := B135) Go.Proofs.Tryz.func135 rfl (by rfl) Go.Proofs.Tryz.ntmps135 S135 rfl (fun k x => vernierref04_times.f k x.1 x.2) vernierref04_times.G (fun k => ⟨vernierref04_digit.ok, trivial⟩) 4000 vernierref04_times.cuts ⟨⟨fun _ => rfl, fun k x q h => (vernierref04_times.w0 k x).trans h⟩, trivial⟩ (fun k x r h => (vernierref04_times.w k x).trans h) k
end Go.Proofs.YtnjhblakghjdoaaGreat.Fn
set_option maxRecDepth 100000
set_option linter.unusedVariables false
noncomputable section
namespace Go.Proofs.YtnjhblakghjdoaaGreat.Fn
open Go Go.RowKit Go.Proofs.YtnjhblakghjdoaaGreat.Ab
noncomputable def E136 : En := ⟨Go.Proofs.Tryz.prog, 156, Go.Proofs.Tryz.f136.ntmps⟩
noncomputable def S136 : Sig := ⟨[.s], [(.int .i64)], false, [.s], [(.int .i64)], false⟩
noncomputable def B136 : Go.Code := Go.Proofs.Tryz.f136.body.get!
def vernierref04_two.l0 : Nat → Int → Int → Int → Option (Int)
 | 0, _, _, _ => none
 | k + 1, x0, x3, x4 => if x4 < x0 then (vernierref04_two.l0 k x0 (wrap64 (2 * x3)) (wrap64 (x4 + 1))) else (some x3)
def vernierref04_two.f (k : Nat) (a0 : Int) : Option (Int) := vernierref04_two.l0 k a0 1 0
--@ok
noncomputable def vernierref04_two.c (k : Nat) : Con := S136.con fun x => vernierref04_two.f k x
noncomputable def vernierref04_two.G (k : Nat) : List (Go.FuncId × Con) := []
noncomputable def vernierref04_two.cuts : List (Cut (TT S136.sb)) := [⟨[6, 4, 1, 0, 1, 1], [.sc 0 (.int .i64), .sc 3 (.int .i64), .sc 4 (.int .i64)], fun k x => vernierref04_two.l0 k x.1 x.2.1 x.2.2⟩]
theorem vernierref04_two.w0 (k : Nat) (x : ET [.sc 0 (.int .i64), .sc 3 (.int .i64), .sc 4 (.int .i64)]) : walk E136 (vernierref04_two.G k) (cutsAt k vernierref04_two.cuts) (retE E136 Go.Proofs.Tryz.f136.results.toList S136) 4000 true (stackAt B136 [6, 4, 1, 0, 1, 1]) (mkE [.sc 0 (.int .i64), .sc 3 (.int .i64), .sc 4 (.int .i64)] x St.nil) = vernierref04_two.l0 (k + 1) x.1 x.2.1 x.2.2 := by kernel_rfl
theorem vernierref04_two.w (k : Nat) (x : TT S136.sa) : walk E136 (vernierref04_two.G k) (cutsAt k vernierref04_two.cuts) (retE E136 Go.Proofs.Tryz.f136.results.toList S136) 4000 true [([], .code B136)] (St0 S136 x) = vernierref04_two.f k x := by kernel_rfl
theorem vernierref04_two.ok (k : Nat) : FnOk Go.Proofs.Tryz.prog E136.eT 136 (vernierref04_two.c k) := FnOk.walk (E := E136) (body := B136) Go.Proofs.Tryz.func136 rfl (by rfl) Go.Proofs.Tryz.ntmps136 S136 rfl (fun k x => vernierref04_two.f k x) vernierref04_two.G (fun k => trivial) 4000 vernierref04_two.cuts ⟨⟨fun _ => rfl, fun k x q h => (vernierref04_two.w0 k x).trans h⟩, trivial⟩ (fun k x r h => (vernierref04_two.w k x).trans h) k
noncomputable def E101 : En := ⟨Go.Proofs.Tryz.prog, 156, Go.Proofs.Tryz.f101.ntmps⟩
noncomputable def S101 : Sig := ⟨[.s, .s], [(.rd .i64), (.int .i64)], false, [.s], [(.rd .i64)], true⟩
noncomputable def B101 : Go.Code := Go.Proofs.Tryz.f101.body.get!
def vernierref04_Shl.f (k : Nat) (l0 : List Int) (a1 : Int) : Option (List Int) := if (nI l0.length) = 0 then (some ([] : List Int)) else (if 0 ≤ (wrap64 (Int.tdiv a1 24)) then (if (((wrap64 (Int.tdiv a1 24)) : Int).toNat) ≤ 35184372088832 then ((vernierref04_two.f k (Int.tmod a1 24)).bind fun t100 => ((vernierref04_times.f k l0 t100).bind fun t101 => (if (((List.replicate (((wrap64 (Int.tdiv a1 24)) : Int).toNat) 0 : List Int).length) + t101.length) ≤ 17592186044416 then (some ((List.replicate (((wrap64 (Int.tdiv a1 24)) : Int).toNat) 0 : List Int) ++ t101)) else (none)))) else (none)) else (none))
--@ok
noncomputable def vernierref04_Shl.c (k : Nat) : Con := S101.con fun x => vernierref04_Shl.f k x.1 x.2
noncomputable def vernierref04_Shl.G (k : Nat) : List (Go.FuncId × Con) := [(135, vernierref04_times.c k), (136, vernierref04_two.c k)]
noncomputable def vernierref04_Shl.cuts : List (Cut (TT S101.sb)) := []
theorem vernierref04_Shl.w (k : Nat) (x : TT S101.sa) : walk E101 (vernierref04_Shl.G k) (cutsAt k vernierref04_Shl.cuts) (retE E101 Go.Proofs.Tryz.f101.results.toList S101) 4000 true [([], .code B101)] (St0 S101 x) = vernierref04_Shl.f k x.1 x.2 := by kernel_rfl
theorem vernierref04_Shl.ok (k : Nat) : FnOk Go.Proofs.Tryz.prog E101.eT 101 (vernierref04_Shl.c k) := FnOk.walk (E := E101) (body := B101) Go.Proofs.Tryz.func101 rfl (by rfl) Go.Proofs.Tryz.ntmps101 S101 rfl (fun k x => vernierref04_Shl.f k x.1 x.2) vernierref04_Shl.G (fun k => ⟨vernierref04_times.ok k, vernierref04_two.ok k, trivial⟩) 4000 vernierref04_Shl.cuts trivial (fun k x r h => (vernierref04_Shl.w k x).trans h) k
noncomputable def E129 : En := ⟨Go.Proofs.Tryz.prog, 156, Go.Proofs.Tryz.f129.ntmps⟩
noncomputable def S129 : Sig := ⟨[.s], [(.rd .i64)], false, [.s], [(.int .i64)], false⟩
noncomputable def B129 : Go.Code := Go.Proofs.Tryz.f129.body.get!
def vernierref04_Bits.l0 : Nat → Int → Int → Option (Int)
 | 0, _, _ => none
 | k + 1, x3, x4 => if x4 > 0 then (vernierref04_Bits.l0 k (wrap64 (x3 + 1)) (wrap64 (Int.tdiv x4 2))) else (some x3)
def vernierref04_Bits.f (k : Nat) (l0 : List Int) : Option (Int) := if (nI l0.length) = 0 then (some 0) else (if 0 ≤ (wrap64 ((nI l0.length) - 1)) then (if (wrap64 ((nI l0.length) - 1)) < (nI l0.length) then (vernierref04_Bits.l0 k (wrap64 (24 * (wrap64 ((nI l0.length) - 1)))) (rd l0 (wrap64 ((nI l0.length) - 1)))) else (none)) else (none))
--@ok
noncomputable def vernierref04_Bits.c (k : Nat) : Con := S129.con fun x => vernierref04_Bits.f k x
noncomputable def vernierref04_Bits.G (k : Nat) : List (Go.FuncId × Con) := []
noncomputable def vernierref04_Bits.cuts : List (Cut (TT S129.sb)) := [⟨[6, 4, 1, 0, 1, 1, 1], [.sc 3 (.int .i64), .sc 4 (.int .i64)], fun k x => vernierref04_Bits.l0 k x.1 x.2⟩]
theorem vernierref04_Bits.w0 (k : Nat) (x : ET [.sc 3 (.int .i64), .sc 4 (.int .i64)]) : walk E129 (vernierref04_Bits.G k) (cutsAt k vernierref04_Bits.cuts) (retE E129 Go.Proofs.Tryz.f129.results.toList S129) 4000 true (stackAt B129 [6, 4, 1, 0, 1, 1, 1]) (mkE [.sc 3 (.int .i64), .sc 4 (.int .i64)] x St.nil) = vernierref04_Bits.l0 (k + 1) x.1 x.2 := by kernel_rfl
theorem vernierref04_Bits.w (k : Nat) (x : TT S129.sa) : walk E129 (vernierref04_Bits.G k) (cutsAt k vernierref04_Bits.cuts) (retE E129 Go.Proofs.Tryz.f129.results.toList S129) 4000 true [([], .code B129)] (St0 S129 x) = vernierref04_Bits.f k x := by kernel_rfl
theorem vernierref04_Bits.ok (k : Nat) : FnOk Go.Proofs.Tryz.prog E129.eT 129 (vernierref04_Bits.c k) := FnOk.walk (E := E129) (body := B129) Go.Proofs.Tryz.func129 rfl (by rfl) Go.Proofs.Tryz.ntmps129 S129 rfl (fun k x => vernierref04_Bits.f k x) vernierref04_Bits.G (fun k => trivial) 4000 vernierref04_Bits.cuts ⟨⟨fun _ => rfl, fun k x q h => (vernierref04_Bits.w0 k x).trans h⟩, trivial⟩ (fun k x r h => (vernierref04_Bits.w k x).trans h) k
noncomputable def E130 : En := ⟨Go.Proofs.Tryz.prog, 156, Go.Proofs.Tryz.f130.ntmps⟩
noncomputable def S130 : Sig := ⟨[.s], [(.int .i64)], false, [.s], [(.int .i64)], false⟩
noncomputable def B130 : Go.Code := Go.Proofs.Tryz.f130.body.get!
def vernierref07_Held.f (a0 : Int) : Option (Int) := if a0 < (-1099511627776) then (some (-1099511627776)) else (if a0 > 1099511627776 then (some 1099511627776) else (some a0))
--@ok
noncomputable def vernierref07_Held.c : Con := S130.con fun x => vernierref07_Held.f x
noncomputable def vernierref07_Held.G (k : Nat) : List (Go.FuncId × Con) := []
noncomputable def vernierref07_Held.cuts : List (Cut (TT S130.sb)) := []
theorem vernierref07_Held.w (k : Nat) (x : TT S130.sa) : walk E130 (vernierref07_Held.G k) (cutsAt k vernierref07_Held.cuts) (retE E130 Go.Proofs.Tryz.f130.results.toList S130) 4000 true [([], .code B130)] (St0 S130 x) = vernierref07_Held.f x := by kernel_rfl
theorem vernierref07_Held.ok : FnOk Go.Proofs.Tryz.prog E130.eT 130 (vernierref07_Held.c) := FnOk.walk (E := E130) (body := B130) Go.Proofs.Tryz.func130 rfl (by rfl) Go.Proofs.Tryz.ntmps130 S130 rfl (fun k x => vernierref07_Held.f x) vernierref07_Held.G (fun k => trivial) 4000 vernierref07_Held.cuts trivial (fun k x r h => (vernierref07_Held.w k x).trans h) 0
noncomputable def E131 : En := ⟨Go.Proofs.Tryz.prog, 156, Go.Proofs.Tryz.f131.ntmps⟩
noncomputable def S131 : Sig := ⟨[.s, .s], [(.rd .i64), (.int .i64)], false, [.s], [.bool], false⟩
noncomputable def B131 : Go.Code := Go.Proofs.Tryz.f131.body.get!
mutual
def vernierref04_Low.l0 : Nat → List Int → Int → Int → Option (Bool)
 | 0, _, _, _ => none
 | k + 1, x0, x1, x5 => if x5 < (nI x0.length) then (vernierref04_Low.j1 k x0 x1 x5 (decide ((wrap64 (24 * x5)) < x1))) else (vernierref04_Low.j1 k x0 x1 x5 false)
def vernierref04_Low.j1 : Nat → List Int → Int → Int → Bool → Option (Bool)
 | 0, _, _, _, _ => none
 | k + 1, x0, x1, x5, x16 => if x16 = true then (if (wrap64 (x1 - (wrap64 (24 * x5)))) < 24 then ((vernierref04_two.f k (wrap64 (x1 - (wrap64 (24 * x5))))).bind fun t100 => (if 0 ≤ x5 then (if x5 < (nI x0.length) then (if t100 = 0 then (none) else (if (Int.tmod (rd x0 x5) t100) = 0 then (vernierref04_Low.l0 k x0 x1 (wrap64 (x5 + 1))) else (some true))) else (none)) else (none))) else (if 0 ≤ x5 then (if x5 < (nI x0.length) then (if (Int.tmod (rd x0 x5) 16777216) = 0 then (vernierref04_Low.l0 k x0 x1 (wrap64 (x5 + 1))) else (some true)) else (none)) else (none))) else (some false)
end
def vernierref04_Low.f (k : Nat) (l0 : List Int) (a1 : Int) : Option (Bool) := vernierref04_Low.l0 k l0 a1 0
--@ok
noncomputable def vernierref04_Low.c (k : Nat) : Con := S131.con fun x => vernierref04_Low.f k x.1 x.2
noncomputable def vernierref04_Low.G (k : Nat) : List (Go.FuncId × Con) := [(136, vernierref04_two.c k)]
noncomputable def vernierref04_Low.cuts : List (Cut (TT S131.sb)) := [⟨[6, 4, 1, 0, 1], [.sc 0 (.rd .i64), .sc 1 (.int .i64), .sc 5 (.int .i64)], fun k x => vernierref04_Low.l0 k x.1 x.2.1 x.2.2⟩, ⟨[1, 0, 6, 4, 1, 0, 1], [.sc 0 (.rd .i64), .sc 1 (.int .i64), .sc 5 (.int .i64), .sc 16 (.bool)], fun k x => vernierref04_Low.j1 k x.1 x.2.1 x.2.2.1 x.2.2.2⟩]
theorem vernierref04_Low.w0 (k : Nat) (x : ET [.sc 0 (.rd .i64), .sc 1 (.int .i64), .sc 5 (.int .i64)]) : walk E131 (vernierref04_Low.G k) (cutsAt k vernierref04_Low.cuts) (retE E131 Go.Proofs.Tryz.f131.results.toList S131) 4000 true (stackAt B131 [6, 4, 1, 0, 1]) (mkE [.sc 0 (.rd .i64), .sc 1 (.int .i64), .sc 5 (.int .i64)] x St.nil) = vernierref04_Low.l0 (k + 1) x.1 x.2.1 x.2.2 := by kernel_rfl
theorem vernierref04_Low.w1 (k : Nat) (x : ET [.sc 0 (.rd .i64), .sc 1 (.int .i64), .sc 5 (.int .i64), .sc 16 (.bool)]) : walk E131 (vernierref04_Low.G k) (cutsAt k vernierref04_Low.cuts) (retE E131 Go.Proofs.Tryz.f131.results.toList S131) 4000 true (stackAt B131 [1, 0, 6, 4, 1, 0, 1]) (mkE [.sc 0 (.rd .i64), .sc 1 (.int .i64), .sc 5 (.int .i64), .sc 16 (.bool)] x St.nil) = vernierref04_Low.j1 (k + 1) x.1 x.2.1 x.2.2.1 x.2.2.2 := by kernel_rfl
theorem vernierref04_Low.w (k : Nat) (x : TT S131.sa) : walk E131 (vernierref04_Low.G k) (cutsAt k vernierref04_Low.cuts) (retE E131 Go.Proofs.Tryz.f131.results.toList S131) 4000 true [([], .code B131)] (St0 S131 x) = vernierref04_Low.f k x.1 x.2 := by kernel_rfl
theorem vernierref04_Low.ok (k : Nat) : FnOk Go.Proofs.Tryz.prog E131.eT 131 (vernierref04_Low.c k) := FnOk.walk (E := E131) (body := B131) Go.Proofs.Tryz.func131 rfl (by rfl) Go.Proofs.Tryz.ntmps131 S131 rfl (fun k x => vernierref04_Low.f k x.1 x.2) vernierref04_Low.G (fun k => ⟨vernierref04_two.ok k, trivial⟩) 4000 vernierref04_Low.cuts ⟨⟨fun _ => rfl, fun k x q h => (vernierref04_Low.w0 k x).trans h⟩, ⟨fun _ => rfl, fun k x q h => (vernierref04_Low.w1 k x).trans h⟩, trivial⟩ (fun k x r h => (vernierref04_Low.w k x).trans h) k
noncomputable def E128 : En := ⟨Go.Proofs.Tryz.prog, 156, Go.Proofs.Tryz.f128.ntmps⟩
noncomputable def S128 : Sig := ⟨[.s], [(.rd .i64)], false, [.s], [(.rd .i64)], true⟩
noncomputable def B128 : Go.Code := Go.Proofs.Tryz.f128.body.get!
def vernierref04_Cut.l0 : Nat → List Int → Int → Option (List Int)
 | 0, _, _ => none
 | k + 1, x0, x3 => if x3 > 0 then (if 0 ≤ (wrap64 (x3 - 1)) then (if (wrap64 (x3 - 1)) < (nI x0.length) then (if (rd x0 (wrap64 (x3 - 1))) = 0 then (vernierref04_Cut.l0 k x0 (wrap64 (x3 - 1))) else (if 0 ≤ x3 then (if x3 ≤ (nI x0.length) then (some (x0.take ((x3 : Int).toNat))) else (none)) else (none))) else (none)) else (none)) else (if 0 ≤ x3 then (if x3 ≤ (nI x0.length) then (some (x0.take ((x3 : Int).toNat))) else (none)) else (none))
def vernierref04_Cut.f (k : Nat) (l0 : List Int) : Option (List Int) := vernierref04_Cut.l0 k l0 (nI l0.length)
--@ok
noncomputable def vernierref04_Cut.c (k : Nat) : Con := S128.con fun x => vernierref04_Cut.f k x
noncomputable def vernierref04_Cut.G (k : Nat) : List (Go.FuncId × Con) := []
noncomputable def vernierref04_Cut.cuts : List (Cut (TT S128.sb)) := [⟨[6, 4, 0, 1, 1], [.sc 0 (.rd .i64), .sc 3 (.int .i64)], fun k x => vernierref04_Cut.l0 k x.1 x.2⟩]
theorem vernierref04_Cut.w0 (k : Nat) (x : ET [.sc 0 (.rd .i64), .sc 3 (.int .i64)]) : walk E128 (vernierref04_Cut.G k) (cutsAt k vernierref04_Cut.cuts) (retE E128 Go.Proofs.Tryz.f128.results.toList S128) 4000 true (stackAt B128 [6, 4, 0, 1, 1]) (mkE [.sc 0 (.rd .i64), .sc 3 (.int .i64)] x St.nil) = vernierref04_Cut.l0 (k + 1) x.1 x.2 := by kernel_rfl
theorem vernierref04_Cut.w (k : Nat) (x : TT S128.sa) : walk E128 (vernierref04_Cut.G k) (cutsAt k vernierref04_Cut.cuts) (retE E128 Go.Proofs.Tryz.f128.results.toList S128) 4000 true [([], .code B128)] (St0 S128 x) = vernierref04_Cut.f k x := by kernel_rfl
theorem vernierref04_Cut.ok (k : Nat) : FnOk Go.Proofs.Tryz.prog E128.eT 128 (vernierref04_Cut.c k) := FnOk.walk (E := E128) (body := B128) Go.Proofs.Tryz.func128 rfl (by rfl) Go.Proofs.Tryz.ntmps128 S128 rfl (fun k x => vernierref04_Cut.f k x) vernierref04_Cut.G (fun k => trivial) 4000 vernierref04_Cut.cuts ⟨⟨fun _ => rfl, fun k x q h => (vernierref04_Cut.w0 k x).trans h⟩, trivial⟩ (fun k x r h => (vernierref04_Cut.w k x).trans h) k
noncomputable def E132 : En := ⟨Go.Proofs.Tryz.prog, 156, Go.Proofs.Tryz.f132.ntmps⟩
noncomputable def S132 : Sig := ⟨[.s, .s], [(.rd .i64), (.int .i64)], false, [.s], [(.rd .i64)], true⟩
noncomputable def B132 : Go.Code := Go.Proofs.Tryz.f132.body.get!
def vernierref04_Shr.l0 : Nat → List Int → Int → List Int → Int → Option (List Int)
 | 0, _, _, _, _ => none
 | k + 1, x5, x6, x7, x8 => if x8 < (nI x5.length) then (if 0 ≤ x8 then (if x6 = 0 then (none) else ((vernierref04_digit.f x5 (wrap64 (x8 + 1))).bind fun t101 => (if x8 < (nI x7.length) then (vernierref04_Shr.l0 k x5 x6 (x7.set ((x8 : Int).toNat) (wrap64 ((wrap64 (Int.tdiv (rd x5 x8) x6)) + (wrap64 ((Int.tmod t101 x6) * (wrap64 (16777216 / x6))))))) (wrap64 (x8 + 1))) else (none)))) else (none)) else ((vernierref04_Cut.f k x7).bind fun t102 => (some t102))
def vernierref04_Shr.f (k : Nat) (l0 : List Int) (a1 : Int) : Option (List Int) := if (wrap64 (Int.tdiv a1 24)) ≥ (nI l0.length) then (some ([] : List Int)) else (if 0 ≤ (wrap64 (Int.tdiv a1 24)) then (if (wrap64 (Int.tdiv a1 24)) ≤ (nI l0.length) then ((vernierref04_two.f k (Int.tmod a1 24)).bind fun t100 => (if (((nI ((l0.drop (((wrap64 (Int.tdiv a1 24)) : Int).toNat)).length)) : Int).toNat) ≤ 35184372088832 then (vernierref04_Shr.l0 k (l0.drop (((wrap64 (Int.tdiv a1 24)) : Int).toNat)) t100 (List.replicate (((nI ((l0.drop (((wrap64 (Int.tdiv a1 24)) : Int).toNat)).length)) : Int).toNat) 0 : List Int) 0) else (none))) else (none)) else (none))
--@ok
def vernierref04_Shr.l0R (k : Nat) (x5 : List Int) (x6 : Int) (x7 : List Int) (x8 : Int) : Option (List Int) := if x8 < (nI x5.length) then (if 0 ≤ x8 then (if x8 < (nI x5.length) then (if x6 = 0 then (none) else (if x6 = 0 then (none) else ((vernierref04_digit.f x5 (wrap64 (x8 + 1))).bind fun t101 => (if x6 = 0 then (none) else (if 0 ≤ x8 then (if x8 < (nI x7.length) then (vernierref04_Shr.l0 k x5 x6 (x7.set ((x8 : Int).toNat) (wrap64 ((wrap64 (Int.tdiv (rd x5 x8) x6)) + (wrap64 ((Int.tmod t101 x6) * (wrap64 (16777216 / x6))))))) (wrap64 (x8 + 1))) else (none)) else (none)))))) else (none)) else (none)) else ((vernierref04_Cut.f k x7).bind fun t102 => (some t102))
theorem vernierref04_Shr.l0E (k : Nat) (x5 : List Int) (x6 : Int) (x7 : List Int) (x8 : Int) : vernierref04_Shr.l0R k x5 x6 x7 x8 = vernierref04_Shr.l0 (k + 1) x5 x6 x7 x8 := by
  unfold vernierref04_Shr.l0R
  rw [vernierref04_Shr.l0]
  exact iteC (fun h0 => iteC (fun h1 => (if_pos h0).trans (iteC (fun h2 => rfl) (fun h2 => (if_neg h2).trans (bindC fun _ => (if_neg h2).trans ((if_pos h1).trans (iteC (fun h3 => rfl) (fun h3 => rfl))))))) (fun h1 => rfl)) (fun h0 => bindC fun _ => rfl)
noncomputable def vernierref04_Shr.c (k : Nat) : Con := S132.con fun x => vernierref04_Shr.f k x.1 x.2
noncomputable def vernierref04_Shr.G (k : Nat) : List (Go.FuncId × Con) := [(128, vernierref04_Cut.c k), (136, vernierref04_two.c k), (143, vernierref04_digit.c)]
noncomputable def vernierref04_Shr.cuts : List (Cut (TT S132.sb)) := [⟨[6, 4, 1, 0, 1, 1, 1, 1, 1], [.sc 5 (.rd .i64), .sc 6 (.int .i64), .lst 7 .i64 3, .sc 8 (.int .i64)], fun k x => vernierref04_Shr.l0 k x.1 x.2.1 x.2.2.1 x.2.2.2⟩]
theorem vernierref04_Shr.w0 (k : Nat) (x : ET [.sc 5 (.rd .i64), .sc 6 (.int .i64), .lst 7 .i64 3, .sc 8 (.int .i64)]) : walk E132 (vernierref04_Shr.G k) (cutsAt k vernierref04_Shr.cuts) (retE E132 Go.Proofs.Tryz.f132.results.toList S132) 4000 true (stackAt B132 [6, 4, 1, 0, 1, 1, 1, 1, 1]) (mkE [.sc 5 (.rd .i64), .sc 6 (.int .i64), .lst 7 .i64 3, .sc 8 (.int .i64)] x St.nil) = vernierref04_Shr.l0 (k + 1) x.1 x.2.1 x.2.2.1 x.2.2.2 := Eq.trans (b := vernierref04_Shr.l0R k x.1 x.2.1 x.2.2.1 x.2.2.2) (by kernel_rfl) (vernierref04_Shr.l0E k x.1 x.2.1 x.2.2.1 x.2.2.2)
theorem vernierref04_Shr.w (k : Nat) (x : TT S132.sa) : walk E132 (vernierref04_Shr.G k) (cutsAt k vernierref04_Shr.cuts) (retE E132 Go.Proofs.Tryz.f132.results.toList S132) 4000 true [([], .code B132)] (St0 S132 x) = vernierref04_Shr.f k x.1 x.2 := by kernel_rfl
theorem vernierref04_Shr.ok (k : Nat) : FnOk Go.Proofs.Tryz.prog E132.eT 132 (vernierref04_Shr.c k) := FnOk.walk (E := E132) (body := B132) Go.Proofs.Tryz.func132 rfl (by rfl) Go.Proofs.Tryz.ntmps132 S132 rfl (fun k x => vernierref04_Shr.f k x.1 x.2) vernierref04_Shr.G (fun k => ⟨vernierref04_Cut.ok k, vernierref04_two.ok k, vernierref04_digit.ok, trivial⟩) 4000 vernierref04_Shr.cuts ⟨⟨fun _ => rfl, fun k x q h => (vernierref04_Shr.w0 k x).trans h⟩, trivial⟩ (fun k x r h => (vernierref04_Shr.w k x).trans h) k
noncomputable def E133 : En := ⟨Go.Proofs.Tryz.prog, 156, Go.Proofs.Tryz.f133.ntmps⟩
noncomputable def S133 : Sig := ⟨[.s], [(.rd .i64)], false, [.s], [(.int .u64)], false⟩
noncomputable def B133 : Go.Code := Go.Proofs.Tryz.f133.body.get!
def vernierref04_Word.l0 : Nat → List Int → Int → Int → Option (Int)
 | 0, _, _, _ => none
 | k + 1, x0, x3, x4 => if x4 ≥ 0 then ((vernierref04_digit.f x0 x4).bind fun t100 => (vernierref04_Word.l0 k x0 (IntKind.u64.wrap ((IntKind.u64.wrap (x3 * 16777216)) + (IntKind.u64.wrap t100))) (wrap64 (x4 - 1)))) else (some x3)
def vernierref04_Word.f (k : Nat) (l0 : List Int) : Option (Int) := vernierref04_Word.l0 k l0 0 2
--@ok
noncomputable def vernierref04_Word.c (k : Nat) : Con := S133.con fun x => vernierref04_Word.f k x
noncomputable def vernierref04_Word.G (k : Nat) : List (Go.FuncId × Con) := [(143, vernierref04_digit.c)]
noncomputable def vernierref04_Word.cuts : List (Cut (TT S133.sb)) := [⟨[6, 4, 1, 0, 1, 1], [.sc 0 (.rd .i64), .sc 3 (.int .u64), .sc 4 (.int .i64)], fun k x => vernierref04_Word.l0 k x.1 x.2.1 x.2.2⟩]
theorem vernierref04_Word.w0 (k : Nat) (x : ET [.sc 0 (.rd .i64), .sc 3 (.int .u64), .sc 4 (.int .i64)]) : walk E133 (vernierref04_Word.G k) (cutsAt k vernierref04_Word.cuts) (retE E133 Go.Proofs.Tryz.f133.results.toList S133) 4000 true (stackAt B133 [6, 4, 1, 0, 1, 1]) (mkE [.sc 0 (.rd .i64), .sc 3 (.int .u64), .sc 4 (.int .i64)] x St.nil) = vernierref04_Word.l0 (k + 1) x.1 x.2.1 x.2.2 := by kernel_rfl
theorem vernierref04_Word.w (k : Nat) (x : TT S133.sa) : walk E133 (vernierref04_Word.G k) (cutsAt k vernierref04_Word.cuts) (retE E133 Go.Proofs.Tryz.f133.results.toList S133) 4000 true [([], .code B133)] (St0 S133 x) = vernierref04_Word.f k x := by kernel_rfl
theorem vernierref04_Word.ok (k : Nat) : FnOk Go.Proofs.Tryz.prog E133.eT 133 (vernierref04_Word.c k) := FnOk.walk (E := E133) (body := B133) Go.Proofs.Tryz.func133 rfl (by rfl) Go.Proofs.Tryz.ntmps133 S133 rfl (fun k x => vernierref04_Word.f k x) vernierref04_Word.G (fun k => ⟨vernierref04_digit.ok, trivial⟩) 4000 vernierref04_Word.cuts ⟨⟨fun _ => rfl, fun k x q h => (vernierref04_Word.w0 k x).trans h⟩, trivial⟩ (fun k x r h => (vernierref04_Word.w k x).trans h) k
noncomputable def E98 : En := ⟨Go.Proofs.Tryz.prog, 156, Go.Proofs.Tryz.f98.ntmps⟩
noncomputable def S98 : Sig := ⟨[.s, .s, .s, .s], [.bool, (.rd .i64), (.int .i64), .bool], false, [.g 6], [(.int .i64), .bool, (.int .i64), (.int .u64), (.int .u64), .bool], false⟩
noncomputable def B98 : Go.Code := Go.Proofs.Tryz.f98.body.get!
mutual
def vernierref07_Exactly.j0 : Nat → List Int → Bool → Int → Int → Bool → Int → Bool → Option (Int × Bool × Int × Int × Int × Bool)
 | 0, _, _, _, _, _, _, _ => none
 | k + 1, x1, x3, x9, x10000, x10001, x10002, x10005 => if x9 > 128 then ((vernierref04_Low.f k x1 (wrap64 (x9 - 128))).bind fun t103 => (if x3 = true then (vernierref07_Exactly.j1 k x1 x9 x10000 x10001 x10002 true) else (vernierref07_Exactly.j1 k x1 x9 x10000 x10001 x10002 t103))) else ((vernierref04_Word.f k x1).bind fun t104 => ((vernierref04_Shr.f k x1 64).bind fun t105 => ((vernierref04_Word.f k t105).bind fun t106 => (some (x10000, x10001, x10002, t106, t104, x10005)))))
def vernierref07_Exactly.j1 : Nat → List Int → Int → Int → Bool → Int → Bool → Option (Int × Bool × Int × Int × Int × Bool)
 | 0, _, _, _, _, _, _ => none
 | k + 1, x1, x9, x10000, x10001, x10002, x10005 => (vernierref04_Shr.f k x1 (wrap64 (x9 - 128))).bind fun t107 => ((vernierref04_Word.f k t107).bind fun t108 => ((vernierref04_Shr.f k t107 64).bind fun t109 => ((vernierref04_Word.f k t109).bind fun t110 => (some (x10000, x10001, x10002, t110, t108, x10005)))))
end
def vernierref07_Exactly.f (k : Nat) (a0 : Bool) (l1 : List Int) (a2 : Int) (a3 : Bool) : Option (Int × Bool × Int × Int × Int × Bool) := (vernierref04_Bits.f k l1).bind fun t100 => (if t100 = 0 then (some (0, false, 0, 0, 0, false)) else ((vernierref07_Held.f (wrap64 ((wrap64 (a2 + t100)) - 1))).bind fun t101 => (if t100 < 128 then ((vernierref04_Shl.f k l1 (wrap64 (128 - t100))).bind fun t102 => (vernierref07_Exactly.j0 k t102 a3 t100 1 a0 t101 a3)) else (vernierref07_Exactly.j0 k l1 a3 t100 1 a0 t101 a3))))
--@ok
noncomputable def vernierref07_Exactly.c (k : Nat) : Con := S98.con fun x => vernierref07_Exactly.f k x.1 x.2.1 x.2.2.1 x.2.2.2
noncomputable def vernierref07_Exactly.G (k : Nat) : List (Go.FuncId × Con) := [(101, vernierref04_Shl.c k), (129, vernierref04_Bits.c k), (130, vernierref07_Held.c), (131, vernierref04_Low.c k), (132, vernierref04_Shr.c k), (133, vernierref04_Word.c k)]
noncomputable def vernierref07_Exactly.cuts : List (Cut (TT S98.sb)) := [⟨[1, 1, 1, 1, 1], [.sc 1 (.rd .i64), .sc 3 (.bool), .sc 9 (.int .i64), .box 8 68 [.int .i64, .bool, .int .i64, .int .u64, .int .u64, .bool], .box 10 68 [.int .i64, .bool, .int .i64, .int .u64, .int .u64, .bool]], fun k x => vernierref07_Exactly.j0 k x.1 x.2.1 x.2.2.1 x.2.2.2.2.1 x.2.2.2.2.2.1 x.2.2.2.2.2.2.1 x.2.2.2.2.2.2.2.2.2⟩, ⟨[1, 1, 2, 1, 0, 1, 1, 1, 1, 1], [.sc 1 (.rd .i64), .sc 9 (.int .i64), .box 8 68 [.int .i64, .bool, .int .i64, .int .u64, .int .u64, .bool], .box 10 68 [.int .i64, .bool, .int .i64, .int .u64, .int .u64, .bool]], fun k x => vernierref07_Exactly.j1 k x.1 x.2.1 x.2.2.2.1 x.2.2.2.2.1 x.2.2.2.2.2.1 x.2.2.2.2.2.2.2.2⟩]
theorem vernierref07_Exactly.w0 (k : Nat) (x : ET [.sc 1 (.rd .i64), .sc 3 (.bool), .sc 9 (.int .i64), .box 8 68 [.int .i64, .bool, .int .i64, .int .u64, .int .u64, .bool], .box 10 68 [.int .i64, .bool, .int .i64, .int .u64, .int .u64, .bool]]) : walk E98 (vernierref07_Exactly.G k) (cutsAt k vernierref07_Exactly.cuts) (retE E98 Go.Proofs.Tryz.f98.results.toList S98) 4000 true (stackAt B98 [1, 1, 1, 1, 1]) (mkE [.sc 1 (.rd .i64), .sc 3 (.bool), .sc 9 (.int .i64), .box 8 68 [.int .i64, .bool, .int .i64, .int .u64, .int .u64, .bool], .box 10 68 [.int .i64, .bool, .int .i64, .int .u64, .int .u64, .bool]] x St.nil) = vernierref07_Exactly.j0 (k + 1) x.1 x.2.1 x.2.2.1 x.2.2.2.2.1 x.2.2.2.2.2.1 x.2.2.2.2.2.2.1 x.2.2.2.2.2.2.2.2.2 := by kernel_rfl
theorem vernierref07_Exactly.w1 (k : Nat) (x : ET [.sc 1 (.rd .i64), .sc 9 (.int .i64), .box 8 68 [.int .i64, .bool, .int .i64, .int .u64, .int .u64, .bool], .box 10 68 [.int .i64, .bool, .int .i64, .int .u64, .int .u64, .bool]]) : walk E98 (vernierref07_Exactly.G k) (cutsAt k vernierref07_Exactly.cuts) (retE E98 Go.Proofs.Tryz.f98.results.toList S98) 4000 true (stackAt B98 [1, 1, 2, 1, 0, 1, 1, 1, 1, 1]) (mkE [.sc 1 (.rd .i64), .sc 9 (.int .i64), .box 8 68 [.int .i64, .bool, .int .i64, .int .u64, .int .u64, .bool], .box 10 68 [.int .i64, .bool, .int .i64, .int .u64, .int .u64, .bool]] x St.nil) = vernierref07_Exactly.j1 (k + 1) x.1 x.2.1 x.2.2.2.1 x.2.2.2.2.1 x.2.2.2.2.2.1 x.2.2.2.2.2.2.2.2 := by kernel_rfl
theorem vernierref07_Exactly.w (k : Nat) (x : TT S98.sa) : walk E98 (vernierref07_Exactly.G k) (cutsAt k vernierref07_Exactly.cuts) (retE E98 Go.Proofs.Tryz.f98.results.toList S98) 4000 true [([], .code B98)] (St0 S98 x) = vernierref07_Exactly.f k x.1 x.2.1 x.2.2.1 x.2.2.2 := by kernel_rfl
theorem vernierref07_Exactly.ok (k : Nat) : FnOk Go.Proofs.Tryz.prog E98.eT 98 (vernierref07_Exactly.c k) := FnOk.walk (E := E98) (body := B98) Go.Proofs.Tryz.func98 rfl (by rfl) Go.Proofs.Tryz.ntmps98 S98 rfl (fun k x => vernierref07_Exactly.f k x.1 x.2.1 x.2.2.1 x.2.2.2) vernierref07_Exactly.G (fun k => ⟨vernierref04_Shl.ok k, vernierref04_Bits.ok k, vernierref07_Held.ok, vernierref04_Low.ok k, vernierref04_Shr.ok k, vernierref04_Word.ok k, trivial⟩) 4000 vernierref07_Exactly.cuts ⟨⟨fun _ => rfl, fun k x q h => (vernierref07_Exactly.w0 k x).trans h⟩, ⟨fun _ => rfl, fun k x q h => (vernierref07_Exactly.w1 k x).trans h⟩, trivial⟩ (fun k x r h => (vernierref07_Exactly.w k x).trans h) k
noncomputable def E174 : En := ⟨Go.Proofs.Tryz.prog, 156, Go.Proofs.Tryz.f174.ntmps⟩
noncomputable def S174 : Sig := ⟨[.s, .s], [(.rd .i64), (.int .i64)], false, [.s], [(.int .i64)], false⟩
noncomputable def B174 : Go.Code := Go.Proofs.Tryz.f174.body.get!
def vernierref00_digit.f (l0 : List Int) (a1 : Int) : Option (Int) := if a1 < (nI l0.length) then (if 0 ≤ a1 then (some (rd l0 a1)) else (none)) else (some 0)
--@ok
def vernierref00_digit.fR (l0 : List Int) (a1 : Int) : Option (Int) := if a1 < (nI l0.length) then (if 0 ≤ a1 then (if a1 < (nI l0.length) then (some (rd l0 a1)) else (none)) else (none)) else (some 0)
theorem vernierref00_digit.fE (l0 : List Int) (a1 : Int) : vernierref00_digit.fR l0 a1 = vernierref00_digit.f l0 a1 := by
  unfold vernierref00_digit.fR vernierref00_digit.f
  exact iteC (fun h0 => iteC (fun h1 => (if_pos h0).trans (rfl)) (fun h1 => rfl)) (fun h0 => rfl)
noncomputable def vernierref00_digit.c : Con := S174.con fun x => vernierref00_digit.f x.1 x.2
noncomputable def vernierref00_digit.G (k : Nat) : List (Go.FuncId × Con) := []
noncomputable def vernierref00_digit.cuts : List (Cut (TT S174.sb)) := []
theorem vernierref00_digit.w (k : Nat) (x : TT S174.sa) : walk E174 (vernierref00_digit.G k) (cutsAt k vernierref00_digit.cuts) (retE E174 Go.Proofs.Tryz.f174.results.toList S174) 4000 true [([], .code B174)] (St0 S174 x) = vernierref00_digit.f x.1 x.2 := Eq.trans (b := vernierref00_digit.fR x.1 x.2) (by kernel_rfl) (vernierref00_digit.fE x.1 x.2)
theorem vernierref00_digit.ok : FnOk Go.Proofs.Tryz.prog E174.eT 174 (vernierref00_digit.c) := FnOk.walk (E := E174) (body := B174) Go.Proofs.Tryz.func174 rfl (by rfl) Go.Proofs.Tryz.ntmps174 S174 rfl (fun k x => vernierref00_digit.f x.1 x.2) vernierref00_digit.G (fun k => trivial) 4000 vernierref00_digit.cuts trivial (fun k x r h => (vernierref00_digit.w k x).trans h) 0
noncomputable def E172 : En := ⟨Go.Proofs.Tryz.prog, 156, Go.Proofs.Tryz.f172.ntmps⟩
noncomputable def S172 : Sig := ⟨[.s, .s], [(.rd .i64), (.int .i64)], false, [.s], [(.rd .i64)], true⟩
noncomputable def B172 : Go.Code := Go.Proofs.Tryz.f172.body.get!
def vernierref00_times.l0 : Nat → List Int → Int → List Int → Int → Int → Option (List Int)
 | 0, _, _, _, _, _ => none
 | k + 1, x0, x1, x5, x6, x7 => if x7 < (nI x0.length) then (if x1 > 0 then ((vernierref00_digit.f x0 x7).bind fun t100 => (if x5.length < 17592186044416 then (vernierref00_times.l0 k x0 x1 (x5 ++ ([Int.tmod (wrap64 ((wrap64 (t100 * x1)) + x6)) 16777216] : List Int)) (wrap64 (Int.tdiv (wrap64 ((wrap64 (t100 * x1)) + x6)) 16777216)) (wrap64 (x7 + 1))) else (none))) else (if x6 > 0 then ((vernierref00_digit.f x0 x7).bind fun t101 => (if x5.length < 17592186044416 then (vernierref00_times.l0 k x0 x1 (x5 ++ ([Int.tmod (wrap64 ((wrap64 (t101 * x1)) + x6)) 16777216] : List Int)) (wrap64 (Int.tdiv (wrap64 ((wrap64 (t101 * x1)) + x6)) 16777216)) (wrap64 (x7 + 1))) else (none))) else (some x5))) else (if x6 > 0 then ((vernierref00_digit.f x0 x7).bind fun t102 => (if x5.length < 17592186044416 then (vernierref00_times.l0 k x0 x1 (x5 ++ ([Int.tmod (wrap64 ((wrap64 (t102 * x1)) + x6)) 16777216] : List Int)) (wrap64 (Int.tdiv (wrap64 ((wrap64 (t102 * x1)) + x6)) 16777216)) (wrap64 (x7 + 1))) else (none))) else (some x5))
def vernierref00_times.f (k : Nat) (l0 : List Int) (a1 : Int) : Option (List Int) := vernierref00_times.l0 k l0 a1 ([] : List Int) 0 0
--@ok
noncomputable def vernierref00_times.c (k : Nat) : Con := S172.con fun x => vernierref00_times.f k x.1 x.2
noncomputable def vernierref00_times.G (k : Nat) : List (Go.FuncId × Con) := [(174, vernierref00_digit.c)]
noncomputable def vernierref00_times.cuts : List (Cut (TT S172.sb)) := [⟨[6, 4, 1, 0, 1, 1, 1], [.sc 0 (.rd .i64), .sc 1 (.int .i64), .lst 5 .i64 3, .sc 6 (.int .i64), .sc 7 (.int .i64)], fun k x => vernierref00_times.l0 k x.1 x.2.1 x.2.2.1 x.2.2.2.1 x.2.2.2.2⟩]
theorem vernierref00_times.w0 (k : Nat) (x : ET [.sc 0 (.rd .i64), .sc 1 (.int .i64), .lst 5 .i64 3, .sc 6 (.int .i64), .sc 7 (.int .i64)]) : walk E172 (vernierref00_times.G k) (cutsAt k vernierref00_times.cuts) (retE E172 Go.Proofs.Tryz.f172.results.toList S172) 4000 true (stackAt B172 [6, 4, 1, 0, 1, 1, 1]) (mkE [.sc 0 (.rd .i64), .sc 1 (.int .i64), .lst 5 .i64 3, .sc 6 (.int .i64), .sc 7 (.int .i64)] x St.nil) = vernierref00_times.l0 (k + 1) x.1 x.2.1 x.2.2.1 x.2.2.2.1 x.2.2.2.2 := by kernel_rfl
theorem vernierref00_times.w (k : Nat) (x : TT S172.sa) : walk E172 (vernierref00_times.G k) (cutsAt k vernierref00_times.cuts) (retE E172 Go.Proofs.Tryz.f172.results.toList S172) 4000 true [([], .code B172)] (St0 S172 x) = vernierref00_times.f k x.1 x.2 := by kernel_rfl
theorem vernierref00_times.ok (k : Nat) : FnOk Go.Proofs.Tryz.prog E172.eT 172 (vernierref00_times.c k) := FnOk.walk (E := E172) (body := B172) Go.Proofs.Tryz.func172 rfl (by rfl) Go.Proofs.Tryz.ntmps172 S172 rfl (fun k x => vernierref00_times.f k x.1 x.2) vernierref00_times.G (fun k => ⟨vernierref00_digit.ok, trivial⟩) 4000 vernierref00_times.cuts ⟨⟨fun _ => rfl, fun k x q h => (vernierref00_times.w0 k x).trans h⟩, trivial⟩ (fun k x r h => (vernierref00_times.w k x).trans h) k
noncomputable def E173 : En := ⟨Go.Proofs.Tryz.prog, 156, Go.Proofs.Tryz.f173.ntmps⟩
noncomputable def S173 : Sig := ⟨[.s], [(.int .i64)], false, [.s], [(.int .i64)], false⟩
noncomputable def B173 : Go.Code := Go.Proofs.Tryz.f173.body.get!
def vernierref00_two.l0 : Nat → Int → Int → Int → Option (Int)
 | 0, _, _, _ => none
 | k + 1, x0, x3, x4 => if x4 < x0 then (vernierref00_two.l0 k x0 (wrap64 (2 * x3)) (wrap64 (x4 + 1))) else (some x3)
def vernierref00_two.f (k : Nat) (a0 : Int) : Option (Int) := vernierref00_two.l0 k a0 1 0
--@ok
noncomputable def vernierref00_two.c (k : Nat) : Con := S173.con fun x => vernierref00_two.f k x
noncomputable def vernierref00_two.G (k : Nat) : List (Go.FuncId × Con) := []
noncomputable def vernierref00_two.cuts : List (Cut (TT S173.sb)) := [⟨[6, 4, 1, 0, 1, 1], [.sc 0 (.int .i64), .sc 3 (.int .i64), .sc 4 (.int .i64)], fun k x => vernierref00_two.l0 k x.1 x.2.1 x.2.2⟩]
theorem vernierref00_two.w0 (k : Nat) (x : ET [.sc 0 (.int .i64), .sc 3 (.int .i64), .sc 4 (.int .i64)]) : walk E173 (vernierref00_two.G k) (cutsAt k vernierref00_two.cuts) (retE E173 Go.Proofs.Tryz.f173.results.toList S173) 4000 true (stackAt B173 [6, 4, 1, 0, 1, 1]) (mkE [.sc 0 (.int .i64), .sc 3 (.int .i64), .sc 4 (.int .i64)] x St.nil) = vernierref00_two.l0 (k + 1) x.1 x.2.1 x.2.2 := by kernel_rfl
theorem vernierref00_two.w (k : Nat) (x : TT S173.sa) : walk E173 (vernierref00_two.G k) (cutsAt k vernierref00_two.cuts) (retE E173 Go.Proofs.Tryz.f173.results.toList S173) 4000 true [([], .code B173)] (St0 S173 x) = vernierref00_two.f k x := by kernel_rfl
theorem vernierref00_two.ok (k : Nat) : FnOk Go.Proofs.Tryz.prog E173.eT 173 (vernierref00_two.c k) := FnOk.walk (E := E173) (body := B173) Go.Proofs.Tryz.func173 rfl (by rfl) Go.Proofs.Tryz.ntmps173 S173 rfl (fun k x => vernierref00_two.f k x) vernierref00_two.G (fun k => trivial) 4000 vernierref00_two.cuts ⟨⟨fun _ => rfl, fun k x q h => (vernierref00_two.w0 k x).trans h⟩, trivial⟩ (fun k x r h => (vernierref00_two.w k x).trans h) k
end Go.Proofs.YtnjhblakghjdoaaGreat.Fn
