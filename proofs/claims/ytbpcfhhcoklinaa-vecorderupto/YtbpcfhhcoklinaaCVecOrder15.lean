-- Written by a program of this session out of its own texts (wip/tools/link.py).
import Derived.Below
import Derived.ChangeKeysEq
import Derived.Deep.MidRow
import Derived.Deep.RegionHeld3
import Derived.Great.BuildSlice
import Derived.IntWalk
import Derived.KernelRfl
import Derived.LaidEql
import Derived.Laws.Bits64
import Derived.Laws.BitsLemmas
import Derived.Laws.BytesArg
import Derived.Laws.IdiomCopy
import Derived.Laws.OwnMore
import Derived.Laws.Rows
import Derived.Laws.Slices
import Derived.Laws.StructEq
import Derived.Laws.Tables
import Derived.Lib.BitFns
import Derived.Lib.Slices
import Derived.Lib.Small
import Derived.Lib.Strings
import Derived.Lib.Walk
import Derived.Maps.AppendAt
import Derived.OrdersHeld
import Derived.RowKit
import Derived.Scope
import Derived.Shelf.Spec.BitsCarry
import Derived.Test.YtbpcfhhcoklinaaProg
import Derived.Test.YtbpcfhhcoklinaaCVecOrder1
import Derived.Test.YtbpcfhhcoklinaaCVecOrder4
import Derived.Test.YtbpcfhhcoklinaaCVecOrder9
set_option maxRecDepth 100000
set_option linter.unusedVariables false
noncomputable section
namespace Go.Proofs.Ytbpcfhhcoklinaa.Fn
open Go Go.RowKit Go.Proofs.Ytbpcfhhcoklinaa.Ab
noncomputable def E58 : En := ⟨Go.Proofs.Try.prog, 59, Go.Proofs.Try.f58.ntmps, none, false, []⟩
noncomputable def S58 : Sig := ⟨[.s], [(.int .i64)], false, [.s], [.bool], false⟩
noncomputable def B58 : Go.Code := Go.Proofs.Try.f58.body.get!
def shape_is.f (a0 : Int) : Option (Bool) := if a0 = 8 then (some true) else (if a0 = 16 then (some true) else (if a0 = 32 then (some true) else (if a0 = 64 then (some true) else (some false))))
--@ok
def shape_is.fR (a0 : Int) : Option (Bool) := if a0 = 8 then (if a0 = 8 then (some true) else (some false)) else (if a0 = 16 then (if a0 = 16 then (some true) else (some false)) else (if a0 = 32 then (if a0 = 32 then (some true) else (some false)) else (if a0 = 64 then (some true) else (some false))))
theorem shape_is.fE (a0 : Int) : shape_is.fR a0 = shape_is.f a0 := by
 unfold shape_is.fR shape_is.f
 exact iteC (fun h0 => (if_pos h0).trans (rfl)) (fun h0 => iteC (fun h1 => (if_pos h1).trans (rfl)) (fun h1 => iteC (fun h2 => (if_pos h2).trans (rfl)) (fun h2 => iteC (fun h3 => rfl) (fun h3 => rfl))))
noncomputable def shape_is.c : Con := S58.con fun x => shape_is.f x
noncomputable def shape_is.G (k : Nat) : List (Go.FuncId × Cn) := []
noncomputable def shape_is.cuts : List (Cut (TT S58.sb)) := []
theorem shape_is.w (k : Nat) (x : TT S58.sa) : walk E58 (shape_is.G k) (cutsAt E58 k shape_is.cuts) (retE E58 Go.Proofs.Try.f58.results.toList S58) 4000 true [([], .code B58)] (St0 S58 x) = shape_is.f x := Eq.trans (b := shape_is.fR x) (by kernel_rfl) (shape_is.fE x)
theorem shape_is.ok : FnOk Go.Proofs.Try.prog E58.eT 58 (shape_is.c) := FnOk.walk (E := E58) (body := B58) Go.Proofs.Try.func58 rfl (by rfl) Go.Proofs.Try.ntmps58 rfl S58 rfl (fun k x => shape_is.f x) shape_is.G (fun k => trivial) 4000 shape_is.cuts trivial (fun k x r h => (shape_is.w k x).trans h) 0
noncomputable def E101 : En := ⟨Go.Proofs.Try.prog, 59, Go.Proofs.Try.f101.ntmps, none, false, []⟩
noncomputable def S101 : Sig := ⟨[.s], [(.int .i64)], false, [.s], [(.int .u64)], false⟩
noncomputable def B101 : Go.Code := Go.Proofs.Try.f101.body.get!
def lead_ones.f (a0 : Int) : Option (Int) := if a0 = 64 then (some 18446744073709551615) else (if 0 ≤ a0 then (some (IntKind.u64.wrap ((shl .u64 1 a0) - 1))) else (none))
--@ok
noncomputable def lead_ones.c : Con := S101.con fun x => lead_ones.f x
noncomputable def lead_ones.G (k : Nat) : List (Go.FuncId × Cn) := []
noncomputable def lead_ones.cuts : List (Cut (TT S101.sb)) := []
theorem lead_ones.w (k : Nat) (x : TT S101.sa) : walk E101 (lead_ones.G k) (cutsAt E101 k lead_ones.cuts) (retE E101 Go.Proofs.Try.f101.results.toList S101) 4000 true [([], .code B101)] (St0 S101 x) = lead_ones.f x := by kernel_rfl
theorem lead_ones.ok : FnOk Go.Proofs.Try.prog E101.eT 101 (lead_ones.c) := FnOk.walk (E := E101) (body := B101) Go.Proofs.Try.func101 rfl (by rfl) Go.Proofs.Try.ntmps101 rfl S101 rfl (fun k x => lead_ones.f x) lead_ones.G (fun k => trivial) 4000 lead_ones.cuts trivial (fun k x r h => (lead_ones.w k x).trans h) 0
noncomputable def E71 : En := ⟨Go.Proofs.Try.prog, 59, Go.Proofs.Try.f71.ntmps, none, false, []⟩
noncomputable def S71 : Sig := ⟨[.s], [(.int .i64)], true, [.s, .s], [(.int .u64), .err], false⟩
noncomputable def B71 : Go.Code := Go.Proofs.Try.f71.body.get!
def lead_Mask.f (a0 : Int) : Option (Int × Option Int) := if a0 < 0 then (some (0, some 1)) else (if a0 > 64 then (some (0, some 1)) else ((lead_ones.f a0).bind fun t100 => (some (t100, none))))
--@ok
noncomputable def lead_Mask.c : Con := S71.con fun x => lead_Mask.f x
noncomputable def lead_Mask.G (k : Nat) : List (Go.FuncId × Cn) := [(101, .f lead_ones.c)]
noncomputable def lead_Mask.cuts : List (Cut (TT S71.sb)) := []
theorem lead_Mask.w (k : Nat) (x : TT S71.sa) : walk E71 (lead_Mask.G k) (cutsAt E71 k lead_Mask.cuts) (retE E71 Go.Proofs.Try.f71.results.toList S71) 4000 true [([], .code B71)] (St0 S71 x) = lead_Mask.f x := by kernel_rfl
theorem lead_Mask.ok : FnOk Go.Proofs.Try.prog E71.eT 71 (lead_Mask.c) := FnOk.walk (E := E71) (body := B71) Go.Proofs.Try.func71 rfl (by rfl) Go.Proofs.Try.ntmps71 rfl S71 rfl (fun k x => lead_Mask.f x) lead_Mask.G (fun k => ⟨lead_ones.ok, trivial⟩) 4000 lead_Mask.cuts trivial (fun k x r h => (lead_Mask.w k x).trans h) 0
noncomputable def E52 : En := ⟨Go.Proofs.Try.prog, 59, Go.Proofs.Try.f52.ntmps, none, false, []⟩
noncomputable def S52 : Sig := ⟨[.s, .s], [(.int .i64), (.int .u64)], true, [.s, .s], [(.int .u64), .err], false⟩
noncomputable def B52 : Go.Code := Go.Proofs.Try.f52.body.get!
def shape_Fold.f (a0 : Int) (a1 : Int) : Option (Int × Option Int) := (shape_is.f a0).bind fun t100 => (if t100 = true then ((lead_Mask.f a0).bind fun t101 => (some (Go.bits .and .u64 a1 t101.1, t101.2))) else (some (0, some 2)))
--@ok
noncomputable def shape_Fold.c : Con := S52.con fun x => shape_Fold.f x.1 x.2
noncomputable def shape_Fold.G (k : Nat) : List (Go.FuncId × Cn) := [(58, .f shape_is.c), (71, .f lead_Mask.c)]
noncomputable def shape_Fold.cuts : List (Cut (TT S52.sb)) := []
theorem shape_Fold.w (k : Nat) (x : TT S52.sa) : walk E52 (shape_Fold.G k) (cutsAt E52 k shape_Fold.cuts) (retE E52 Go.Proofs.Try.f52.results.toList S52) 4000 true [([], .code B52)] (St0 S52 x) = shape_Fold.f x.1 x.2 := by kernel_rfl
theorem shape_Fold.ok : FnOk Go.Proofs.Try.prog E52.eT 52 (shape_Fold.c) := FnOk.walk (E := E52) (body := B52) Go.Proofs.Try.func52 rfl (by rfl) Go.Proofs.Try.ntmps52 rfl S52 rfl (fun k x => shape_Fold.f x.1 x.2) shape_Fold.G (fun k => ⟨shape_is.ok, lead_Mask.ok, trivial⟩) 4000 shape_Fold.cuts trivial (fun k x r h => (shape_Fold.w k x).trans h) 0
noncomputable def E28 : En := ⟨Go.Proofs.Try.prog, 59, Go.Proofs.Try.f28.ntmps, none, false, []⟩
noncomputable def S28 : Sig := ⟨[.s, .s], [(.int .i64), (.int .u64)], true, [.s, .s], [(.int .u64), .err], false⟩
noncomputable def B28 : Go.Code := Go.Proofs.Try.f28.body.get!
def order_Neg.f (a0 : Int) (a1 : Int) : Option (Int × Option Int) := (shape_Fold.f a0 (IntKind.u64.wrap (-a1))).bind fun t100 => (some (t100.1, t100.2))
--@ok
noncomputable def order_Neg.c : Con := S28.con fun x => order_Neg.f x.1 x.2
noncomputable def order_Neg.G (k : Nat) : List (Go.FuncId × Cn) := [(52, .f shape_Fold.c)]
noncomputable def order_Neg.cuts : List (Cut (TT S28.sb)) := []
theorem order_Neg.w (k : Nat) (x : TT S28.sa) : walk E28 (order_Neg.G k) (cutsAt E28 k order_Neg.cuts) (retE E28 Go.Proofs.Try.f28.results.toList S28) 4000 true [([], .code B28)] (St0 S28 x) = order_Neg.f x.1 x.2 := by kernel_rfl
theorem order_Neg.ok : FnOk Go.Proofs.Try.prog E28.eT 28 (order_Neg.c) := FnOk.walk (E := E28) (body := B28) Go.Proofs.Try.func28 rfl (by rfl) Go.Proofs.Try.ntmps28 rfl S28 rfl (fun k x => order_Neg.f x.1 x.2) order_Neg.G (fun k => ⟨shape_Fold.ok, trivial⟩) 4000 order_Neg.cuts trivial (fun k x r h => (order_Neg.w k x).trans h) 0
noncomputable def E59 : En := ⟨Go.Proofs.Try.prog, 59, Go.Proofs.Try.f59.ntmps, none, false, []⟩
noncomputable def S59 : Sig := ⟨[.s, .s], [(.int .u64), (.int .i64)], true, [.s, .s], [(.int .i64), .err], false⟩
noncomputable def B59 : Go.Code := Go.Proofs.Try.f59.body.get!
def lead_Extend.f (a0 : Int) (a1 : Int) : Option (Int × Option Int) := if a1 < 1 then (some (0, some 1)) else (if a1 > 64 then (some (0, some 1)) else (if 0 ≤ (wrap64 (64 - a1)) then (some (shr .i64 (wrap64 (shl .u64 a0 (wrap64 (64 - a1)))) (wrap64 (64 - a1)), none)) else (none)))
--@ok
def lead_Extend.fR (a0 : Int) (a1 : Int) : Option (Int × Option Int) := if a1 < 1 then (some (0, some 1)) else (if a1 > 64 then (some (0, some 1)) else (if 0 ≤ (wrap64 (64 - a1)) then (if 0 ≤ (wrap64 (64 - a1)) then (some (shr .i64 (wrap64 (shl .u64 a0 (wrap64 (64 - a1)))) (wrap64 (64 - a1)), none)) else (none)) else (none)))
theorem lead_Extend.fE (a0 : Int) (a1 : Int) : lead_Extend.fR a0 a1 = lead_Extend.f a0 a1 := by
 unfold lead_Extend.fR lead_Extend.f
 exact iteC (fun h0 => rfl) (fun h0 => iteC (fun h1 => rfl) (fun h1 => iteC (fun h2 => (if_pos h2).trans (rfl)) (fun h2 => rfl)))
noncomputable def lead_Extend.c : Con := S59.con fun x => lead_Extend.f x.1 x.2
noncomputable def lead_Extend.G (k : Nat) : List (Go.FuncId × Cn) := []
noncomputable def lead_Extend.cuts : List (Cut (TT S59.sb)) := []
theorem lead_Extend.w (k : Nat) (x : TT S59.sa) : walk E59 (lead_Extend.G k) (cutsAt E59 k lead_Extend.cuts) (retE E59 Go.Proofs.Try.f59.results.toList S59) 4000 true [([], .code B59)] (St0 S59 x) = lead_Extend.f x.1 x.2 := Eq.trans (b := lead_Extend.fR x.1 x.2) (by kernel_rfl) (lead_Extend.fE x.1 x.2)
theorem lead_Extend.ok : FnOk Go.Proofs.Try.prog E59.eT 59 (lead_Extend.c) := FnOk.walk (E := E59) (body := B59) Go.Proofs.Try.func59 rfl (by rfl) Go.Proofs.Try.ntmps59 rfl S59 rfl (fun k x => lead_Extend.f x.1 x.2) lead_Extend.G (fun k => trivial) 4000 lead_Extend.cuts trivial (fun k x r h => (lead_Extend.w k x).trans h) 0
noncomputable def E36 : En := ⟨Go.Proofs.Try.prog, 59, Go.Proofs.Try.f36.ntmps, none, false, []⟩
noncomputable def S36 : Sig := ⟨[.s, .s], [(.int .i64), (.int .u64)], true, [.s, .s], [(.int .i64), .err], false⟩
noncomputable def B36 : Go.Code := Go.Proofs.Try.f36.body.get!
def shape_Rank.f (a0 : Int) (a1 : Int) : Option (Int × Option Int) := (shape_is.f a0).bind fun t100 => (if t100 = true then ((lead_Extend.f a1 a0).bind fun t101 => (some (t101.1, t101.2))) else (some (0, some 2)))
--@ok
noncomputable def shape_Rank.c : Con := S36.con fun x => shape_Rank.f x.1 x.2
noncomputable def shape_Rank.G (k : Nat) : List (Go.FuncId × Cn) := [(58, .f shape_is.c), (59, .f lead_Extend.c)]
noncomputable def shape_Rank.cuts : List (Cut (TT S36.sb)) := []
theorem shape_Rank.w (k : Nat) (x : TT S36.sa) : walk E36 (shape_Rank.G k) (cutsAt E36 k shape_Rank.cuts) (retE E36 Go.Proofs.Try.f36.results.toList S36) 4000 true [([], .code B36)] (St0 S36 x) = shape_Rank.f x.1 x.2 := by kernel_rfl
theorem shape_Rank.ok : FnOk Go.Proofs.Try.prog E36.eT 36 (shape_Rank.c) := FnOk.walk (E := E36) (body := B36) Go.Proofs.Try.func36 rfl (by rfl) Go.Proofs.Try.ntmps36 rfl S36 rfl (fun k x => shape_Rank.f x.1 x.2) shape_Rank.G (fun k => ⟨shape_is.ok, lead_Extend.ok, trivial⟩) 4000 shape_Rank.cuts trivial (fun k x r h => (shape_Rank.w k x).trans h) 0
noncomputable def E16 : En := ⟨Go.Proofs.Try.prog, 59, Go.Proofs.Try.f16.ntmps, none, false, []⟩
noncomputable def S16 : Sig := ⟨[.s, .s, .s], [(.int .i64), (.int .u64), (.int .u64)], true, [.s, .s], [(.int .i64), .err], false⟩
noncomputable def B16 : Go.Code := Go.Proofs.Try.f16.body.get!
def order_Cmp.f (a0 : Int) (a1 : Int) (a2 : Int) : Option (Int × Option Int) := (shape_Rank.f a0 a1).bind fun t100 => (if t100.2.isNone = true then ((shape_Rank.f a0 a2).bind fun t101 => (if t100.1 < t101.1 then (some ((-1), t101.2)) else (if t100.1 > t101.1 then (some (1, t101.2)) else (some (0, t101.2))))) else (some (0, some (t100.2.getD 0))))
--@ok
noncomputable def order_Cmp.c : Con := S16.con fun x => order_Cmp.f x.1 x.2.1 x.2.2
noncomputable def order_Cmp.G (k : Nat) : List (Go.FuncId × Cn) := [(36, .f shape_Rank.c)]
noncomputable def order_Cmp.cuts : List (Cut (TT S16.sb)) := []
theorem order_Cmp.w (k : Nat) (x : TT S16.sa) : walk E16 (order_Cmp.G k) (cutsAt E16 k order_Cmp.cuts) (retE E16 Go.Proofs.Try.f16.results.toList S16) 4000 true [([], .code B16)] (St0 S16 x) = order_Cmp.f x.1 x.2.1 x.2.2 := by kernel_rfl
theorem order_Cmp.ok : FnOk Go.Proofs.Try.prog E16.eT 16 (order_Cmp.c) := FnOk.walk (E := E16) (body := B16) Go.Proofs.Try.func16 rfl (by rfl) Go.Proofs.Try.ntmps16 rfl S16 rfl (fun k x => order_Cmp.f x.1 x.2.1 x.2.2) order_Cmp.G (fun k => ⟨shape_Rank.ok, trivial⟩) 4000 order_Cmp.cuts trivial (fun k x r h => (order_Cmp.w k x).trans h) 0
noncomputable def E30 : En := ⟨Go.Proofs.Try.prog, 59, Go.Proofs.Try.f30.ntmps, none, false, []⟩
noncomputable def S30 : Sig := ⟨[.s, .s, .s], [(.int .u64), (.int .u64), (.cp (.int .i64))], false, [.s], [(.int .i64)], false⟩
noncomputable def B30 : Go.Code := Go.Proofs.Try.f30.body.get!
def vec_Sort_1.f (a0 : Int) (a1 : Int) (a2 : Int) : Option (Int) := (order_Cmp.f a2 a0 a1).bind fun t100 => (if t100.2.isNone = true then (some t100.1) else (some 0))
--@ok
noncomputable def vec_Sort_1.c : Con := S30.con fun x => vec_Sort_1.f x.1 x.2.1 x.2.2
noncomputable def vec_Sort_1.G (k : Nat) : List (Go.FuncId × Cn) := [(16, .f order_Cmp.c)]
noncomputable def vec_Sort_1.cuts : List (Cut (TT S30.sb)) := []
theorem vec_Sort_1.w (k : Nat) (x : TT S30.sa) : walk E30 (vec_Sort_1.G k) (cutsAt E30 k vec_Sort_1.cuts) (retE E30 Go.Proofs.Try.f30.results.toList S30) 4000 true [([], .code B30)] (St0 S30 x) = vec_Sort_1.f x.1 x.2.1 x.2.2 := by kernel_rfl
theorem vec_Sort_1.ok : FnOk Go.Proofs.Try.prog E30.eT 30 (vec_Sort_1.c) := FnOk.walk (E := E30) (body := B30) Go.Proofs.Try.func30 rfl (by rfl) Go.Proofs.Try.ntmps30 rfl S30 rfl (fun k x => vec_Sort_1.f x.1 x.2.1 x.2.2) vec_Sort_1.G (fun k => ⟨order_Cmp.ok, trivial⟩) 4000 vec_Sort_1.cuts trivial (fun k x r h => (vec_Sort_1.w k x).trans h) 0
end Go.Proofs.Ytbpcfhhcoklinaa.Fn
