-- Written by a program of this session out of its own texts (wip/tools/link.py).
import Derived.ArgAppend
import Derived.Below
import Derived.BigQuiet
import Derived.Deep.AppendLies
import Derived.Deep.CutBlock
import Derived.Deep.DeepCutAuto
import Derived.Deep.Draws
import Derived.Deep.LoopGhost
import Derived.Deep.OwnRows
import Derived.Deep.QuietTactic
import Derived.Deep.RegionHeld3
import Derived.KernelRfl
import Derived.LaidEql
import Derived.Laws.BitsLemmas
import Derived.Laws.BytesArg
import Derived.Laws.IdiomCopy
import Derived.Laws.MakeOwn
import Derived.Laws.OwnMore
import Derived.Laws.Rows
import Derived.Laws.Slices
import Derived.Laws.StructEq
import Derived.Lib.AppendStr
import Derived.Lib.BitFns
import Derived.Lib.ConvBytes
import Derived.Lib.Slices
import Derived.Lib.Small
import Derived.Lib.Strings
import Derived.Lib.Walk
import Derived.Maps.AppendAt
import Derived.OrdersHeld
import Derived.OwnWalk
import Derived.RowKit
import Derived.RowKit3
import Derived.Tactics
import Derived.Test.YtfegofnplcmacaaProg
import Derived.WalkKit
import Derived.WideLaws
import Derived.Test.YtfegofnplcmacaaCRoundTies8
import Derived.Test.YtfegofnplcmacaaCRoundTies9
import Derived.Test.YtfegofnplcmacaaCRoundTies10
import Derived.Test.YtfegofnplcmacaaCRoundTies11
namespace Go.Proofs.Ytfegofnplcmacaa.PAll
open Go.RowKit Go.Proofs.YtfegofnplcmacaaW.PrintWords Go.Proofs.YtfegofnplcmacaaW.PrintLast Go.Proofs.YtfegofnplcmacaaW.PrintMore
attribute [local go_sem] max2_int min2_int max_two min_two max_three min_three max_four min_four
set_option linter.unusedVariables false
set_option linter.unusedSimpArgs false
mutual
def vernierlaw07_RoundTies.j0 : Nat → Int → Bool → Bool → Int → Bool → Int → Int → Int → Bool → Option (Bool)
 | 0, _, _, _, _, _, _, _, _, _ => none
 | k + 1, x0, x5, x46, x508000, x508001, x508002, x508003, x508004, x508005 => if x46 = true then (some x5) else ((round_Round.f k x0 x508000 false x508002 x508003 x508004 x508005).bind fun bt510 => (if bt510.2.isNone = true then (if bt510.1 = 0 then (vernierlaw07_RoundTies.j1 k x0 x5 bt510.1 true x508000 false x508002 x508003 x508004 x508005) else ((vernierref05_Power.f k (wrap64 (x0 - 1))).bind fun t513 => (vernierlaw07_RoundTies.j1 k x0 x5 bt510.1 (decide (bt510.1 ≥ t513)) x508000 false x508002 x508003 x508004 x508005))) else (vernierlaw07_RoundTies.j1 k x0 x5 bt510.1 true x508000 false x508002 x508003 x508004 x508005)))
def vernierlaw07_RoundTies.j1 : Nat → Int → Bool → Int → Bool → Int → Bool → Int → Int → Int → Bool → Option (Bool)
 | 0, _, _, _, _, _, _, _, _, _, _ => none
 | k + 1, x0, x5, x7, x67, x508000, x508001, x508002, x508003, x508004, x508005 => if x67 = true then (some false) else (if 0 ≤ (wrap64 (64 - x0)) then (if 0 ≤ (wrap64 (63 - x0)) then ((codec_Decode.f k 64 (Go.bits .or .u64 (shl .u64 x7 (wrap64 (64 - x0))) (shl .u64 1 (wrap64 (63 - x0))))).bind fun bt514 => ((codec_Decode.f k 64 (Go.bits .or .u64 (shl .u64 (IntKind.u64.wrap (x7 - 1)) (wrap64 (64 - x0))) (shl .u64 1 (wrap64 (63 - x0))))).bind fun bt520 => ((round_Of.f k bt514.1 bt514.2.1 bt514.2.2.1 bt514.2.2.2.1).bind fun bt526 => ((round_Of.f k bt520.1 bt520.2.1 bt520.2.2.1 bt520.2.2.2.1).bind fun bt534 => (if bt514.2.2.2.2.isNone = true then (if bt520.2.2.2.2.isNone = true then (if bt526.2.2.2.2.2.2.isNone = true then (if bt534.2.2.2.2.2.2.isNone = true then (vernierlaw07_RoundTies.j2 k x0 x5 x7 false x508000 x508001 x508002 x508003 x508004 x508005 bt526.1 bt526.2.1 bt526.2.2.1 bt526.2.2.2.1 bt526.2.2.2.2.1 bt526.2.2.2.2.2.1 bt534.1 bt534.2.1 bt534.2.2.1 bt534.2.2.2.1 bt534.2.2.2.2.1 bt534.2.2.2.2.2.1) else (vernierlaw07_RoundTies.j2 k x0 x5 x7 true x508000 x508001 x508002 x508003 x508004 x508005 bt526.1 bt526.2.1 bt526.2.2.1 bt526.2.2.2.1 bt526.2.2.2.2.1 bt526.2.2.2.2.2.1 bt534.1 bt534.2.1 bt534.2.2.1 bt534.2.2.2.1 bt534.2.2.2.2.1 bt534.2.2.2.2.2.1)) else (vernierlaw07_RoundTies.j2 k x0 x5 x7 true x508000 x508001 x508002 x508003 x508004 x508005 bt526.1 bt526.2.1 bt526.2.2.1 bt526.2.2.2.1 bt526.2.2.2.2.1 bt526.2.2.2.2.2.1 bt534.1 bt534.2.1 bt534.2.2.1 bt534.2.2.2.1 bt534.2.2.2.2.1 bt534.2.2.2.2.2.1)) else (vernierlaw07_RoundTies.j2 k x0 x5 x7 true x508000 x508001 x508002 x508003 x508004 x508005 bt526.1 bt526.2.1 bt526.2.2.1 bt526.2.2.2.1 bt526.2.2.2.2.1 bt526.2.2.2.2.2.1 bt534.1 bt534.2.1 bt534.2.2.1 bt534.2.2.2.1 bt534.2.2.2.2.1 bt534.2.2.2.2.2.1)) else (vernierlaw07_RoundTies.j2 k x0 x5 x7 true x508000 x508001 x508002 x508003 x508004 x508005 bt526.1 bt526.2.1 bt526.2.2.1 bt526.2.2.2.1 bt526.2.2.2.2.1 bt526.2.2.2.2.2.1 bt534.1 bt534.2.1 bt534.2.2.1 bt534.2.2.2.1 bt534.2.2.2.2.1 bt534.2.2.2.2.2.1)))))) else (none)) else (none))
def vernierlaw07_RoundTies.j2 : Nat → Int → Bool → Int → Bool → Int → Bool → Int → Int → Int → Bool → Int → Bool → Int → Int → Int → Bool → Int → Bool → Int → Int → Int → Bool → Option (Bool)
 | 0, _, _, _, _, _, _, _, _, _, _, _, _, _, _, _, _, _, _, _, _, _, _ => none
 | k + 1, x0, x5, x7, x116, x508000, x508001, x508002, x508003, x508004, x508005, x534000, x534001, x534002, x534003, x534004, x534005, x542000, x542001, x542002, x542003, x542004, x542005 => if x116 = true then (some false) else ((vernierref07_Cmp.f k x508000 x508001 x508002 x508003 x508004 x508005 x534000 x534001 x534002 x534003 x534004 x534005).bind fun t546 => ((vernierref07_Cmp.f k x508000 x508001 x508002 x508003 x508004 x508005 x542000 x542001 x542002 x542003 x542004 x542005).bind fun t547 => ((vernierref05_Power.f k (wrap64 (x0 - 1))).bind fun t548 => (if x5 = true then (if x7 = (IntKind.u64.wrap (t548 - 1)) then (if x7 = 1 then (some true) else (if t547 > 0 then (some true) else (if t547 = 0 then (some ((Int.tmod x7 2) == 0)) else (some false)))) else (if t546 < 0 then (if x7 = 1 then (some true) else (if t547 > 0 then (some true) else (if t547 = 0 then (some ((Int.tmod x7 2) == 0)) else (some false)))) else (if t546 = 0 then (if (Int.tmod x7 2) = 0 then (if x7 = 1 then (some true) else (if t547 > 0 then (some true) else (if t547 = 0 then (some ((Int.tmod x7 2) == 0)) else (some false)))) else (some false)) else (some false)))) else (some false)))))
end
def vernierlaw07_RoundTies.f (k : Nat) (a0 : Int) (a1_0 : Int) (a1_1 : Bool) (a1_2 : Int) (a1_3 : Int) (a1_4 : Int) (a1_5 : Bool) : Option (Bool) := (vernierlaw07_up.f k).bind fun t508 => ((vernierref07_Sound.f a1_0 a1_1 a1_2 a1_3 a1_4 a1_5).bind fun t509 => (if a0 = 8 then (if t509 = true then (if a1_0 = 1 then (vernierlaw07_RoundTies.j0 k a0 t508 a1_5 a1_0 a1_1 a1_2 a1_3 a1_4 a1_5) else (vernierlaw07_RoundTies.j0 k a0 t508 true a1_0 a1_1 a1_2 a1_3 a1_4 a1_5)) else (vernierlaw07_RoundTies.j0 k a0 t508 true a1_0 a1_1 a1_2 a1_3 a1_4 a1_5)) else (if a0 = 16 then (if t509 = true then (if a1_0 = 1 then (vernierlaw07_RoundTies.j0 k a0 t508 a1_5 a1_0 a1_1 a1_2 a1_3 a1_4 a1_5) else (vernierlaw07_RoundTies.j0 k a0 t508 true a1_0 a1_1 a1_2 a1_3 a1_4 a1_5)) else (vernierlaw07_RoundTies.j0 k a0 t508 true a1_0 a1_1 a1_2 a1_3 a1_4 a1_5)) else (if a0 = 32 then (if t509 = true then (if a1_0 = 1 then (vernierlaw07_RoundTies.j0 k a0 t508 a1_5 a1_0 a1_1 a1_2 a1_3 a1_4 a1_5) else (vernierlaw07_RoundTies.j0 k a0 t508 true a1_0 a1_1 a1_2 a1_3 a1_4 a1_5)) else (vernierlaw07_RoundTies.j0 k a0 t508 true a1_0 a1_1 a1_2 a1_3 a1_4 a1_5)) else (vernierlaw07_RoundTies.j0 k a0 t508 true a1_0 a1_1 a1_2 a1_3 a1_4 a1_5)))))
theorem vernierlaw07_RoundTies.mono_l : ∀ k, (∀ y0 y1 y2 y3 y4 y5 y6 y7 y8, LeO (vernierlaw07_RoundTies.j0 k y0 y1 y2 y3 y4 y5 y6 y7 y8) (vernierlaw07_RoundTies.j0 (k + 1) y0 y1 y2 y3 y4 y5 y6 y7 y8)) ∧ (∀ y0 y1 y2 y3 y4 y5 y6 y7 y8 y9, LeO (vernierlaw07_RoundTies.j1 k y0 y1 y2 y3 y4 y5 y6 y7 y8 y9) (vernierlaw07_RoundTies.j1 (k + 1) y0 y1 y2 y3 y4 y5 y6 y7 y8 y9)) ∧ (∀ y0 y1 y2 y3 y4 y5 y6 y7 y8 y9 y10 y11 y12 y13 y14 y15 y16 y17 y18 y19 y20 y21, LeO (vernierlaw07_RoundTies.j2 k y0 y1 y2 y3 y4 y5 y6 y7 y8 y9 y10 y11 y12 y13 y14 y15 y16 y17 y18 y19 y20 y21) (vernierlaw07_RoundTies.j2 (k + 1) y0 y1 y2 y3 y4 y5 y6 y7 y8 y9 y10 y11 y12 y13 y14 y15 y16 y17 y18 y19 y20 y21))
 | 0 => ⟨fun _ _ _ _ _ _ _ _ _ r h => by simp [vernierlaw07_RoundTies.j0] at h, fun _ _ _ _ _ _ _ _ _ _ r h => by simp [vernierlaw07_RoundTies.j1] at h, fun _ _ _ _ _ _ _ _ _ _ _ _ _ _ _ _ _ _ _ _ _ _ r h => by simp [vernierlaw07_RoundTies.j2] at h⟩
 | k + 1 => by
  obtain ⟨ih0, ih1, ih2⟩ := vernierlaw07_RoundTies.mono_l k
  refine ⟨?_, ?_, ?_⟩
  ·intro y0 y1 y2 y3 y4 y5 y6 y7 y8
   unfold vernierlaw07_RoundTies.j0
   repeat' first
   | (with_reducible exact ih0 _ _ _ _ _ _ _ _ _)
   | (with_reducible exact ih1 _ _ _ _ _ _ _ _ _ _)
   | (with_reducible exact ih2 _ _ _ _ _ _ _ _ _ _ _ _ _ _ _ _ _ _ _ _ _ _)
   | (with_reducible exact codec_Decode.mono _ _ _)
   | (with_reducible exact round_Of.mono _ _ _ _ _)
   | (with_reducible exact round_Round.mono _ _ _ _ _ _ _ _)
   | (with_reducible exact vernierlaw07_up.mono _)
   | (with_reducible exact vernierref05_Power.mono _ _)
   | (with_reducible exact vernierref07_Cmp.mono _ _ _ _ _ _ _ _ _ _ _ _ _)
   | (with_reducible exact LeO.refl _)
   | (with_reducible exact LeO.none _)
   | (with_reducible refine LeO.ite ?_ ?_)
   | (with_reducible refine LeO.bind ?_ (fun _ => ?_))
   | exact ih0 _ _ _ _ _ _ _ _ _
   | exact ih1 _ _ _ _ _ _ _ _ _ _
   | exact ih2 _ _ _ _ _ _ _ _ _ _ _ _ _ _ _ _ _ _ _ _ _ _
   | exact codec_Decode.mono _ _ _
   | exact round_Of.mono _ _ _ _ _
   | exact round_Round.mono _ _ _ _ _ _ _ _
   | exact vernierlaw07_up.mono _
   | exact vernierref05_Power.mono _ _
   | exact vernierref07_Cmp.mono _ _ _ _ _ _ _ _ _ _ _ _ _
   | exact LeO.none _
   | refine LeO.ite ?_ ?_
   | refine LeO.bind ?_ (fun _ => ?_)
  ·intro y0 y1 y2 y3 y4 y5 y6 y7 y8 y9
   unfold vernierlaw07_RoundTies.j1
   repeat' first
   | (with_reducible exact ih0 _ _ _ _ _ _ _ _ _)
   | (with_reducible exact ih1 _ _ _ _ _ _ _ _ _ _)
   | (with_reducible exact ih2 _ _ _ _ _ _ _ _ _ _ _ _ _ _ _ _ _ _ _ _ _ _)
   | (with_reducible exact codec_Decode.mono _ _ _)
   | (with_reducible exact round_Of.mono _ _ _ _ _)
   | (with_reducible exact round_Round.mono _ _ _ _ _ _ _ _)
   | (with_reducible exact vernierlaw07_up.mono _)
   | (with_reducible exact vernierref05_Power.mono _ _)
   | (with_reducible exact vernierref07_Cmp.mono _ _ _ _ _ _ _ _ _ _ _ _ _)
   | (with_reducible exact LeO.refl _)
   | (with_reducible exact LeO.none _)
   | (with_reducible refine LeO.ite ?_ ?_)
   | (with_reducible refine LeO.bind ?_ (fun _ => ?_))
   | exact ih0 _ _ _ _ _ _ _ _ _
   | exact ih1 _ _ _ _ _ _ _ _ _ _
   | exact ih2 _ _ _ _ _ _ _ _ _ _ _ _ _ _ _ _ _ _ _ _ _ _
   | exact codec_Decode.mono _ _ _
   | exact round_Of.mono _ _ _ _ _
   | exact round_Round.mono _ _ _ _ _ _ _ _
   | exact vernierlaw07_up.mono _
   | exact vernierref05_Power.mono _ _
   | exact vernierref07_Cmp.mono _ _ _ _ _ _ _ _ _ _ _ _ _
   | exact LeO.none _
   | refine LeO.ite ?_ ?_
   | refine LeO.bind ?_ (fun _ => ?_)
  ·intro y0 y1 y2 y3 y4 y5 y6 y7 y8 y9 y10 y11 y12 y13 y14 y15 y16 y17 y18 y19 y20 y21
   unfold vernierlaw07_RoundTies.j2
   repeat' first
   | (with_reducible exact ih0 _ _ _ _ _ _ _ _ _)
   | (with_reducible exact ih1 _ _ _ _ _ _ _ _ _ _)
   | (with_reducible exact ih2 _ _ _ _ _ _ _ _ _ _ _ _ _ _ _ _ _ _ _ _ _ _)
   | (with_reducible exact codec_Decode.mono _ _ _)
   | (with_reducible exact round_Of.mono _ _ _ _ _)
   | (with_reducible exact round_Round.mono _ _ _ _ _ _ _ _)
   | (with_reducible exact vernierlaw07_up.mono _)
   | (with_reducible exact vernierref05_Power.mono _ _)
   | (with_reducible exact vernierref07_Cmp.mono _ _ _ _ _ _ _ _ _ _ _ _ _)
   | (with_reducible exact LeO.refl _)
   | (with_reducible exact LeO.none _)
   | (with_reducible refine LeO.ite ?_ ?_)
   | (with_reducible refine LeO.bind ?_ (fun _ => ?_))
   | exact ih0 _ _ _ _ _ _ _ _ _
   | exact ih1 _ _ _ _ _ _ _ _ _ _
   | exact ih2 _ _ _ _ _ _ _ _ _ _ _ _ _ _ _ _ _ _ _ _ _ _
   | exact codec_Decode.mono _ _ _
   | exact round_Of.mono _ _ _ _ _
   | exact round_Round.mono _ _ _ _ _ _ _ _
   | exact vernierlaw07_up.mono _
   | exact vernierref05_Power.mono _ _
   | exact vernierref07_Cmp.mono _ _ _ _ _ _ _ _ _ _ _ _ _
   | exact LeO.none _
   | refine LeO.ite ?_ ?_
   | refine LeO.bind ?_ (fun _ => ?_)
theorem vernierlaw07_RoundTies.mono : ∀ a0 a1 a2 a3 a4 a5 a6 k, LeO (vernierlaw07_RoundTies.f k a0 a1 a2 a3 a4 a5 a6) (vernierlaw07_RoundTies.f (k + 1) a0 a1 a2 a3 a4 a5 a6) := by
 intro a0 a1 a2 a3 a4 a5 a6 k
 obtain ⟨ih0, ih1, ih2⟩ := vernierlaw07_RoundTies.mono_l k
 unfold vernierlaw07_RoundTies.f
 repeat' first
   | (with_reducible exact ih0 _ _ _ _ _ _ _ _ _)
   | (with_reducible exact ih1 _ _ _ _ _ _ _ _ _ _)
   | (with_reducible exact ih2 _ _ _ _ _ _ _ _ _ _ _ _ _ _ _ _ _ _ _ _ _ _)
   | (with_reducible exact codec_Decode.mono _ _ _)
   | (with_reducible exact round_Of.mono _ _ _ _ _)
   | (with_reducible exact round_Round.mono _ _ _ _ _ _ _ _)
   | (with_reducible exact vernierlaw07_up.mono _)
   | (with_reducible exact vernierref05_Power.mono _ _)
   | (with_reducible exact vernierref07_Cmp.mono _ _ _ _ _ _ _ _ _ _ _ _ _)
   | (with_reducible exact LeO.refl _)
   | (with_reducible exact LeO.none _)
   | (with_reducible refine LeO.ite ?_ ?_)
   | (with_reducible refine LeO.bind ?_ (fun _ => ?_))
   | exact ih0 _ _ _ _ _ _ _ _ _
   | exact ih1 _ _ _ _ _ _ _ _ _ _
   | exact ih2 _ _ _ _ _ _ _ _ _ _ _ _ _ _ _ _ _ _ _ _ _ _
   | exact codec_Decode.mono _ _ _
   | exact round_Of.mono _ _ _ _ _
   | exact round_Round.mono _ _ _ _ _ _ _ _
   | exact vernierlaw07_up.mono _
   | exact vernierref05_Power.mono _ _
   | exact vernierref07_Cmp.mono _ _ _ _ _ _ _ _ _ _ _ _ _
   | exact LeO.none _
   | refine LeO.ite ?_ ?_
   | refine LeO.bind ?_ (fun _ => ?_)
def vernierlaw07_RoundTies.T9 : Bool × List (List Nat × List Nat) := (true, [([], []), ([], []), ([1], [1]), ([0, 2], [0, 2]), ([], []), ([4], [4]), ([5], [5]), ([3, 6], [3, 6]), ([7], [7]), ([8], [8]), ([9], [9]), ([9], [9]), ([], []), ([12, 10, 8, 0, 1, 2, 3, 4, 5, 6, 7, 8, 9, 10, 12], [10, 12]), ([11, 13, 0, 1, 2, 3, 4, 5, 6, 7, 8, 9, 10, 11, 12, 13], [11])])
def vernierlaw07_RoundTies.B9 : List Nat := [0, 0, 2, 7, 0, 16, 48, 127, 255, 511, 1023, 1023, 0, 6143, 16383]
theorem vernierlaw07_RoundTies.tab9 : rtab .any (opsOf Try.f9 9) = vernierlaw07_RoundTies.T9 := by kernel_rfl
theorem vernierlaw07_RoundTies.bits9 : waitsOk vernierlaw07_RoundTies.T9.2 vernierlaw07_RoundTies.B9 = true := by kernel_rfl
def vernierlaw07_RoundTies.T10 : Bool × List (List Nat × List Nat) := (true, [([], []), ([0], [0]), ([], []), ([2], [2]), ([1, 3], [1, 3]), ([], []), ([5], [5]), ([6], [6]), ([4, 7], [4, 7]), ([8], [8]), ([9], [9]), ([10], [10]), ([10], [10]), ([], []), ([13, 11, 9, 0, 1, 2, 3, 4, 5, 6, 7, 8, 9, 10, 11, 13], [11, 13]), ([12, 14, 0, 1, 2, 3, 4, 5, 6, 7, 8, 9, 10, 11, 12, 13, 14], [12])])
def vernierlaw07_RoundTies.B10 : List Nat := [0, 1, 0, 4, 15, 0, 32, 96, 255, 511, 1023, 2047, 2047, 0, 12287, 32767]
theorem vernierlaw07_RoundTies.tab10 : rtab .any (opsOf Try.f9 10) = vernierlaw07_RoundTies.T10 := by kernel_rfl
theorem vernierlaw07_RoundTies.bits10 : waitsOk vernierlaw07_RoundTies.T10.2 vernierlaw07_RoundTies.B10 = true := by kernel_rfl
set_option maxHeartbeats 8000000 in
set_option maxRecDepth 100000 in
theorem vernierlaw07_RoundTies.calls (k : Nat) (a0 : Int) (a1_0 : Int) (a1_1 : Bool) (a1_2 : Int) (a1_3 : Int) (a1_4 : Int) (a1_5 : Bool) (r : Bool) (w : World) (h : vernierlaw07_RoundTies.f k a0 a1_0 a1_1 a1_2 a1_3 a1_4 a1_5 = some r) :
  Calls Try.prog 9 #[.int .i64 a0, .agg #[.int .i64 a1_0, .bool a1_1, .int .i64 a1_2, .int .u64 a1_3, .int .u64 a1_4, .bool a1_5]] w fun e w' => e = .returned (.bool r) ∧ Below w.heap.size w w' := by
 have hu24 := Try.underlying24
 have hu44 := Try.underlying44
 have hu27 := Try.underlying27
 have hu55 := Try.underlying55
 have HB := Aside0.mk (Below.refl w.heap.size w)
 have H : ((vernierlaw07_up.f k).bind fun t508 => ((vernierref07_Sound.f a1_0 a1_1 a1_2 a1_3 a1_4 a1_5).bind fun t509 => (if a0 = 8 then (if t509 = true then (if a1_0 = 1 then (vernierlaw07_RoundTies.j0 k a0 t508 a1_5 a1_0 a1_1 a1_2 a1_3 a1_4 a1_5) else (vernierlaw07_RoundTies.j0 k a0 t508 true a1_0 a1_1 a1_2 a1_3 a1_4 a1_5)) else (vernierlaw07_RoundTies.j0 k a0 t508 true a1_0 a1_1 a1_2 a1_3 a1_4 a1_5)) else (if a0 = 16 then (if t509 = true then (if a1_0 = 1 then (vernierlaw07_RoundTies.j0 k a0 t508 a1_5 a1_0 a1_1 a1_2 a1_3 a1_4 a1_5) else (vernierlaw07_RoundTies.j0 k a0 t508 true a1_0 a1_1 a1_2 a1_3 a1_4 a1_5)) else (vernierlaw07_RoundTies.j0 k a0 t508 true a1_0 a1_1 a1_2 a1_3 a1_4 a1_5)) else (if a0 = 32 then (if t509 = true then (if a1_0 = 1 then (vernierlaw07_RoundTies.j0 k a0 t508 a1_5 a1_0 a1_1 a1_2 a1_3 a1_4 a1_5) else (vernierlaw07_RoundTies.j0 k a0 t508 true a1_0 a1_1 a1_2 a1_3 a1_4 a1_5)) else (vernierlaw07_RoundTies.j0 k a0 t508 true a1_0 a1_1 a1_2 a1_3 a1_4 a1_5)) else (vernierlaw07_RoundTies.j0 k a0 t508 true a1_0 a1_1 a1_2 a1_3 a1_4 a1_5)))))) = some r := h
 clear h
 replace H := Option.bind_eq_some_iff.mp H
 obtain ⟨t508, A30, H⟩ := H
 replace H : ((vernierref07_Sound.f a1_0 a1_1 a1_2 a1_3 a1_4 a1_5).bind fun t509 => (if a0 = 8 then (if t509 = true then (if a1_0 = 1 then (vernierlaw07_RoundTies.j0 k a0 t508 a1_5 a1_0 a1_1 a1_2 a1_3 a1_4 a1_5) else (vernierlaw07_RoundTies.j0 k a0 t508 true a1_0 a1_1 a1_2 a1_3 a1_4 a1_5)) else (vernierlaw07_RoundTies.j0 k a0 t508 true a1_0 a1_1 a1_2 a1_3 a1_4 a1_5)) else (if a0 = 16 then (if t509 = true then (if a1_0 = 1 then (vernierlaw07_RoundTies.j0 k a0 t508 a1_5 a1_0 a1_1 a1_2 a1_3 a1_4 a1_5) else (vernierlaw07_RoundTies.j0 k a0 t508 true a1_0 a1_1 a1_2 a1_3 a1_4 a1_5)) else (vernierlaw07_RoundTies.j0 k a0 t508 true a1_0 a1_1 a1_2 a1_3 a1_4 a1_5)) else (if a0 = 32 then (if t509 = true then (if a1_0 = 1 then (vernierlaw07_RoundTies.j0 k a0 t508 a1_5 a1_0 a1_1 a1_2 a1_3 a1_4 a1_5) else (vernierlaw07_RoundTies.j0 k a0 t508 true a1_0 a1_1 a1_2 a1_3 a1_4 a1_5)) else (vernierlaw07_RoundTies.j0 k a0 t508 true a1_0 a1_1 a1_2 a1_3 a1_4 a1_5)) else (vernierlaw07_RoundTies.j0 k a0 t508 true a1_0 a1_1 a1_2 a1_3 a1_4 a1_5))))) = some r := H
 have A3 := Aside0.mk A30
 clear A30
 replace H := Option.bind_eq_some_iff.mp H
 obtain ⟨t509, A40, H⟩ := H
 replace H : (if a0 = 8 then (if t509 = true then (if a1_0 = 1 then (vernierlaw07_RoundTies.j0 k a0 t508 a1_5 a1_0 a1_1 a1_2 a1_3 a1_4 a1_5) else (vernierlaw07_RoundTies.j0 k a0 t508 true a1_0 a1_1 a1_2 a1_3 a1_4 a1_5)) else (vernierlaw07_RoundTies.j0 k a0 t508 true a1_0 a1_1 a1_2 a1_3 a1_4 a1_5)) else (if a0 = 16 then (if t509 = true then (if a1_0 = 1 then (vernierlaw07_RoundTies.j0 k a0 t508 a1_5 a1_0 a1_1 a1_2 a1_3 a1_4 a1_5) else (vernierlaw07_RoundTies.j0 k a0 t508 true a1_0 a1_1 a1_2 a1_3 a1_4 a1_5)) else (vernierlaw07_RoundTies.j0 k a0 t508 true a1_0 a1_1 a1_2 a1_3 a1_4 a1_5)) else (if a0 = 32 then (if t509 = true then (if a1_0 = 1 then (vernierlaw07_RoundTies.j0 k a0 t508 a1_5 a1_0 a1_1 a1_2 a1_3 a1_4 a1_5) else (vernierlaw07_RoundTies.j0 k a0 t508 true a1_0 a1_1 a1_2 a1_3 a1_4 a1_5)) else (vernierlaw07_RoundTies.j0 k a0 t508 true a1_0 a1_1 a1_2 a1_3 a1_4 a1_5)) else (vernierlaw07_RoundTies.j0 k a0 t508 true a1_0 a1_1 a1_2 a1_3 a1_4 a1_5)))) = some r := H
 have A4 := Aside0.mk A40
 clear A40
 have HC5 := Aside0.mk H
 clear H
 go_enter Try.func9, Try.ntmps9
 go_upto_region 3 with (first | ((with_reducible refine gate_dst (N := 3) rfl ?_); refine box_event ?hg (N := 3) ?hd (cs := #[.int .i64 a1_0, .bool a1_1, .int .i64 a1_2, .int .u64 a1_3, .int .u64 a1_4, .bool a1_5]) (t := 24) ?hr ?_; (case hd => rfl); (case hg => rfl); (case hr => first | (go_simp; done) | (go_simp; rfl)); intro gb507 hg w6 hbox hb; have n0_ := Aside0.mk (below_step (z3_ HB.out) hb); have n1_ := Aside0.mk (hbox); have n2_ := Aside0.mk ((by rw [hg]; exact (below_size (z3_ HB.out)) : w.heap.size ≤ gb507)); have n3_ := Aside0.mk ((by rw [hg]; exact (below_size (z3_ HB.out)) : w.heap.size ≤ gb507)); clear HB; have HB := n0_; have BK507 := n1_; have GW507 := n2_; have GE507 := n3_; clear n0_ n1_ n2_ n3_; clear hb hbox hg) | ((with_reducible refine gate_callee (f := 10) rfl ?_); refine goesL_ (some 21) rfl rfl Try.func10 (by kernel_rfl) rfl #[] rfl z5_ ?_; (with_reducible refine (vernierlaw07_up.calls k  t508 _ A3.out).mono ?_); rintro e w7 ⟨rfl, hb⟩; refine ⟨_, rfl, ?_⟩; have n0_ := Aside0.mk (blk_below (g := gb507) (z1_ BK507.out) hb); have n1_ := Aside0.mk (below_step (z3_ HB.out) hb); clear BK507; clear HB; have BK507 := n0_; have HB := n1_; clear n0_ n1_; (try clear hb); (try clear hb2); (try clear hk); (try clear hi); have hcz8_0 := z4_ BK507.out 0 (.int .i64 a1_0) rfl; have hcz8_1 := z4_ BK507.out 1 (.bool a1_1) rfl; have hcz8_2 := z4_ BK507.out 2 (.int .i64 a1_2) rfl; have hcz8_3 := z4_ BK507.out 3 (.int .u64 a1_3) rfl; have hcz8_4 := z4_ BK507.out 4 (.int .u64 a1_4) rfl; have hcz8_5 := z4_ BK507.out 5 (.bool a1_5) rfl; have hfz8_0 := blk_frozen BK507.out 0; have hfz8_1 := blk_frozen BK507.out 1; have hfz8_2 := blk_frozen BK507.out 2; have hfz8_3 := blk_frozen BK507.out 3; have hfz8_4 := blk_frozen BK507.out 4; have hfz8_5 := blk_frozen BK507.out 5) | ((with_reducible refine gate_callee (f := 16) rfl ?_); refine goesL_ (some 23) rfl rfl Try.func16 (by kernel_rfl) rfl #[.agg #[.int .i64 a1_0, .bool a1_1, .int .i64 a1_2, .int .u64 a1_3, .int .u64 a1_4, .bool a1_5]] rfl z5_ ?_; (with_reducible refine (vernierref07_Sound.calls a1_0 a1_1 a1_2 a1_3 a1_4 a1_5 t509 _ A4.out).mono ?_); rintro e w9 ⟨rfl, hb⟩; refine ⟨_, rfl, ?_⟩; have n0_ := Aside0.mk (blk_below (g := gb507) (z1_ BK507.out) hb); have n1_ := Aside0.mk (below_step (z3_ HB.out) hb); clear BK507; clear HB; have BK507 := n0_; have HB := n1_; clear n0_ n1_; (try clear hb); (try clear hb2); (try clear hk); (try clear hi)))
 (try simp only [Act.put, List.setIfInBounds_toArray, List.set_cons_zero, List.set_cons_succ])
 go_cut [46] (fun v46 wc => ∃ (kq : Nat) (x46_4 : Bool), v46 = .bool x46_4 ∧ Aside0 (vernierlaw07_RoundTies.j0 kq a0 t508 x46_4 a1_0 a1_1 a1_2 a1_3 a1_4 a1_5 = some r) ∧ Aside0 (kq ≤ k) ∧ Aside0 (wc.heap[gb507]? = some (.cells #[.int .i64 a1_0, .bool a1_1, .int .i64 a1_2, .int .u64 a1_3, .int .u64 a1_4, .bool a1_5] 24 (0, 0))) ∧ Aside0 (Below w.heap.size w wc))
 case first =>
  have H := HC5.out
  clear HC5
  by_cases c10 : a0 = 8
  ·rw [if_pos c10] at H
   have c10b0 : (a0 == 8) = true := beq_iff_eq.mpr c10
   have c10b1 : (a0 != 8) = false := bne_eq_false_iff_eq.mpr c10
   clear c10
   (first | rw [c10b0] | (simp only [i64_w, i32_w]; rw [c10b0]) | skip)
   by_cases c11 : t509 = true
   ·subst c11
    have H1 : (if a1_0 = 1 then (vernierlaw07_RoundTies.j0 k a0 t508 a1_5 a1_0 a1_1 a1_2 a1_3 a1_4 a1_5) else (vernierlaw07_RoundTies.j0 k a0 t508 true a1_0 a1_1 a1_2 a1_3 a1_4 a1_5)) = some r := by rw [if_pos rfl] at H; exact H
    clear H
    have H := H1
    clear H1
    by_cases c12 : a1_0 = 1
    ·rw [if_pos c12] at H
     have c12b0 : (a1_0 == 1) = true := beq_iff_eq.mpr c12
     have c12b1 : (a1_0 != 1) = false := bne_eq_false_iff_eq.mpr c12
     clear c12
     have H' := Aside0.mk H
     clear H
     have hcz13_0 := z4_ BK507.out 0 (.int .i64 a1_0) rfl
     have hcz13_1 := z4_ BK507.out 1 (.bool a1_1) rfl
     have hcz13_2 := z4_ BK507.out 2 (.int .i64 a1_2) rfl
     have hcz13_3 := z4_ BK507.out 3 (.int .u64 a1_3) rfl
     have hcz13_4 := z4_ BK507.out 4 (.int .u64 a1_4) rfl
     have hcz13_5 := z4_ BK507.out 5 (.bool a1_5) rfl
     have hfz13_0 := blk_frozen BK507.out 0
     have hfz13_1 := blk_frozen BK507.out 1
     have hfz13_2 := blk_frozen BK507.out 2
     have hfz13_3 := blk_frozen BK507.out 3
     have hfz13_4 := blk_frozen BK507.out 4
     have hfz13_5 := blk_frozen BK507.out 5
     go_wp2
     go_meet
     case rel => exact ⟨_, (a1_5), (by first | rfl | (simp; done) | (simp [*]; done)), H', ⟨by first | omega | exact Nat.le_refl _⟩, ⟨by refine z2_ ?_; exact BK507.out⟩, ⟨by repeat (first | (with_reducible first | exact HB.out | apply below_alloc | apply pw_below_drewN | apply below_drew1 | refine below_set ?_ GE507.out) | exact HB.out)⟩⟩
    ·rw [if_neg c12] at H
     have c12b0 : (a1_0 == 1) = false := beq_eq_false_iff_ne.mpr c12
     have c12b1 : (a1_0 != 1) = true := bne_iff_ne.mpr c12
     have H' := Aside0.mk H
     clear H
     have hcz14_0 := z4_ BK507.out 0 (.int .i64 a1_0) rfl
     have hcz14_1 := z4_ BK507.out 1 (.bool a1_1) rfl
     have hcz14_2 := z4_ BK507.out 2 (.int .i64 a1_2) rfl
     have hcz14_3 := z4_ BK507.out 3 (.int .u64 a1_3) rfl
     have hcz14_4 := z4_ BK507.out 4 (.int .u64 a1_4) rfl
     have hcz14_5 := z4_ BK507.out 5 (.bool a1_5) rfl
     have hfz14_0 := blk_frozen BK507.out 0
     have hfz14_1 := blk_frozen BK507.out 1
     have hfz14_2 := blk_frozen BK507.out 2
     have hfz14_3 := blk_frozen BK507.out 3
     have hfz14_4 := blk_frozen BK507.out 4
     have hfz14_5 := blk_frozen BK507.out 5
     go_wp2
     go_meet
     case rel => exact ⟨_, (true), (by first | rfl | (simp; done) | (simp [*]; done)), H', ⟨by first | omega | exact Nat.le_refl _⟩, ⟨by refine z2_ ?_; exact BK507.out⟩, ⟨by repeat (first | (with_reducible first | exact HB.out | apply below_alloc | apply pw_below_drewN | apply below_drew1 | refine below_set ?_ GE507.out) | exact HB.out)⟩⟩
   ·replace c11 := Bool.eq_false_iff.mpr c11
    subst c11
    have H1 : (vernierlaw07_RoundTies.j0 k a0 t508 true a1_0 a1_1 a1_2 a1_3 a1_4 a1_5) = some r := by rw [if_neg (show ¬ (false = true) by decide)] at H; exact H
    clear H
    have H := H1
    clear H1
    have H' := Aside0.mk H
    clear H
    go_wp2
    go_meet
    case rel => exact ⟨_, (true), (by first | rfl | (simp; done) | (simp [*]; done)), H', ⟨by first | omega | exact Nat.le_refl _⟩, ⟨by refine z2_ ?_; exact BK507.out⟩, ⟨by repeat (first | (with_reducible first | exact HB.out | apply below_alloc | apply pw_below_drewN | apply below_drew1 | refine below_set ?_ GE507.out) | exact HB.out)⟩⟩
  ·rw [if_neg c10] at H
   have c10b0 : (a0 == 8) = false := beq_eq_false_iff_ne.mpr c10
   have c10b1 : (a0 != 8) = true := bne_iff_ne.mpr c10
   (first | rw [c10b0] | (simp only [i64_w, i32_w]; rw [c10b0]) | skip)
   by_cases c15 : a0 = 16
   ·rw [if_pos c15] at H
    have c15b0 : (a0 == 16) = true := beq_iff_eq.mpr c15
    have c15b1 : (a0 != 16) = false := bne_eq_false_iff_eq.mpr c15
    clear c15
    by_cases c16 : t509 = true
    ·subst c16
     have H1 : (if a1_0 = 1 then (vernierlaw07_RoundTies.j0 k a0 t508 a1_5 a1_0 a1_1 a1_2 a1_3 a1_4 a1_5) else (vernierlaw07_RoundTies.j0 k a0 t508 true a1_0 a1_1 a1_2 a1_3 a1_4 a1_5)) = some r := by rw [if_pos rfl] at H; exact H
     clear H
     have H := H1
     clear H1
     by_cases c17 : a1_0 = 1
     ·rw [if_pos c17] at H
      have c17b0 : (a1_0 == 1) = true := beq_iff_eq.mpr c17
      have c17b1 : (a1_0 != 1) = false := bne_eq_false_iff_eq.mpr c17
      clear c17
      have H' := Aside0.mk H
      clear H
      have hcz18_0 := z4_ BK507.out 0 (.int .i64 a1_0) rfl
      have hcz18_1 := z4_ BK507.out 1 (.bool a1_1) rfl
      have hcz18_2 := z4_ BK507.out 2 (.int .i64 a1_2) rfl
      have hcz18_3 := z4_ BK507.out 3 (.int .u64 a1_3) rfl
      have hcz18_4 := z4_ BK507.out 4 (.int .u64 a1_4) rfl
      have hcz18_5 := z4_ BK507.out 5 (.bool a1_5) rfl
      have hfz18_0 := blk_frozen BK507.out 0
      have hfz18_1 := blk_frozen BK507.out 1
      have hfz18_2 := blk_frozen BK507.out 2
      have hfz18_3 := blk_frozen BK507.out 3
      have hfz18_4 := blk_frozen BK507.out 4
      have hfz18_5 := blk_frozen BK507.out 5
      go_wp2
      go_meet
      case rel => exact ⟨_, (a1_5), (by first | rfl | (simp; done) | (simp [*]; done)), H', ⟨by first | omega | exact Nat.le_refl _⟩, ⟨by refine z2_ ?_; exact BK507.out⟩, ⟨by repeat (first | (with_reducible first | exact HB.out | apply below_alloc | apply pw_below_drewN | apply below_drew1 | refine below_set ?_ GE507.out) | exact HB.out)⟩⟩
     ·rw [if_neg c17] at H
      have c17b0 : (a1_0 == 1) = false := beq_eq_false_iff_ne.mpr c17
      have c17b1 : (a1_0 != 1) = true := bne_iff_ne.mpr c17
      have H' := Aside0.mk H
      clear H
      have hcz19_0 := z4_ BK507.out 0 (.int .i64 a1_0) rfl
      have hcz19_1 := z4_ BK507.out 1 (.bool a1_1) rfl
      have hcz19_2 := z4_ BK507.out 2 (.int .i64 a1_2) rfl
      have hcz19_3 := z4_ BK507.out 3 (.int .u64 a1_3) rfl
      have hcz19_4 := z4_ BK507.out 4 (.int .u64 a1_4) rfl
      have hcz19_5 := z4_ BK507.out 5 (.bool a1_5) rfl
      have hfz19_0 := blk_frozen BK507.out 0
      have hfz19_1 := blk_frozen BK507.out 1
      have hfz19_2 := blk_frozen BK507.out 2
      have hfz19_3 := blk_frozen BK507.out 3
      have hfz19_4 := blk_frozen BK507.out 4
      have hfz19_5 := blk_frozen BK507.out 5
      go_wp2
      go_meet
      case rel => exact ⟨_, (true), (by first | rfl | (simp; done) | (simp [*]; done)), H', ⟨by first | omega | exact Nat.le_refl _⟩, ⟨by refine z2_ ?_; exact BK507.out⟩, ⟨by repeat (first | (with_reducible first | exact HB.out | apply below_alloc | apply pw_below_drewN | apply below_drew1 | refine below_set ?_ GE507.out) | exact HB.out)⟩⟩
    ·replace c16 := Bool.eq_false_iff.mpr c16
     subst c16
     have H1 : (vernierlaw07_RoundTies.j0 k a0 t508 true a1_0 a1_1 a1_2 a1_3 a1_4 a1_5) = some r := by rw [if_neg (show ¬ (false = true) by decide)] at H; exact H
     clear H
     have H := H1
     clear H1
     have H' := Aside0.mk H
     clear H
     go_wp2
     go_meet
     case rel => exact ⟨_, (true), (by first | rfl | (simp; done) | (simp [*]; done)), H', ⟨by first | omega | exact Nat.le_refl _⟩, ⟨by refine z2_ ?_; exact BK507.out⟩, ⟨by repeat (first | (with_reducible first | exact HB.out | apply below_alloc | apply pw_below_drewN | apply below_drew1 | refine below_set ?_ GE507.out) | exact HB.out)⟩⟩
   ·rw [if_neg c15] at H
    have c15b0 : (a0 == 16) = false := beq_eq_false_iff_ne.mpr c15
    have c15b1 : (a0 != 16) = true := bne_iff_ne.mpr c15
    by_cases c20 : a0 = 32
    ·rw [if_pos c20] at H
     have c20b0 : (a0 == 32) = true := beq_iff_eq.mpr c20
     have c20b1 : (a0 != 32) = false := bne_eq_false_iff_eq.mpr c20
     clear c20
     by_cases c21 : t509 = true
     ·subst c21
      have H1 : (if a1_0 = 1 then (vernierlaw07_RoundTies.j0 k a0 t508 a1_5 a1_0 a1_1 a1_2 a1_3 a1_4 a1_5) else (vernierlaw07_RoundTies.j0 k a0 t508 true a1_0 a1_1 a1_2 a1_3 a1_4 a1_5)) = some r := by rw [if_pos rfl] at H; exact H
      clear H
      have H := H1
      clear H1
      by_cases c22 : a1_0 = 1
      ·rw [if_pos c22] at H
       have c22b0 : (a1_0 == 1) = true := beq_iff_eq.mpr c22
       have c22b1 : (a1_0 != 1) = false := bne_eq_false_iff_eq.mpr c22
       clear c22
       have H' := Aside0.mk H
       clear H
       have hcz23_0 := z4_ BK507.out 0 (.int .i64 a1_0) rfl
       have hcz23_1 := z4_ BK507.out 1 (.bool a1_1) rfl
       have hcz23_2 := z4_ BK507.out 2 (.int .i64 a1_2) rfl
       have hcz23_3 := z4_ BK507.out 3 (.int .u64 a1_3) rfl
       have hcz23_4 := z4_ BK507.out 4 (.int .u64 a1_4) rfl
       have hcz23_5 := z4_ BK507.out 5 (.bool a1_5) rfl
       have hfz23_0 := blk_frozen BK507.out 0
       have hfz23_1 := blk_frozen BK507.out 1
       have hfz23_2 := blk_frozen BK507.out 2
       have hfz23_3 := blk_frozen BK507.out 3
       have hfz23_4 := blk_frozen BK507.out 4
       have hfz23_5 := blk_frozen BK507.out 5
       go_wp2
       go_meet
       case rel => exact ⟨_, (a1_5), (by first | rfl | (simp; done) | (simp [*]; done)), H', ⟨by first | omega | exact Nat.le_refl _⟩, ⟨by refine z2_ ?_; exact BK507.out⟩, ⟨by repeat (first | (with_reducible first | exact HB.out | apply below_alloc | apply pw_below_drewN | apply below_drew1 | refine below_set ?_ GE507.out) | exact HB.out)⟩⟩
      ·rw [if_neg c22] at H
       have c22b0 : (a1_0 == 1) = false := beq_eq_false_iff_ne.mpr c22
       have c22b1 : (a1_0 != 1) = true := bne_iff_ne.mpr c22
       have H' := Aside0.mk H
       clear H
       have hcz24_0 := z4_ BK507.out 0 (.int .i64 a1_0) rfl
       have hcz24_1 := z4_ BK507.out 1 (.bool a1_1) rfl
       have hcz24_2 := z4_ BK507.out 2 (.int .i64 a1_2) rfl
       have hcz24_3 := z4_ BK507.out 3 (.int .u64 a1_3) rfl
       have hcz24_4 := z4_ BK507.out 4 (.int .u64 a1_4) rfl
       have hcz24_5 := z4_ BK507.out 5 (.bool a1_5) rfl
       have hfz24_0 := blk_frozen BK507.out 0
       have hfz24_1 := blk_frozen BK507.out 1
       have hfz24_2 := blk_frozen BK507.out 2
       have hfz24_3 := blk_frozen BK507.out 3
       have hfz24_4 := blk_frozen BK507.out 4
       have hfz24_5 := blk_frozen BK507.out 5
       go_wp2
       go_meet
       case rel => exact ⟨_, (true), (by first | rfl | (simp; done) | (simp [*]; done)), H', ⟨by first | omega | exact Nat.le_refl _⟩, ⟨by refine z2_ ?_; exact BK507.out⟩, ⟨by repeat (first | (with_reducible first | exact HB.out | apply below_alloc | apply pw_below_drewN | apply below_drew1 | refine below_set ?_ GE507.out) | exact HB.out)⟩⟩
     ·replace c21 := Bool.eq_false_iff.mpr c21
      subst c21
      have H1 : (vernierlaw07_RoundTies.j0 k a0 t508 true a1_0 a1_1 a1_2 a1_3 a1_4 a1_5) = some r := by rw [if_neg (show ¬ (false = true) by decide)] at H; exact H
      clear H
      have H := H1
      clear H1
      have H' := Aside0.mk H
      clear H
      go_wp2
      go_meet
      case rel => exact ⟨_, (true), (by first | rfl | (simp; done) | (simp [*]; done)), H', ⟨by first | omega | exact Nat.le_refl _⟩, ⟨by refine z2_ ?_; exact BK507.out⟩, ⟨by repeat (first | (with_reducible first | exact HB.out | apply below_alloc | apply pw_below_drewN | apply below_drew1 | refine below_set ?_ GE507.out) | exact HB.out)⟩⟩
    ·rw [if_neg c20] at H
     have c20b0 : (a0 == 32) = false := beq_eq_false_iff_ne.mpr c20
     have c20b1 : (a0 != 32) = true := bne_iff_ne.mpr c20
     have H' := Aside0.mk H
     clear H
     go_wp2
     go_meet
     case rel => exact ⟨_, (true), (by first | rfl | (simp; done) | (simp [*]; done)), H', ⟨by first | omega | exact Nat.le_refl _⟩, ⟨by refine z2_ ?_; exact BK507.out⟩, ⟨by repeat (first | (with_reducible first | exact HB.out | apply below_alloc | apply pw_below_drewN | apply below_drew1 | refine below_set ?_ GE507.out) | exact HB.out)⟩⟩
 case rest =>
  clear HC5
  try clear c1
  try clear c2
  try clear p2
  try clear c9
  try clear c10
  try clear c10b0
  try clear c10b1
  try clear c11
  try clear c12
  try clear c12b0
  try clear c12b1
  try clear c15
  try clear c15b0
  try clear c15b1
  try clear c16
  try clear c17
  try clear c17b0
  try clear c17b1
  try clear c20
  try clear c20b0
  try clear c20b1
  try clear c21
  try clear c22
  try clear c22b0
  try clear c22b1
  try clear hcz13_0
  try clear hcz13_1
  try clear hcz13_2
  try clear hcz13_3
  try clear hcz13_4
  try clear hcz13_5
  try clear hcz14_0
  try clear hcz14_1
  try clear hcz14_2
  try clear hcz14_3
  try clear hcz14_4
  try clear hcz14_5
  try clear hcz18_0
  try clear hcz18_1
  try clear hcz18_2
  try clear hcz18_3
  try clear hcz18_4
  try clear hcz18_5
  try clear hcz19_0
  try clear hcz19_1
  try clear hcz19_2
  try clear hcz19_3
  try clear hcz19_4
  try clear hcz19_5
  try clear hcz23_0
  try clear hcz23_1
  try clear hcz23_2
  try clear hcz23_3
  try clear hcz23_4
  try clear hcz23_5
  try clear hcz24_0
  try clear hcz24_1
  try clear hcz24_2
  try clear hcz24_3
  try clear hcz24_4
  try clear hcz24_5
  try clear hcz8_0
  try clear hcz8_1
  try clear hcz8_2
  try clear hcz8_3
  try clear hcz8_4
  try clear hcz8_5
  try clear hfz13_0
  try clear hfz13_1
  try clear hfz13_2
  try clear hfz13_3
  try clear hfz13_4
  try clear hfz13_5
  try clear hfz14_0
  try clear hfz14_1
  try clear hfz14_2
  try clear hfz14_3
  try clear hfz14_4
  try clear hfz14_5
  try clear hfz18_0
  try clear hfz18_1
  try clear hfz18_2
  try clear hfz18_3
  try clear hfz18_4
  try clear hfz18_5
  try clear hfz19_0
  try clear hfz19_1
  try clear hfz19_2
  try clear hfz19_3
  try clear hfz19_4
  try clear hfz19_5
  try clear hfz23_0
  try clear hfz23_1
  try clear hfz23_2
  try clear hfz23_3
  try clear hfz23_4
  try clear hfz23_5
  try clear hfz24_0
  try clear hfz24_1
  try clear hfz24_2
  try clear hfz24_3
  try clear hfz24_4
  try clear hfz24_5
  try clear hfz8_0
  try clear hfz8_1
  try clear hfz8_2
  try clear hfz8_3
  try clear hfz8_4
  try clear hfz8_5
  obtain ⟨kq, x46_4, rfl, HA, HJ4, BK507, HB⟩ := hcut
  cases kq with
  | zero => exact absurd HA.out (by simp [vernierlaw07_RoundTies.j0])
  | succ kj4 =>
   have H := HA.out
   clear HA
   simp only [vernierlaw07_RoundTies.j0] at H
   by_cases c25 : x46_4 = true
   ·subst c25
    have H1 : (some t508) = some r := by rw [if_pos rfl] at H; exact H
    clear H
    have H := H1
    clear H1
    obtain rfl := Option.some.inj H
    go_wp2
    go_ret
    exact ⟨by first | rfl | (simp [errW_none, errW_some] <;> rfl) | (simp [*, errW_none, errW_some] <;> rfl), by repeat (first | (with_reducible first | exact HB.out | apply below_alloc | apply pw_below_drewN | apply below_drew1 | refine below_set ?_ GE507.out) | exact HB.out)⟩
   ·replace c25 := Bool.eq_false_iff.mpr c25
    subst c25
    have H1 : ((round_Round.f kj4 a0 a1_0 false a1_2 a1_3 a1_4 a1_5).bind fun bt510 => (if bt510.2.isNone = true then (if bt510.1 = 0 then (vernierlaw07_RoundTies.j1 kj4 a0 t508 bt510.1 true a1_0 false a1_2 a1_3 a1_4 a1_5) else ((vernierref05_Power.f kj4 (wrap64 (a0 - 1))).bind fun t513 => (vernierlaw07_RoundTies.j1 kj4 a0 t508 bt510.1 (decide (bt510.1 ≥ t513)) a1_0 false a1_2 a1_3 a1_4 a1_5))) else (vernierlaw07_RoundTies.j1 kj4 a0 t508 bt510.1 true a1_0 false a1_2 a1_3 a1_4 a1_5))) = some r := by rw [if_neg (show ¬ (false = true) by decide)] at H; exact H
    clear H
    have H := H1
    clear H1
    replace H := Option.bind_eq_some_iff.mp H
    obtain ⟨⟨t510, t511⟩, A260, H⟩ := H
    replace H : (if t511.isNone = true then (if t510 = 0 then (vernierlaw07_RoundTies.j1 kj4 a0 t508 t510 true a1_0 false a1_2 a1_3 a1_4 a1_5) else ((vernierref05_Power.f kj4 (wrap64 (a0 - 1))).bind fun t513 => (vernierlaw07_RoundTies.j1 kj4 a0 t508 t510 (decide (t510 ≥ t513)) a1_0 false a1_2 a1_3 a1_4 a1_5))) else (vernierlaw07_RoundTies.j1 kj4 a0 t508 t510 true a1_0 false a1_2 a1_3 a1_4 a1_5)) = some r := H
    have A26 := Aside0.mk A260
    clear A260
    have HC27 := Aside0.mk H
    clear H
    have hcz28_0 := z4_ BK507.out 0 (.int .i64 a1_0) rfl
    have hcz28_1 := z4_ BK507.out 1 (.bool a1_1) rfl
    have hcz28_2 := z4_ BK507.out 2 (.int .i64 a1_2) rfl
    have hcz28_3 := z4_ BK507.out 3 (.int .u64 a1_3) rfl
    have hcz28_4 := z4_ BK507.out 4 (.int .u64 a1_4) rfl
    have hcz28_5 := z4_ BK507.out 5 (.bool a1_5) rfl
    have hfz28_0 := blk_frozen BK507.out 0
    have hfz28_1 := blk_frozen BK507.out 1
    have hfz28_2 := blk_frozen BK507.out 2
    have hfz28_3 := blk_frozen BK507.out 3
    have hfz28_4 := blk_frozen BK507.out 4
    have hfz28_5 := blk_frozen BK507.out 5
    go_upto_region 7 with (first | ((with_reducible refine gate_callee (f := 14) rfl ?_); refine goesL_ (some 52) rfl rfl Try.func14 (by kernel_rfl) rfl #[.int .i64 a0, .agg #[.int .i64 a1_0, .bool false, .int .i64 a1_2, .int .u64 a1_3, .int .u64 a1_4, .bool a1_5]] rfl z5_ ?_; (with_reducible refine (round_Round.calls kj4 a0 a1_0 false a1_2 a1_3 a1_4 a1_5 t510 t511 _ A26.out).mono ?_); rintro e w29 ⟨rfl, hb⟩; refine ⟨_, rfl, ?_⟩; have n0_ := Aside0.mk (blk_below (g := gb507) (o := .cells #[.int .i64 a1_0, .bool false, .int .i64 a1_2, .int .u64 a1_3, .int .u64 a1_4, .bool a1_5] 24 (0, 0)) (by refine z2_ ?_; refine blk_put (cs := #[.int .i64 a1_0, .bool a1_1, .int .i64 a1_2, .int .u64 a1_3, .int .u64 a1_4, .bool a1_5]) ?_ 1 _ rfl; refine z2_ ?_; exact BK507.out) hb); have n1_ := Aside0.mk (below_step (z3_ HB.out) hb); clear BK507; clear HB; have BK507 := n0_; have HB := n1_; clear n0_ n1_; (try clear hb); (try clear hb2); (try clear hk); (try clear hi); (try simp only [errW_none, errW_some])))
    (try simp only [Act.put, List.setIfInBounds_toArray, List.set_cons_zero, List.set_cons_succ])
    go_cut [67] (fun v67 wc => ∃ (kq : Nat) (x67_26 : Bool), v67 = .bool x67_26 ∧ Aside0 (vernierlaw07_RoundTies.j1 kq a0 t508 t510 x67_26 a1_0 false a1_2 a1_3 a1_4 a1_5 = some r) ∧ Aside0 (kq ≤ kj4) ∧ Aside0 (wc.heap[gb507]? = some (.cells #[.int .i64 a1_0, .bool false, .int .i64 a1_2, .int .u64 a1_3, .int .u64 a1_4, .bool a1_5] 24 (0, 0))) ∧ Aside0 (Below w.heap.size w wc))
    case first =>
     have H := HC27.out
     clear HC27
     rcases t511 with _ | q512
     ·have H1 : (if t510 = 0 then (vernierlaw07_RoundTies.j1 kj4 a0 t508 t510 true a1_0 false a1_2 a1_3 a1_4 a1_5) else ((vernierref05_Power.f kj4 (wrap64 (a0 - 1))).bind fun t513 => (vernierlaw07_RoundTies.j1 kj4 a0 t508 t510 (decide (t510 ≥ t513)) a1_0 false a1_2 a1_3 a1_4 a1_5))) = some r := by rw [if_pos (show (none : Option Int).isNone = true by rfl)] at H; exact H
      clear H
      have H := H1
      clear H1
      try simp only [errW_none, errW_some]
      by_cases c30 : t510 = 0
      ·rw [if_pos c30] at H
       have c30b0 : (t510 == 0) = true := beq_iff_eq.mpr c30
       have c30b1 : (t510 != 0) = false := bne_eq_false_iff_eq.mpr c30
       clear c30
       (first | rw [c30b0] | (simp only [i64_w, i32_w]; rw [c30b0]) | skip)
       have H' := Aside0.mk H
       clear H
       go_wp2
       go_meet
       case rel => exact ⟨_, (true), (by first | rfl | (simp; done) | (simp [*]; done)), H', ⟨by have := HJ4.out; first | omega | exact Nat.le_refl _⟩, ⟨by refine z2_ ?_; exact BK507.out⟩, ⟨by repeat (first | (with_reducible first | exact HB.out | apply below_alloc | apply pw_below_drewN | apply below_drew1 | refine below_set ?_ GE507.out) | exact HB.out)⟩⟩
      ·rw [if_neg c30] at H
       have c30b0 : (t510 == 0) = false := beq_eq_false_iff_ne.mpr c30
       have c30b1 : (t510 != 0) = true := bne_iff_ne.mpr c30
       (first | rw [c30b0] | (simp only [i64_w, i32_w]; rw [c30b0]) | skip)
       replace H := Option.bind_eq_some_iff.mp H
       obtain ⟨t513, A310, H⟩ := H
       replace H : (vernierlaw07_RoundTies.j1 kj4 a0 t508 t510 (decide (t510 ≥ t513)) a1_0 false a1_2 a1_3 a1_4 a1_5) = some r := H
       have A31 := Aside0.mk A310
       clear A310
       have H' := Aside0.mk H
       clear H
       go_wp2_with (first | (go_at_call 26; (with_reducible refine (vernierref05_Power.calls kj4 (wrap64 (a0 - 1)) t513 _ A31.out).mono ?_); rintro e w' ⟨rfl, ⟨nd, rfl⟩⟩))
       go_meet
       case rel => exact ⟨_, (decide (t510 ≥ t513)), (by first | rfl | (simp; done) | (simp [*]; done)), H', ⟨by have := HJ4.out; first | omega | exact Nat.le_refl _⟩, ⟨by refine z2_ ?_; exact BK507.out⟩, ⟨by repeat (first | (with_reducible first | exact HB.out | apply below_alloc | apply pw_below_drewN | apply below_drew1 | refine below_set ?_ GE507.out) | exact HB.out)⟩⟩
     ·have H1 : (vernierlaw07_RoundTies.j1 kj4 a0 t508 t510 true a1_0 false a1_2 a1_3 a1_4 a1_5) = some r := by rw [if_neg (show ¬ (some q512).isNone = true by simp)] at H; exact H
      clear H
      have H := H1
      clear H1
      try simp only [errW_none, errW_some]
      have H' := Aside0.mk H
      clear H
      go_wp2
      go_meet
      case rel => exact ⟨_, (true), (by first | rfl | (simp; done) | (simp [*]; done)), H', ⟨by have := HJ4.out; first | omega | exact Nat.le_refl _⟩, ⟨by refine z2_ ?_; exact BK507.out⟩, ⟨by repeat (first | (with_reducible first | exact HB.out | apply below_alloc | apply pw_below_drewN | apply below_drew1 | refine below_set ?_ GE507.out) | exact HB.out)⟩⟩
    case rest =>
     clear HC27
     try clear c1
     try clear c2
     try clear p2
     try clear c3
     try clear q5
     try clear p6
     try clear c9
     try clear c10
     try clear c10b0
     try clear c10b1
     try clear c11
     try clear c12
     try clear c12b0
     try clear c12b1
     try clear c14
     try clear c15
     try clear c15b0
     try clear c15b1
     try clear c16
     try clear c17
     try clear c17b0
     try clear c17b1
     try clear c20
     try clear c20b0
     try clear c20b1
     try clear c21
     try clear c22
     try clear c22b0
     try clear c22b1
     try clear c25
     try clear c30
     try clear c30b0
     try clear c30b1
     try clear hcz13_0
     try clear hcz13_1
     try clear hcz13_2
     try clear hcz13_3
     try clear hcz13_4
     try clear hcz13_5
     try clear hcz14_0
     try clear hcz14_1
     try clear hcz14_2
     try clear hcz14_3
     try clear hcz14_4
     try clear hcz14_5
     try clear hcz18_0
     try clear hcz18_1
     try clear hcz18_2
     try clear hcz18_3
     try clear hcz18_4
     try clear hcz18_5
     try clear hcz19_0
     try clear hcz19_1
     try clear hcz19_2
     try clear hcz19_3
     try clear hcz19_4
     try clear hcz19_5
     try clear hcz23_0
     try clear hcz23_1
     try clear hcz23_2
     try clear hcz23_3
     try clear hcz23_4
     try clear hcz23_5
     try clear hcz24_0
     try clear hcz24_1
     try clear hcz24_2
     try clear hcz24_3
     try clear hcz24_4
     try clear hcz24_5
     try clear hcz28_0
     try clear hcz28_1
     try clear hcz28_2
     try clear hcz28_3
     try clear hcz28_4
     try clear hcz28_5
     try clear hcz8_0
     try clear hcz8_1
     try clear hcz8_2
     try clear hcz8_3
     try clear hcz8_4
     try clear hcz8_5
     try clear hfz13_0
     try clear hfz13_1
     try clear hfz13_2
     try clear hfz13_3
     try clear hfz13_4
     try clear hfz13_5
     try clear hfz14_0
     try clear hfz14_1
     try clear hfz14_2
     try clear hfz14_3
     try clear hfz14_4
     try clear hfz14_5
     try clear hfz18_0
     try clear hfz18_1
     try clear hfz18_2
     try clear hfz18_3
     try clear hfz18_4
     try clear hfz18_5
     try clear hfz19_0
     try clear hfz19_1
     try clear hfz19_2
     try clear hfz19_3
     try clear hfz19_4
     try clear hfz19_5
     try clear hfz23_0
     try clear hfz23_1
     try clear hfz23_2
     try clear hfz23_3
     try clear hfz23_4
     try clear hfz23_5
     try clear hfz24_0
     try clear hfz24_1
     try clear hfz24_2
     try clear hfz24_3
     try clear hfz24_4
     try clear hfz24_5
     try clear hfz28_0
     try clear hfz28_1
     try clear hfz28_2
     try clear hfz28_3
     try clear hfz28_4
     try clear hfz28_5
     try clear hfz8_0
     try clear hfz8_1
     try clear hfz8_2
     try clear hfz8_3
     try clear hfz8_4
     try clear hfz8_5
     try clear p2
     try clear q512
     obtain ⟨kq, x67_26, rfl, HA, HJ26, BK507, HB⟩ := hcut
     cases kq with
     | zero => exact absurd HA.out (by simp [vernierlaw07_RoundTies.j1])
     | succ kj26 =>
      have H := HA.out
      clear HA
      simp only [vernierlaw07_RoundTies.j1] at H
      by_cases c32 : x67_26 = true
      ·subst c32
       have H1 : (some false) = some r := by rw [if_pos rfl] at H; exact H
       clear H
       have H := H1
       clear H1
       obtain rfl := Option.some.inj H
       go_wp2
       go_ret
       exact ⟨by first | rfl | (simp [errW_none, errW_some] <;> rfl) | (simp [*, errW_none, errW_some] <;> rfl), by repeat (first | (with_reducible first | exact HB.out | apply below_alloc | apply pw_below_drewN | apply below_drew1 | refine below_set ?_ GE507.out) | exact HB.out)⟩
      ·replace c32 := Bool.eq_false_iff.mpr c32
       subst c32
       have H1 : (if 0 ≤ (wrap64 (64 - a0)) then (if 0 ≤ (wrap64 (63 - a0)) then ((codec_Decode.f kj26 64 (Go.bits .or .u64 (shl .u64 t510 (wrap64 (64 - a0))) (shl .u64 1 (wrap64 (63 - a0))))).bind fun bt514 => ((codec_Decode.f kj26 64 (Go.bits .or .u64 (shl .u64 (IntKind.u64.wrap (t510 - 1)) (wrap64 (64 - a0))) (shl .u64 1 (wrap64 (63 - a0))))).bind fun bt520 => ((round_Of.f kj26 bt514.1 bt514.2.1 bt514.2.2.1 bt514.2.2.2.1).bind fun bt526 => ((round_Of.f kj26 bt520.1 bt520.2.1 bt520.2.2.1 bt520.2.2.2.1).bind fun bt534 => (if bt514.2.2.2.2.isNone = true then (if bt520.2.2.2.2.isNone = true then (if bt526.2.2.2.2.2.2.isNone = true then (if bt534.2.2.2.2.2.2.isNone = true then (vernierlaw07_RoundTies.j2 kj26 a0 t508 t510 false a1_0 false a1_2 a1_3 a1_4 a1_5 bt526.1 bt526.2.1 bt526.2.2.1 bt526.2.2.2.1 bt526.2.2.2.2.1 bt526.2.2.2.2.2.1 bt534.1 bt534.2.1 bt534.2.2.1 bt534.2.2.2.1 bt534.2.2.2.2.1 bt534.2.2.2.2.2.1) else (vernierlaw07_RoundTies.j2 kj26 a0 t508 t510 true a1_0 false a1_2 a1_3 a1_4 a1_5 bt526.1 bt526.2.1 bt526.2.2.1 bt526.2.2.2.1 bt526.2.2.2.2.1 bt526.2.2.2.2.2.1 bt534.1 bt534.2.1 bt534.2.2.1 bt534.2.2.2.1 bt534.2.2.2.2.1 bt534.2.2.2.2.2.1)) else (vernierlaw07_RoundTies.j2 kj26 a0 t508 t510 true a1_0 false a1_2 a1_3 a1_4 a1_5 bt526.1 bt526.2.1 bt526.2.2.1 bt526.2.2.2.1 bt526.2.2.2.2.1 bt526.2.2.2.2.2.1 bt534.1 bt534.2.1 bt534.2.2.1 bt534.2.2.2.1 bt534.2.2.2.2.1 bt534.2.2.2.2.2.1)) else (vernierlaw07_RoundTies.j2 kj26 a0 t508 t510 true a1_0 false a1_2 a1_3 a1_4 a1_5 bt526.1 bt526.2.1 bt526.2.2.1 bt526.2.2.2.1 bt526.2.2.2.2.1 bt526.2.2.2.2.2.1 bt534.1 bt534.2.1 bt534.2.2.1 bt534.2.2.2.1 bt534.2.2.2.2.1 bt534.2.2.2.2.2.1)) else (vernierlaw07_RoundTies.j2 kj26 a0 t508 t510 true a1_0 false a1_2 a1_3 a1_4 a1_5 bt526.1 bt526.2.1 bt526.2.2.1 bt526.2.2.2.1 bt526.2.2.2.2.1 bt526.2.2.2.2.2.1 bt534.1 bt534.2.1 bt534.2.2.1 bt534.2.2.2.1 bt534.2.2.2.2.1 bt534.2.2.2.2.2.1)))))) else (none)) else (none)) = some r := by rw [if_neg (show ¬ (false = true) by decide)] at H; exact H
       clear H
       have H := H1
       clear H1
       obtain ⟨ji33, hji33⟩ : ∃ j_ : Int, (wrap64 (64 - a0)) = j_ := ⟨_, rfl⟩
       replace H : (if 0 ≤ (ji33) then (if 0 ≤ (wrap64 (63 - a0)) then ((codec_Decode.f kj26 64 (Go.bits .or .u64 (shl .u64 t510 (ji33)) (shl .u64 1 (wrap64 (63 - a0))))).bind fun bt514 => ((codec_Decode.f kj26 64 (Go.bits .or .u64 (shl .u64 (IntKind.u64.wrap (t510 - 1)) (ji33)) (shl .u64 1 (wrap64 (63 - a0))))).bind fun bt520 => ((round_Of.f kj26 bt514.1 bt514.2.1 bt514.2.2.1 bt514.2.2.2.1).bind fun bt526 => ((round_Of.f kj26 bt520.1 bt520.2.1 bt520.2.2.1 bt520.2.2.2.1).bind fun bt534 => (if bt514.2.2.2.2.isNone = true then (if bt520.2.2.2.2.isNone = true then (if bt526.2.2.2.2.2.2.isNone = true then (if bt534.2.2.2.2.2.2.isNone = true then (vernierlaw07_RoundTies.j2 kj26 a0 t508 t510 false a1_0 false a1_2 a1_3 a1_4 a1_5 bt526.1 bt526.2.1 bt526.2.2.1 bt526.2.2.2.1 bt526.2.2.2.2.1 bt526.2.2.2.2.2.1 bt534.1 bt534.2.1 bt534.2.2.1 bt534.2.2.2.1 bt534.2.2.2.2.1 bt534.2.2.2.2.2.1) else (vernierlaw07_RoundTies.j2 kj26 a0 t508 t510 true a1_0 false a1_2 a1_3 a1_4 a1_5 bt526.1 bt526.2.1 bt526.2.2.1 bt526.2.2.2.1 bt526.2.2.2.2.1 bt526.2.2.2.2.2.1 bt534.1 bt534.2.1 bt534.2.2.1 bt534.2.2.2.1 bt534.2.2.2.2.1 bt534.2.2.2.2.2.1)) else (vernierlaw07_RoundTies.j2 kj26 a0 t508 t510 true a1_0 false a1_2 a1_3 a1_4 a1_5 bt526.1 bt526.2.1 bt526.2.2.1 bt526.2.2.2.1 bt526.2.2.2.2.1 bt526.2.2.2.2.2.1 bt534.1 bt534.2.1 bt534.2.2.1 bt534.2.2.2.1 bt534.2.2.2.2.1 bt534.2.2.2.2.2.1)) else (vernierlaw07_RoundTies.j2 kj26 a0 t508 t510 true a1_0 false a1_2 a1_3 a1_4 a1_5 bt526.1 bt526.2.1 bt526.2.2.1 bt526.2.2.2.1 bt526.2.2.2.2.1 bt526.2.2.2.2.2.1 bt534.1 bt534.2.1 bt534.2.2.1 bt534.2.2.2.1 bt534.2.2.2.2.1 bt534.2.2.2.2.2.1)) else (vernierlaw07_RoundTies.j2 kj26 a0 t508 t510 true a1_0 false a1_2 a1_3 a1_4 a1_5 bt526.1 bt526.2.1 bt526.2.2.1 bt526.2.2.2.1 bt526.2.2.2.2.1 bt526.2.2.2.2.2.1 bt534.1 bt534.2.1 bt534.2.2.1 bt534.2.2.2.1 bt534.2.2.2.2.1 bt534.2.2.2.2.2.1)))))) else (none)) else (none)) = some r := by first | (rw [hji33] at H; exact H) | (simp only [hji33] at H ⊢; exact H)
       have hji33w : (IntKind.i64.wrap (64 - a0)) = ji33 := (i64_w _).trans hji33
       by_cases c34 : 0 ≤ (ji33)
       ·rw [if_pos c34] at H
        have c34b0 := eq_true c34
        have c34b1 : decide (0 ≤ (ji33)) = true := decide_eq_true c34
        clear c34
        obtain ⟨ji35, hji35⟩ : ∃ j_ : Int, (shl .u64 t510 (ji33)) = j_ := ⟨_, rfl⟩
        replace H : (if 0 ≤ (wrap64 (63 - a0)) then ((codec_Decode.f kj26 64 (Go.bits .or .u64 (ji35) (shl .u64 1 (wrap64 (63 - a0))))).bind fun bt514 => ((codec_Decode.f kj26 64 (Go.bits .or .u64 (shl .u64 (IntKind.u64.wrap (t510 - 1)) (ji33)) (shl .u64 1 (wrap64 (63 - a0))))).bind fun bt520 => ((round_Of.f kj26 bt514.1 bt514.2.1 bt514.2.2.1 bt514.2.2.2.1).bind fun bt526 => ((round_Of.f kj26 bt520.1 bt520.2.1 bt520.2.2.1 bt520.2.2.2.1).bind fun bt534 => (if bt514.2.2.2.2.isNone = true then (if bt520.2.2.2.2.isNone = true then (if bt526.2.2.2.2.2.2.isNone = true then (if bt534.2.2.2.2.2.2.isNone = true then (vernierlaw07_RoundTies.j2 kj26 a0 t508 t510 false a1_0 false a1_2 a1_3 a1_4 a1_5 bt526.1 bt526.2.1 bt526.2.2.1 bt526.2.2.2.1 bt526.2.2.2.2.1 bt526.2.2.2.2.2.1 bt534.1 bt534.2.1 bt534.2.2.1 bt534.2.2.2.1 bt534.2.2.2.2.1 bt534.2.2.2.2.2.1) else (vernierlaw07_RoundTies.j2 kj26 a0 t508 t510 true a1_0 false a1_2 a1_3 a1_4 a1_5 bt526.1 bt526.2.1 bt526.2.2.1 bt526.2.2.2.1 bt526.2.2.2.2.1 bt526.2.2.2.2.2.1 bt534.1 bt534.2.1 bt534.2.2.1 bt534.2.2.2.1 bt534.2.2.2.2.1 bt534.2.2.2.2.2.1)) else (vernierlaw07_RoundTies.j2 kj26 a0 t508 t510 true a1_0 false a1_2 a1_3 a1_4 a1_5 bt526.1 bt526.2.1 bt526.2.2.1 bt526.2.2.2.1 bt526.2.2.2.2.1 bt526.2.2.2.2.2.1 bt534.1 bt534.2.1 bt534.2.2.1 bt534.2.2.2.1 bt534.2.2.2.2.1 bt534.2.2.2.2.2.1)) else (vernierlaw07_RoundTies.j2 kj26 a0 t508 t510 true a1_0 false a1_2 a1_3 a1_4 a1_5 bt526.1 bt526.2.1 bt526.2.2.1 bt526.2.2.2.1 bt526.2.2.2.2.1 bt526.2.2.2.2.2.1 bt534.1 bt534.2.1 bt534.2.2.1 bt534.2.2.2.1 bt534.2.2.2.2.1 bt534.2.2.2.2.2.1)) else (vernierlaw07_RoundTies.j2 kj26 a0 t508 t510 true a1_0 false a1_2 a1_3 a1_4 a1_5 bt526.1 bt526.2.1 bt526.2.2.1 bt526.2.2.2.1 bt526.2.2.2.2.1 bt526.2.2.2.2.2.1 bt534.1 bt534.2.1 bt534.2.2.1 bt534.2.2.2.1 bt534.2.2.2.2.1 bt534.2.2.2.2.2.1)))))) else (none)) = some r := by first | (rw [hji35] at H; exact H) | (simp only [hji35] at H ⊢; exact H)
        have hji35_ : (IntKind.u64.wrap (t510 * 2 ^ min (ji33).toNat 64)) = ji35 := hji35
        have hji35z : (ji33) ≤ 64 → (IntKind.u64.wrap (t510 * 2 ^ (ji33).toNat)) = ji35 := shl_small hji35
        (try (have hji35Z_ := hji35z (by omega)))
        obtain ⟨ji36, hji36⟩ : ∃ j_ : Int, (wrap64 (63 - a0)) = j_ := ⟨_, rfl⟩
        replace H : (if 0 ≤ (ji36) then ((codec_Decode.f kj26 64 (Go.bits .or .u64 (ji35) (shl .u64 1 (ji36)))).bind fun bt514 => ((codec_Decode.f kj26 64 (Go.bits .or .u64 (shl .u64 (IntKind.u64.wrap (t510 - 1)) (ji33)) (shl .u64 1 (ji36)))).bind fun bt520 => ((round_Of.f kj26 bt514.1 bt514.2.1 bt514.2.2.1 bt514.2.2.2.1).bind fun bt526 => ((round_Of.f kj26 bt520.1 bt520.2.1 bt520.2.2.1 bt520.2.2.2.1).bind fun bt534 => (if bt514.2.2.2.2.isNone = true then (if bt520.2.2.2.2.isNone = true then (if bt526.2.2.2.2.2.2.isNone = true then (if bt534.2.2.2.2.2.2.isNone = true then (vernierlaw07_RoundTies.j2 kj26 a0 t508 t510 false a1_0 false a1_2 a1_3 a1_4 a1_5 bt526.1 bt526.2.1 bt526.2.2.1 bt526.2.2.2.1 bt526.2.2.2.2.1 bt526.2.2.2.2.2.1 bt534.1 bt534.2.1 bt534.2.2.1 bt534.2.2.2.1 bt534.2.2.2.2.1 bt534.2.2.2.2.2.1) else (vernierlaw07_RoundTies.j2 kj26 a0 t508 t510 true a1_0 false a1_2 a1_3 a1_4 a1_5 bt526.1 bt526.2.1 bt526.2.2.1 bt526.2.2.2.1 bt526.2.2.2.2.1 bt526.2.2.2.2.2.1 bt534.1 bt534.2.1 bt534.2.2.1 bt534.2.2.2.1 bt534.2.2.2.2.1 bt534.2.2.2.2.2.1)) else (vernierlaw07_RoundTies.j2 kj26 a0 t508 t510 true a1_0 false a1_2 a1_3 a1_4 a1_5 bt526.1 bt526.2.1 bt526.2.2.1 bt526.2.2.2.1 bt526.2.2.2.2.1 bt526.2.2.2.2.2.1 bt534.1 bt534.2.1 bt534.2.2.1 bt534.2.2.2.1 bt534.2.2.2.2.1 bt534.2.2.2.2.2.1)) else (vernierlaw07_RoundTies.j2 kj26 a0 t508 t510 true a1_0 false a1_2 a1_3 a1_4 a1_5 bt526.1 bt526.2.1 bt526.2.2.1 bt526.2.2.2.1 bt526.2.2.2.2.1 bt526.2.2.2.2.2.1 bt534.1 bt534.2.1 bt534.2.2.1 bt534.2.2.2.1 bt534.2.2.2.2.1 bt534.2.2.2.2.2.1)) else (vernierlaw07_RoundTies.j2 kj26 a0 t508 t510 true a1_0 false a1_2 a1_3 a1_4 a1_5 bt526.1 bt526.2.1 bt526.2.2.1 bt526.2.2.2.1 bt526.2.2.2.2.1 bt526.2.2.2.2.2.1 bt534.1 bt534.2.1 bt534.2.2.1 bt534.2.2.2.1 bt534.2.2.2.2.1 bt534.2.2.2.2.2.1)))))) else (none)) = some r := by first | (rw [hji36] at H; exact H) | (simp only [hji36] at H ⊢; exact H)
        have hji36w : (IntKind.i64.wrap (63 - a0)) = ji36 := (i64_w _).trans hji36
        by_cases c37 : 0 ≤ (ji36)
        ·rw [if_pos c37] at H
         have c37b0 := eq_true c37
         have c37b1 : decide (0 ≤ (ji36)) = true := decide_eq_true c37
         clear c37
         obtain ⟨ji38, hji38⟩ : ∃ j_ : Int, (shl .u64 1 (ji36)) = j_ := ⟨_, rfl⟩
         replace H : ((codec_Decode.f kj26 64 (Go.bits .or .u64 (ji35) (ji38))).bind fun bt514 => ((codec_Decode.f kj26 64 (Go.bits .or .u64 (shl .u64 (IntKind.u64.wrap (t510 - 1)) (ji33)) (ji38))).bind fun bt520 => ((round_Of.f kj26 bt514.1 bt514.2.1 bt514.2.2.1 bt514.2.2.2.1).bind fun bt526 => ((round_Of.f kj26 bt520.1 bt520.2.1 bt520.2.2.1 bt520.2.2.2.1).bind fun bt534 => (if bt514.2.2.2.2.isNone = true then (if bt520.2.2.2.2.isNone = true then (if bt526.2.2.2.2.2.2.isNone = true then (if bt534.2.2.2.2.2.2.isNone = true then (vernierlaw07_RoundTies.j2 kj26 a0 t508 t510 false a1_0 false a1_2 a1_3 a1_4 a1_5 bt526.1 bt526.2.1 bt526.2.2.1 bt526.2.2.2.1 bt526.2.2.2.2.1 bt526.2.2.2.2.2.1 bt534.1 bt534.2.1 bt534.2.2.1 bt534.2.2.2.1 bt534.2.2.2.2.1 bt534.2.2.2.2.2.1) else (vernierlaw07_RoundTies.j2 kj26 a0 t508 t510 true a1_0 false a1_2 a1_3 a1_4 a1_5 bt526.1 bt526.2.1 bt526.2.2.1 bt526.2.2.2.1 bt526.2.2.2.2.1 bt526.2.2.2.2.2.1 bt534.1 bt534.2.1 bt534.2.2.1 bt534.2.2.2.1 bt534.2.2.2.2.1 bt534.2.2.2.2.2.1)) else (vernierlaw07_RoundTies.j2 kj26 a0 t508 t510 true a1_0 false a1_2 a1_3 a1_4 a1_5 bt526.1 bt526.2.1 bt526.2.2.1 bt526.2.2.2.1 bt526.2.2.2.2.1 bt526.2.2.2.2.2.1 bt534.1 bt534.2.1 bt534.2.2.1 bt534.2.2.2.1 bt534.2.2.2.2.1 bt534.2.2.2.2.2.1)) else (vernierlaw07_RoundTies.j2 kj26 a0 t508 t510 true a1_0 false a1_2 a1_3 a1_4 a1_5 bt526.1 bt526.2.1 bt526.2.2.1 bt526.2.2.2.1 bt526.2.2.2.2.1 bt526.2.2.2.2.2.1 bt534.1 bt534.2.1 bt534.2.2.1 bt534.2.2.2.1 bt534.2.2.2.2.1 bt534.2.2.2.2.2.1)) else (vernierlaw07_RoundTies.j2 kj26 a0 t508 t510 true a1_0 false a1_2 a1_3 a1_4 a1_5 bt526.1 bt526.2.1 bt526.2.2.1 bt526.2.2.2.1 bt526.2.2.2.2.1 bt526.2.2.2.2.2.1 bt534.1 bt534.2.1 bt534.2.2.1 bt534.2.2.2.1 bt534.2.2.2.2.1 bt534.2.2.2.2.2.1)))))) = some r := by first | (rw [hji38] at H; exact H) | (simp only [hji38] at H ⊢; exact H)
         have hji38_ : (IntKind.u64.wrap (1 * 2 ^ min (ji36).toNat 64)) = ji38 := hji38
         have hji38z : (ji36) ≤ 64 → (IntKind.u64.wrap (1 * 2 ^ (ji36).toNat)) = ji38 := shl_small hji38
         (try (have hji38Z_ := hji38z (by omega)))
         have hji38u : (IntKind.u64.wrap (2 ^ min (ji36).toNat 64)) = ji38 := by have h_ := hji38_; rw [Int.one_mul] at h_; exact h_
         have hji38v : (ji36) ≤ 64 → (IntKind.u64.wrap (2 ^ (ji36).toNat)) = ji38 := fun hle_ => by have h_ := hji38z hle_; rw [Int.one_mul] at h_; exact h_
         replace H := Option.bind_eq_some_iff.mp H
         obtain ⟨⟨t514, t515, t516, t517, t518⟩, A390, H⟩ := H
         replace H : ((codec_Decode.f kj26 64 (Go.bits .or .u64 (shl .u64 (IntKind.u64.wrap (t510 - 1)) (ji33)) (ji38))).bind fun bt520 => ((round_Of.f kj26 t514 t515 t516 t517).bind fun bt526 => ((round_Of.f kj26 bt520.1 bt520.2.1 bt520.2.2.1 bt520.2.2.2.1).bind fun bt534 => (if t518.isNone = true then (if bt520.2.2.2.2.isNone = true then (if bt526.2.2.2.2.2.2.isNone = true then (if bt534.2.2.2.2.2.2.isNone = true then (vernierlaw07_RoundTies.j2 kj26 a0 t508 t510 false a1_0 false a1_2 a1_3 a1_4 a1_5 bt526.1 bt526.2.1 bt526.2.2.1 bt526.2.2.2.1 bt526.2.2.2.2.1 bt526.2.2.2.2.2.1 bt534.1 bt534.2.1 bt534.2.2.1 bt534.2.2.2.1 bt534.2.2.2.2.1 bt534.2.2.2.2.2.1) else (vernierlaw07_RoundTies.j2 kj26 a0 t508 t510 true a1_0 false a1_2 a1_3 a1_4 a1_5 bt526.1 bt526.2.1 bt526.2.2.1 bt526.2.2.2.1 bt526.2.2.2.2.1 bt526.2.2.2.2.2.1 bt534.1 bt534.2.1 bt534.2.2.1 bt534.2.2.2.1 bt534.2.2.2.2.1 bt534.2.2.2.2.2.1)) else (vernierlaw07_RoundTies.j2 kj26 a0 t508 t510 true a1_0 false a1_2 a1_3 a1_4 a1_5 bt526.1 bt526.2.1 bt526.2.2.1 bt526.2.2.2.1 bt526.2.2.2.2.1 bt526.2.2.2.2.2.1 bt534.1 bt534.2.1 bt534.2.2.1 bt534.2.2.2.1 bt534.2.2.2.2.1 bt534.2.2.2.2.2.1)) else (vernierlaw07_RoundTies.j2 kj26 a0 t508 t510 true a1_0 false a1_2 a1_3 a1_4 a1_5 bt526.1 bt526.2.1 bt526.2.2.1 bt526.2.2.2.1 bt526.2.2.2.2.1 bt526.2.2.2.2.2.1 bt534.1 bt534.2.1 bt534.2.2.1 bt534.2.2.2.1 bt534.2.2.2.2.1 bt534.2.2.2.2.2.1)) else (vernierlaw07_RoundTies.j2 kj26 a0 t508 t510 true a1_0 false a1_2 a1_3 a1_4 a1_5 bt526.1 bt526.2.1 bt526.2.2.1 bt526.2.2.2.1 bt526.2.2.2.2.1 bt526.2.2.2.2.2.1 bt534.1 bt534.2.1 bt534.2.2.1 bt534.2.2.2.1 bt534.2.2.2.2.1 bt534.2.2.2.2.2.1))))) = some r := H
         have A39 := Aside0.mk A390
         clear A390
         have c40b0 := eq_true (of_decide_eq_true (by first | (with_reducible assumption) | assumption) : 0 ≤ (ji33))
         obtain ⟨ji41, hji41⟩ : ∃ j_ : Int, (shl .u64 (IntKind.u64.wrap (t510 - 1)) (ji33)) = j_ := ⟨_, rfl⟩
         replace H : ((codec_Decode.f kj26 64 (Go.bits .or .u64 (ji41) (ji38))).bind fun bt520 => ((round_Of.f kj26 t514 t515 t516 t517).bind fun bt526 => ((round_Of.f kj26 bt520.1 bt520.2.1 bt520.2.2.1 bt520.2.2.2.1).bind fun bt534 => (if t518.isNone = true then (if bt520.2.2.2.2.isNone = true then (if bt526.2.2.2.2.2.2.isNone = true then (if bt534.2.2.2.2.2.2.isNone = true then (vernierlaw07_RoundTies.j2 kj26 a0 t508 t510 false a1_0 false a1_2 a1_3 a1_4 a1_5 bt526.1 bt526.2.1 bt526.2.2.1 bt526.2.2.2.1 bt526.2.2.2.2.1 bt526.2.2.2.2.2.1 bt534.1 bt534.2.1 bt534.2.2.1 bt534.2.2.2.1 bt534.2.2.2.2.1 bt534.2.2.2.2.2.1) else (vernierlaw07_RoundTies.j2 kj26 a0 t508 t510 true a1_0 false a1_2 a1_3 a1_4 a1_5 bt526.1 bt526.2.1 bt526.2.2.1 bt526.2.2.2.1 bt526.2.2.2.2.1 bt526.2.2.2.2.2.1 bt534.1 bt534.2.1 bt534.2.2.1 bt534.2.2.2.1 bt534.2.2.2.2.1 bt534.2.2.2.2.2.1)) else (vernierlaw07_RoundTies.j2 kj26 a0 t508 t510 true a1_0 false a1_2 a1_3 a1_4 a1_5 bt526.1 bt526.2.1 bt526.2.2.1 bt526.2.2.2.1 bt526.2.2.2.2.1 bt526.2.2.2.2.2.1 bt534.1 bt534.2.1 bt534.2.2.1 bt534.2.2.2.1 bt534.2.2.2.2.1 bt534.2.2.2.2.2.1)) else (vernierlaw07_RoundTies.j2 kj26 a0 t508 t510 true a1_0 false a1_2 a1_3 a1_4 a1_5 bt526.1 bt526.2.1 bt526.2.2.1 bt526.2.2.2.1 bt526.2.2.2.2.1 bt526.2.2.2.2.2.1 bt534.1 bt534.2.1 bt534.2.2.1 bt534.2.2.2.1 bt534.2.2.2.2.1 bt534.2.2.2.2.2.1)) else (vernierlaw07_RoundTies.j2 kj26 a0 t508 t510 true a1_0 false a1_2 a1_3 a1_4 a1_5 bt526.1 bt526.2.1 bt526.2.2.1 bt526.2.2.2.1 bt526.2.2.2.2.1 bt526.2.2.2.2.2.1 bt534.1 bt534.2.1 bt534.2.2.1 bt534.2.2.2.1 bt534.2.2.2.2.1 bt534.2.2.2.2.2.1))))) = some r := by first | (rw [hji41] at H; exact H) | (simp only [hji41] at H ⊢; exact H)
         (try rw [hji41] at A39)
         have hji41_ : (IntKind.u64.wrap ((IntKind.u64.wrap (t510 - 1)) * 2 ^ min (ji33).toNat 64)) = ji41 := hji41
         have hji41z : (ji33) ≤ 64 → (IntKind.u64.wrap ((IntKind.u64.wrap (t510 - 1)) * 2 ^ (ji33).toNat)) = ji41 := shl_small hji41
         (try (have hji41Z_ := hji41z (by omega)))
         have c42b0 := eq_true (of_decide_eq_true (by first | (with_reducible assumption) | assumption) : 0 ≤ (ji36))
         replace H := Option.bind_eq_some_iff.mp H
         obtain ⟨⟨t520, t521, t522, t523, t524⟩, A430, H⟩ := H
         replace H : ((round_Of.f kj26 t514 t515 t516 t517).bind fun bt526 => ((round_Of.f kj26 t520 t521 t522 t523).bind fun bt534 => (if t518.isNone = true then (if t524.isNone = true then (if bt526.2.2.2.2.2.2.isNone = true then (if bt534.2.2.2.2.2.2.isNone = true then (vernierlaw07_RoundTies.j2 kj26 a0 t508 t510 false a1_0 false a1_2 a1_3 a1_4 a1_5 bt526.1 bt526.2.1 bt526.2.2.1 bt526.2.2.2.1 bt526.2.2.2.2.1 bt526.2.2.2.2.2.1 bt534.1 bt534.2.1 bt534.2.2.1 bt534.2.2.2.1 bt534.2.2.2.2.1 bt534.2.2.2.2.2.1) else (vernierlaw07_RoundTies.j2 kj26 a0 t508 t510 true a1_0 false a1_2 a1_3 a1_4 a1_5 bt526.1 bt526.2.1 bt526.2.2.1 bt526.2.2.2.1 bt526.2.2.2.2.1 bt526.2.2.2.2.2.1 bt534.1 bt534.2.1 bt534.2.2.1 bt534.2.2.2.1 bt534.2.2.2.2.1 bt534.2.2.2.2.2.1)) else (vernierlaw07_RoundTies.j2 kj26 a0 t508 t510 true a1_0 false a1_2 a1_3 a1_4 a1_5 bt526.1 bt526.2.1 bt526.2.2.1 bt526.2.2.2.1 bt526.2.2.2.2.1 bt526.2.2.2.2.2.1 bt534.1 bt534.2.1 bt534.2.2.1 bt534.2.2.2.1 bt534.2.2.2.2.1 bt534.2.2.2.2.2.1)) else (vernierlaw07_RoundTies.j2 kj26 a0 t508 t510 true a1_0 false a1_2 a1_3 a1_4 a1_5 bt526.1 bt526.2.1 bt526.2.2.1 bt526.2.2.2.1 bt526.2.2.2.2.1 bt526.2.2.2.2.2.1 bt534.1 bt534.2.1 bt534.2.2.1 bt534.2.2.2.1 bt534.2.2.2.2.1 bt534.2.2.2.2.2.1)) else (vernierlaw07_RoundTies.j2 kj26 a0 t508 t510 true a1_0 false a1_2 a1_3 a1_4 a1_5 bt526.1 bt526.2.1 bt526.2.2.1 bt526.2.2.2.1 bt526.2.2.2.2.1 bt526.2.2.2.2.2.1 bt534.1 bt534.2.1 bt534.2.2.1 bt534.2.2.2.1 bt534.2.2.2.2.1 bt534.2.2.2.2.2.1)))) = some r := H
         have A43 := Aside0.mk A430
         clear A430
         replace H := Option.bind_eq_some_iff.mp H
         obtain ⟨⟨t526, t527, t528, t529, t530, t531, t532⟩, A440, H⟩ := H
         replace H : ((round_Of.f kj26 t520 t521 t522 t523).bind fun bt534 => (if t518.isNone = true then (if t524.isNone = true then (if t532.isNone = true then (if bt534.2.2.2.2.2.2.isNone = true then (vernierlaw07_RoundTies.j2 kj26 a0 t508 t510 false a1_0 false a1_2 a1_3 a1_4 a1_5 t526 t527 t528 t529 t530 t531 bt534.1 bt534.2.1 bt534.2.2.1 bt534.2.2.2.1 bt534.2.2.2.2.1 bt534.2.2.2.2.2.1) else (vernierlaw07_RoundTies.j2 kj26 a0 t508 t510 true a1_0 false a1_2 a1_3 a1_4 a1_5 t526 t527 t528 t529 t530 t531 bt534.1 bt534.2.1 bt534.2.2.1 bt534.2.2.2.1 bt534.2.2.2.2.1 bt534.2.2.2.2.2.1)) else (vernierlaw07_RoundTies.j2 kj26 a0 t508 t510 true a1_0 false a1_2 a1_3 a1_4 a1_5 t526 t527 t528 t529 t530 t531 bt534.1 bt534.2.1 bt534.2.2.1 bt534.2.2.2.1 bt534.2.2.2.2.1 bt534.2.2.2.2.2.1)) else (vernierlaw07_RoundTies.j2 kj26 a0 t508 t510 true a1_0 false a1_2 a1_3 a1_4 a1_5 t526 t527 t528 t529 t530 t531 bt534.1 bt534.2.1 bt534.2.2.1 bt534.2.2.2.1 bt534.2.2.2.2.1 bt534.2.2.2.2.2.1)) else (vernierlaw07_RoundTies.j2 kj26 a0 t508 t510 true a1_0 false a1_2 a1_3 a1_4 a1_5 t526 t527 t528 t529 t530 t531 bt534.1 bt534.2.1 bt534.2.2.1 bt534.2.2.2.1 bt534.2.2.2.2.1 bt534.2.2.2.2.2.1))) = some r := H
         have A44 := Aside0.mk A440
         clear A440
         replace H := Option.bind_eq_some_iff.mp H
         obtain ⟨⟨t534, t535, t536, t537, t538, t539, t540⟩, A450, H⟩ := H
         replace H : (if t518.isNone = true then (if t524.isNone = true then (if t532.isNone = true then (if t540.isNone = true then (vernierlaw07_RoundTies.j2 kj26 a0 t508 t510 false a1_0 false a1_2 a1_3 a1_4 a1_5 t526 t527 t528 t529 t530 t531 t534 t535 t536 t537 t538 t539) else (vernierlaw07_RoundTies.j2 kj26 a0 t508 t510 true a1_0 false a1_2 a1_3 a1_4 a1_5 t526 t527 t528 t529 t530 t531 t534 t535 t536 t537 t538 t539)) else (vernierlaw07_RoundTies.j2 kj26 a0 t508 t510 true a1_0 false a1_2 a1_3 a1_4 a1_5 t526 t527 t528 t529 t530 t531 t534 t535 t536 t537 t538 t539)) else (vernierlaw07_RoundTies.j2 kj26 a0 t508 t510 true a1_0 false a1_2 a1_3 a1_4 a1_5 t526 t527 t528 t529 t530 t531 t534 t535 t536 t537 t538 t539)) else (vernierlaw07_RoundTies.j2 kj26 a0 t508 t510 true a1_0 false a1_2 a1_3 a1_4 a1_5 t526 t527 t528 t529 t530 t531 t534 t535 t536 t537 t538 t539)) = some r := H
         have A45 := Aside0.mk A450
         clear A450
         have HC46 := Aside0.mk H
         clear H
         try go_wp2
         have n0_ := Aside0.mk (blk_drew BK507.out)
         have n1_ := Aside0.mk (below_drew1 HB.out)
         clear BK507
         clear HB
         have BK507 := n0_
         have HB := n1_
         clear n0_ n1_
         refine start_ (n := 15) (S := fun w' => True) (ds := []) #[false, false, false, false, false, false, false, false, false, false, false, false, false, false, false] (by kernel_rfl) rfl rfl trivial (fun hHeld => ?_); refine with_tabW vernierlaw07_RoundTies.tab9 vernierlaw07_RoundTies.bits9 (fun HT_ HW_ => ?_)
         generalize wc.drew = w47 at BK507 HB hHeld ⊢
         refine pure_ (i := 0) (N := some 69) (v := ?_) (a' := ?_) #[true, false, false, false, false, false, false, false, false, false, false, false, false, false, false] rfl rfl (any_of HT_.out (by kernel_rfl)) (fun _ _ _ h => h) (Or.inl ⟨by rfl, ?_⟩) ?_ ?_
         rotate_left
         ·intro w'
          go_simp
          with_reducible rfl
         rotate_left
         ·simp only [Act.put, List.setIfInBounds_toArray, List.set_cons_zero, List.set_cons_succ, i64_w, i32_w]
          rfl
         refine pure_ (i := 1) (N := some 70) (v := ?_) (a' := ?_) #[true, true, false, false, false, false, false, false, false, false, false, false, false, false, false] rfl rfl (any_of HT_.out (by kernel_rfl)) (fun _ _ _ h => h) (Or.inl ⟨by rfl, ?_⟩) ?_ ?_
         rotate_left
         ·intro w'
          go_simp
          with_reducible rfl
         rotate_left
         ·simp only [Act.put, List.setIfInBounds_toArray, List.set_cons_zero, List.set_cons_succ, i64_w, i32_w]
          rfl
         refine pure_ (i := 2) (N := some 71) (v := ?_) (a' := ?_) #[true, true, true, false, false, false, false, false, false, false, false, false, false, false, false] rfl rfl (any_of HT_.out (by kernel_rfl)) (fun _ _ _ h => h) (Or.inl ⟨by rfl, ?_⟩) ?_ ?_
         rotate_left
         ·intro w'
          go_simp
          with_reducible rfl
         rotate_left
         ·simp only [Act.put, List.setIfInBounds_toArray, List.set_cons_zero, List.set_cons_succ, i64_w, i32_w]
          rfl
         refine pure_ (i := 3) (N := some 72) (v := ?_) (a' := ?_) #[true, true, true, true, false, false, false, false, false, false, false, false, false, false, false] rfl rfl (any_of HT_.out (by kernel_rfl)) (fun _ _ _ h => h) (Or.inl ⟨by rfl, ?_⟩) ?_ ?_
         rotate_left
         ·intro w'
          go_simp
          with_reducible rfl
         rotate_left
         ·simp only [Act.put, List.setIfInBounds_toArray, List.set_cons_zero, List.set_cons_succ, i64_w, i32_w]
          rfl
         refine pure_ (i := 4) (N := some 73) (v := ?_) (a' := ?_) #[true, true, true, true, true, false, false, false, false, false, false, false, false, false, false] rfl rfl (any_of HT_.out (by kernel_rfl)) (fun _ _ _ h => h) (Or.inl ⟨by rfl, ?_⟩) ?_ ?_
         rotate_left
         ·intro w'
          go_simp
          with_reducible rfl
         rotate_left
         ·simp only [Act.put, List.setIfInBounds_toArray, List.set_cons_zero, List.set_cons_succ, i64_w, i32_w]
          rfl
         refine pure_ (i := 5) (N := some 74) (v := ?_) (a' := ?_) #[true, true, true, true, true, true, false, false, false, false, false, false, false, false, false] rfl rfl (any_of HT_.out (by kernel_rfl)) (fun _ _ _ h => h) (Or.inl ⟨by rfl, ?_⟩) ?_ ?_
         rotate_left
         ·intro w'
          go_simp
          with_reducible rfl
         rotate_left
         ·simp only [Act.put, List.setIfInBounds_toArray, List.set_cons_zero, List.set_cons_succ, i64_w, i32_w]
          rfl
         refine pure_ (i := 6) (N := some 75) (v := ?_) (a' := ?_) #[true, true, true, true, true, true, true, false, false, false, false, false, false, false, false] rfl rfl (any_of HT_.out (by kernel_rfl)) (fun _ _ _ h => h) (Or.inl ⟨by rfl, ?_⟩) ?_ ?_
         rotate_left
         ·intro w'
          go_simp
          with_reducible rfl
         rotate_left
         ·simp only [Act.put, List.setIfInBounds_toArray, List.set_cons_zero, List.set_cons_succ, i64_w, i32_w]
          rfl
         refine pure_ (i := 7) (N := some 76) (v := ?_) (a' := ?_) #[true, true, true, true, true, true, true, true, false, false, false, false, false, false, false] rfl rfl (any_of HT_.out (by kernel_rfl)) (fun _ _ _ h => h) (Or.inl ⟨by rfl, ?_⟩) ?_ ?_
         rotate_left
         ·intro w'
          go_simp
          with_reducible rfl
         rotate_left
         ·simp only [Act.put, List.setIfInBounds_toArray, List.set_cons_zero, List.set_cons_succ, i64_w, i32_w]
          rfl
         refine join_ (σ := Nat) 2 #[true, true, true, true, true, true, true, true, true, true, true, true, true, false, false] (fun s_ => [(77, .tuple #[.agg #[.int .i64 t514, .bool t515, .int .i64 t516, .int .u64 t517], errW t518]), (9, .pointer (some ⟨s_, 0, none⟩)), (68, .tuple #[.agg #[.int .i64 t514, .bool t515, .int .i64 t516, .int .u64 t517], errW t518]), (78, .agg #[.int .i64 t514, .bool t515, .int .i64 t516, .int .u64 t517]), (79, errW t518)]) (fun s_ w' => (w'.heap[gb507]? = some (.cells #[.int .i64 a1_0, .bool false, .int .i64 a1_2, .int .u64 a1_3, .int .u64 a1_4, .bool a1_5] 24 (0, 0))) ∧ (w'.heap[s_]? = some (.cells #[.int .i64 0, .bool false, .int .i64 0, .int .u64 0] 44 (0, 0))) ∧ (w.heap.size ≤ s_) ∧ (w.heap.size ≤ s_) ∧ (gb507 ≠ s_) ∧ (s_ ≠ gb507) ∧ (Below w.heap.size w w')) ?_ ?_
         rotate_left
         ·intro hCont
          refine two_ (i := 8) (j := 12) (Ni := some 77) (Nj := some 9) #[true, true, true, true, true, true, true, true, true, false, false, false, false, false, false] #[true, true, true, true, true, true, true, true, false, false, false, false, true, false, false] rfl rfl rfl rfl (two_of HT_.out (by kernel_rfl)) (by decide) (by decide) (fun K hK => ?_) (fun K hK => ?_)
          ·skip
           refine goes_ Try.func24 (by kernel_rfl) rfl #[.int .i64 64, .int .u64 (Go.bits .or .u64 (ji35) (ji38))] (by rfl) rfl rfl (by (try simp only [List.map_toArray, List.map_cons, List.map_nil]); first | done | (simp only [hji35, hji38]; rfl) | rfl | (simp only [List.length_drop, List.length_take]; rfl)) ?_
           with_reducible refine (codec_Decode.calls kj26 64 (Go.bits .or .u64 (ji35) (ji38)) t514 t515 t516 t517 t518 _ A39.out).mono ?_
           rintro e w48 ⟨rfl, hb⟩
           refine ⟨_, rfl, ?_⟩
           have n0_ := Aside0.mk (blk_below (g := gb507) (z1_ BK507.out) hb)
           have n1_ := Aside0.mk (below_step (z3_ HB.out) hb)
           clear BK507
           clear HB
           have BK507 := n0_
           have HB := n1_
           clear n0_ n1_
           (try clear hb)
           (try clear hb2)
           (try clear hk)
           (try clear hi)
           (try simp only [errW_none, errW_some])
           refine hK.out _ _ trivial (fun hHeld => ?_)
           clear hK K
           refine norm_ (a' := ?_) ?_ ?_
           rotate_left
           ·show Act.put _ (some 77) _ = _
            simp only [Act.put, List.setIfInBounds_toArray, List.set_cons_zero, List.set_cons_succ, i64_w, i32_w]
            rfl
           refine pure_ (i := 9) (N := some 68) (v := ?_) (a' := ?_) #[true, true, true, true, true, true, true, true, true, true, false, false, false, false, false] rfl rfl (any_of HT_.out (by kernel_rfl)) (fun _ _ _ h => h) (Or.inl ⟨by rfl, ?_⟩) ?_ ?_
           rotate_left
           ·intro w'
            go_simp
            with_reducible rfl
           rotate_left
           ·simp only [Act.put, List.setIfInBounds_toArray, List.set_cons_zero, List.set_cons_succ, i64_w, i32_w]
            rfl
           refine pure_ (i := 10) (N := some 78) (v := ?_) (a' := ?_) #[true, true, true, true, true, true, true, true, true, true, true, false, false, false, false] rfl rfl (any_of HT_.out (by kernel_rfl)) (fun _ _ _ h => h) (Or.inl ⟨by rfl, ?_⟩) ?_ ?_
           rotate_left
           ·intro w'
            go_simp
            with_reducible rfl
           rotate_left
           ·simp only [Act.put, List.setIfInBounds_toArray, List.set_cons_zero, List.set_cons_succ, i64_w, i32_w]
            rfl
           refine pure_ (i := 11) (N := some 79) (v := ?_) (a' := ?_) #[true, true, true, true, true, true, true, true, true, true, true, true, false, false, false] rfl rfl (any_of HT_.out (by kernel_rfl)) (fun _ _ _ h => h) (Or.inl ⟨by rfl, ?_⟩) ?_ ?_
           rotate_left
           ·intro w'
            go_simp
            with_reducible rfl
           rotate_left
           ·simp only [Act.put, List.setIfInBounds_toArray, List.set_cons_zero, List.set_cons_succ, i64_w, i32_w]
            rfl
           refine one_ (i := 12) (N := some 9) #[true, true, true, true, true, true, true, true, true, true, true, true, true, false, false] rfl rfl (one_of HT_.out (by kernel_rfl)) (by decide) (fun K hK => ?_)
           refine box_step ?hg (N := 9) ?hd (cs := #[.int .i64 0, .bool false, .int .i64 0, .int .u64 0]) (t := 44) ?hr ?_; (case hd => rfl); (case hg => rfl); (case hr => first | (go_simp; done) | (go_simp; rfl))
           intro gb519 hg w49 hbox hb
           have n0_ := Aside0.mk (blk_below (g := gb507) (z1_ BK507.out) hb)
           have n1_ := Aside0.mk (below_step (z3_ HB.out) hb)
           have n2_ := Aside0.mk (hbox)
           have n3_ := Aside0.mk ((by rw [hg]; exact (below_size (z3_ HB.out)) : w.heap.size ≤ gb519))
           have n4_ := Aside0.mk ((by rw [hg]; exact (below_size (z3_ HB.out)) : w.heap.size ≤ gb519))
           have n5_ := Aside0.mk ((by rw [hg]; exact Nat.ne_of_lt (blk_lt (g := gb507) (o := .cells #[.int .i64 a1_0, .bool false, .int .i64 a1_2, .int .u64 a1_3, .int .u64 a1_4, .bool a1_5] 24 (0, 0)) (z1_ BK507.out)) : gb507 ≠ gb519))
           have n6_ := Aside0.mk ((by rw [hg]; exact Nat.ne_of_gt (blk_lt (g := gb507) (o := .cells #[.int .i64 a1_0, .bool false, .int .i64 a1_2, .int .u64 a1_3, .int .u64 a1_4, .bool a1_5] 24 (0, 0)) (z1_ BK507.out)) : gb519 ≠ gb507))
           clear BK507
           clear HB
           have BK507 := n0_
           have HB := n1_
           have BK519 := n2_
           have GW519 := n3_
           have GE519 := n4_
           have NB507_519 := n5_
           have NB519_507 := n6_
           clear n0_ n1_ n2_ n3_ n4_ n5_ n6_
           clear hb hbox hg
           refine hK.out _ _ trivial (fun hHeld => ?_)
           clear hK K
           refine norm_ (a' := ?_) ?_ ?_
           rotate_left
           ·show Act.put _ (some 9) _ = _
            simp only [Act.put, List.setIfInBounds_toArray, List.set_cons_zero, List.set_cons_succ, i64_w, i32_w]
            rfl
           exact norm_ (by simp only [putAll, Act.put, List.setIfInBounds_toArray, List.set_cons_zero, List.set_cons_succ]) (hCont (gb519) _ ⟨(z1_ BK507.out), (z1_ BK519.out), GW519.out, GE519.out, NB507_519.out, NB519_507.out, (z3_ HB.out)⟩)
          ·skip
           refine box_step ?hg (N := 9) ?hd (cs := #[.int .i64 0, .bool false, .int .i64 0, .int .u64 0]) (t := 44) ?hr ?_; (case hd => rfl); (case hg => rfl); (case hr => first | (go_simp; done) | (go_simp; rfl))
           intro gb519 hg w48 hbox hb
           have n0_ := Aside0.mk (blk_below (g := gb507) (z1_ BK507.out) hb)
           have n1_ := Aside0.mk (below_step (z3_ HB.out) hb)
           have n2_ := Aside0.mk (hbox)
           have n3_ := Aside0.mk ((by rw [hg]; exact (below_size (z3_ HB.out)) : w.heap.size ≤ gb519))
           have n4_ := Aside0.mk ((by rw [hg]; exact (below_size (z3_ HB.out)) : w.heap.size ≤ gb519))
           have n5_ := Aside0.mk ((by rw [hg]; exact Nat.ne_of_lt (blk_lt (g := gb507) (o := .cells #[.int .i64 a1_0, .bool false, .int .i64 a1_2, .int .u64 a1_3, .int .u64 a1_4, .bool a1_5] 24 (0, 0)) (z1_ BK507.out)) : gb507 ≠ gb519))
           have n6_ := Aside0.mk ((by rw [hg]; exact Nat.ne_of_gt (blk_lt (g := gb507) (o := .cells #[.int .i64 a1_0, .bool false, .int .i64 a1_2, .int .u64 a1_3, .int .u64 a1_4, .bool a1_5] 24 (0, 0)) (z1_ BK507.out)) : gb519 ≠ gb507))
           clear BK507
           clear HB
           have BK507 := n0_
           have HB := n1_
           have BK519 := n2_
           have GW519 := n3_
           have GE519 := n4_
           have NB507_519 := n5_
           have NB519_507 := n6_
           clear n0_ n1_ n2_ n3_ n4_ n5_ n6_
           clear hb hbox hg
           refine hK.out _ _ trivial (fun hHeld => ?_)
           clear hK K
           refine norm_ (a' := ?_) ?_ ?_
           rotate_left
           ·show Act.put _ (some 9) _ = _
            simp only [Act.put, List.setIfInBounds_toArray, List.set_cons_zero, List.set_cons_succ, i64_w, i32_w]
            rfl
           refine one_ (i := 8) (N := some 77) #[true, true, true, true, true, true, true, true, true, false, false, false, true, false, false] rfl rfl (one_of HT_.out (by kernel_rfl)) (by decide) (fun K hK => ?_)
           refine goes_ Try.func24 (by kernel_rfl) rfl #[.int .i64 64, .int .u64 (Go.bits .or .u64 (ji35) (ji38))] (by rfl) rfl rfl (by (try simp only [List.map_toArray, List.map_cons, List.map_nil]); first | done | (simp only [hji35, hji38]; rfl) | rfl | (simp only [List.length_drop, List.length_take]; rfl)) ?_
           with_reducible refine (codec_Decode.calls kj26 64 (Go.bits .or .u64 (ji35) (ji38)) t514 t515 t516 t517 t518 _ A39.out).mono ?_
           rintro e w49 ⟨rfl, hb⟩
           refine ⟨_, rfl, ?_⟩
           have n0_ := Aside0.mk (blk_below (g := gb507) (z1_ BK507.out) hb)
           have n1_ := Aside0.mk (blk_below (g := gb519) (z1_ BK519.out) hb)
           have n2_ := Aside0.mk (below_step (z3_ HB.out) hb)
           clear BK507
           clear BK519
           clear HB
           have BK507 := n0_
           have BK519 := n1_
           have HB := n2_
           clear n0_ n1_ n2_
           (try clear hb)
           (try clear hb2)
           (try clear hk)
           (try clear hi)
           (try simp only [errW_none, errW_some])
           refine hK.out _ _ trivial (fun hHeld => ?_)
           clear hK K
           refine norm_ (a' := ?_) ?_ ?_
           rotate_left
           ·show Act.put _ (some 77) _ = _
            simp only [Act.put, List.setIfInBounds_toArray, List.set_cons_zero, List.set_cons_succ, i64_w, i32_w]
            rfl
           refine pure_ (i := 9) (N := some 68) (v := ?_) (a' := ?_) #[true, true, true, true, true, true, true, true, true, true, false, false, true, false, false] rfl rfl (any_of HT_.out (by kernel_rfl)) (fun _ _ _ h => h) (Or.inl ⟨by rfl, ?_⟩) ?_ ?_
           rotate_left
           ·intro w'
            go_simp
            with_reducible rfl
           rotate_left
           ·simp only [Act.put, List.setIfInBounds_toArray, List.set_cons_zero, List.set_cons_succ, i64_w, i32_w]
            rfl
           refine pure_ (i := 10) (N := some 78) (v := ?_) (a' := ?_) #[true, true, true, true, true, true, true, true, true, true, true, false, true, false, false] rfl rfl (any_of HT_.out (by kernel_rfl)) (fun _ _ _ h => h) (Or.inl ⟨by rfl, ?_⟩) ?_ ?_
           rotate_left
           ·intro w'
            go_simp
            with_reducible rfl
           rotate_left
           ·simp only [Act.put, List.setIfInBounds_toArray, List.set_cons_zero, List.set_cons_succ, i64_w, i32_w]
            rfl
           refine pure_ (i := 11) (N := some 79) (v := ?_) (a' := ?_) #[true, true, true, true, true, true, true, true, true, true, true, true, true, false, false] rfl rfl (any_of HT_.out (by kernel_rfl)) (fun _ _ _ h => h) (Or.inl ⟨by rfl, ?_⟩) ?_ ?_
           rotate_left
           ·intro w'
            go_simp
            with_reducible rfl
           rotate_left
           ·simp only [Act.put, List.setIfInBounds_toArray, List.set_cons_zero, List.set_cons_succ, i64_w, i32_w]
            rfl
           exact norm_ (by simp only [putAll, Act.put, List.setIfInBounds_toArray, List.set_cons_zero, List.set_cons_succ]) (hCont (gb519) _ ⟨(z1_ BK507.out), (z1_ BK519.out), GW519.out, GE519.out, NB507_519.out, NB519_507.out, (z3_ HB.out)⟩)
         rintro gb519 w50 ⟨h0_, h1_, h2_, h3_, h4_, h5_, h6_⟩
         have n0_ : Aside0 (w50.heap[gb507]? = some (.cells #[.int .i64 a1_0, .bool false, .int .i64 a1_2, .int .u64 a1_3, .int .u64 a1_4, .bool a1_5] 24 (0, 0))) := ⟨h0_⟩
         have n1_ : Aside0 (w50.heap[gb519]? = some (.cells #[.int .i64 0, .bool false, .int .i64 0, .int .u64 0] 44 (0, 0))) := ⟨h1_⟩
         have n2_ : Aside0 (w.heap.size ≤ gb519) := ⟨h2_⟩
         have n3_ : Aside0 (w.heap.size ≤ gb519) := ⟨h3_⟩
         have n4_ : Aside0 (gb507 ≠ gb519) := ⟨h4_⟩
         have n5_ : Aside0 (gb519 ≠ gb507) := ⟨h5_⟩
         have n6_ : Aside0 (Below w.heap.size w w50) := ⟨h6_⟩
         clear BK507
         clear HB
         clear h0_ h1_ h2_ h3_ h4_ h5_ h6_
         have BK507 := n0_
         have BK519 := n1_
         have GW519 := n2_
         have GE519 := n3_
         have NB507_519 := n4_
         have NB519_507 := n5_
         have HB := n6_
         clear n0_ n1_ n2_ n3_ n4_ n5_ n6_
         have hHeld := trivial
         refine norm_ (a' := ?_) ?_ ?_
         rotate_left
         ·simp only [putAll, Act.put, List.setIfInBounds_toArray, List.set_cons_zero, List.set_cons_succ]
          rfl
         refine one_ (i := 13) (N := none) #[true, true, true, true, true, true, true, true, true, true, true, true, true, true, false] rfl rfl (one_of HT_.out (by kernel_rfl)) (by decide) (fun K hK => ?_)
         have hs51 : w50.cell? ⟨gb519, 0, none⟩ = some (.int .i64 0) := (blk_cell BK519.out 0).trans rfl
         have hfs51 := blk_frozen BK519.out 0
         have hns51_0 := NB507_519.out
         have hms51_0 := NB519_507.out
         have hs52 : w50.cell? ⟨gb519, 1, none⟩ = some (.bool false) := (blk_cell BK519.out 1).trans rfl
         have hfs52 := blk_frozen BK519.out 1
         have hns52_0 := NB507_519.out
         have hms52_0 := NB519_507.out
         have hs53 : w50.cell? ⟨gb519, 2, none⟩ = some (.int .i64 0) := (blk_cell BK519.out 2).trans rfl
         have hfs53 := blk_frozen BK519.out 2
         have hns53_0 := NB507_519.out
         have hms53_0 := NB519_507.out
         have hs54 : w50.cell? ⟨gb519, 3, none⟩ = some (.int .u64 0) := (blk_cell BK519.out 3).trans rfl
         have hfs54 := blk_frozen BK519.out 3
         have hns54_0 := NB507_519.out
         have hms54_0 := NB519_507.out
         refine skip_ (w1 := ?_) (by rfl) rfl ?_ ?_
         rotate_left
         ·go_simp
          rfl
         refine hK.out _ _ trivial (fun hHeld => ?_)
         clear hK K
         refine pure_ (i := 14) (N := some 10) (v := ?_) (a' := ?_) #[true, true, true, true, true, true, true, true, true, true, true, true, true, true, true] rfl rfl (any_of HT_.out (by kernel_rfl)) (fun _ _ _ h => h) (Or.inl ⟨by rfl, ?_⟩) ?_ ?_
         rotate_left
         ·intro w'
          go_simp
          with_reducible rfl
         rotate_left
         ·simp only [Act.put, List.setIfInBounds_toArray, List.set_cons_zero, List.set_cons_succ, i64_w, i32_w]
          rfl
         refine done_ (done_of HT_.out (by kernel_rfl)) ?_
         try go_wp2
         have n0_ : Aside0 (((((w50.setCell ⟨gb519, 0, none⟩ (.int .i64 t514)).setCell ⟨gb519, 1, none⟩ (.bool t515)).setCell ⟨gb519, 2, none⟩ (.int .i64 t516)).setCell ⟨gb519, 3, none⟩ (.int .u64 t517)).heap[gb507]? = some (.cells #[.int .i64 a1_0, .bool false, .int .i64 a1_2, .int .u64 a1_3, .int .u64 a1_4, .bool a1_5] 24 (0, 0))) := ⟨by refine z2_ ?_; refine blk_far ?_ NB507_519.out _; refine z2_ ?_; refine blk_far ?_ NB507_519.out _; refine z2_ ?_; refine blk_far ?_ NB507_519.out _; refine z2_ ?_; refine blk_far ?_ NB507_519.out _; refine z2_ ?_; exact BK507.out⟩
         have n1_ : Aside0 (((((w50.setCell ⟨gb519, 0, none⟩ (.int .i64 t514)).setCell ⟨gb519, 1, none⟩ (.bool t515)).setCell ⟨gb519, 2, none⟩ (.int .i64 t516)).setCell ⟨gb519, 3, none⟩ (.int .u64 t517)).heap[gb519]? = some (.cells #[.int .i64 t514, .bool t515, .int .i64 t516, .int .u64 t517] 44 (0, 0))) := ⟨by refine z2_ ?_; refine blk_put (cs := #[.int .i64 t514, .bool t515, .int .i64 t516, .int .u64 0]) ?_ 3 _ rfl; refine z2_ ?_; refine blk_put (cs := #[.int .i64 t514, .bool t515, .int .i64 0, .int .u64 0]) ?_ 2 _ rfl; refine z2_ ?_; refine blk_put (cs := #[.int .i64 t514, .bool false, .int .i64 0, .int .u64 0]) ?_ 1 _ rfl; refine z2_ ?_; refine blk_put (cs := #[.int .i64 0, .bool false, .int .i64 0, .int .u64 0]) ?_ 0 _ rfl; refine z2_ ?_; exact BK519.out⟩
         have n2_ : Aside0 (Below w.heap.size w ((((w50.setCell ⟨gb519, 0, none⟩ (.int .i64 t514)).setCell ⟨gb519, 1, none⟩ (.bool t515)).setCell ⟨gb519, 2, none⟩ (.int .i64 t516)).setCell ⟨gb519, 3, none⟩ (.int .u64 t517))) := ⟨by repeat (first | (with_reducible first | exact HB.out | apply below_alloc | apply pw_below_drewN | apply below_drew1 | refine below_set ?_ GE507.out | refine below_set ?_ GE519.out) | exact HB.out)⟩
         (try clear BK507)
         (try clear BK519)
         (try clear HB)
         generalize ((((w50.setCell ⟨gb519, 0, none⟩ (.int .i64 t514)).setCell ⟨gb519, 1, none⟩ (.bool t515)).setCell ⟨gb519, 2, none⟩ (.int .i64 t516)).setCell ⟨gb519, 3, none⟩ (.int .u64 t517)) = w55 at n0_ n1_ n2_ ⊢
         have BK507 := n0_
         have BK519 := n1_
         have HB := n2_
         clear n0_ n1_ n2_
         have n0_ := Aside0.mk (blk_drew BK507.out)
         have n1_ := Aside0.mk (blk_drew BK519.out)
         have n2_ := Aside0.mk (below_drew1 HB.out)
         clear BK507
         clear BK519
         clear HB
         have BK507 := n0_
         have BK519 := n1_
         have HB := n2_
         clear n0_ n1_ n2_
         refine start_ (n := 16) (S := fun w' => True) (ds := []) #[false, false, false, false, false, false, false, false, false, false, false, false, false, false, false, false] (by kernel_rfl) rfl rfl trivial (fun hHeld => ?_); refine with_tabW vernierlaw07_RoundTies.tab10 vernierlaw07_RoundTies.bits10 (fun HT_ HW_ => ?_)
         generalize w55.drew = w56 at BK507 BK519 HB hHeld ⊢
         refine pure_ (i := 0) (N := some 81) (v := ?_) (a' := ?_) #[true, false, false, false, false, false, false, false, false, false, false, false, false, false, false, false] rfl rfl (any_of HT_.out (by kernel_rfl)) (fun _ _ _ h => h) (Or.inl ⟨by rfl, ?_⟩) ?_ ?_
         rotate_left
         ·intro w'
          go_simp
          with_reducible rfl
         rotate_left
         ·simp only [Act.put, List.setIfInBounds_toArray, List.set_cons_zero, List.set_cons_succ, i64_w, i32_w]
          rfl
         refine pure_ (i := 1) (N := some 82) (v := ?_) (a' := ?_) #[true, true, false, false, false, false, false, false, false, false, false, false, false, false, false, false] rfl rfl (any_of HT_.out (by kernel_rfl)) (fun _ _ _ h => h) (Or.inl ⟨by rfl, ?_⟩) ?_ ?_
         rotate_left
         ·intro w'
          go_simp
          with_reducible rfl
         rotate_left
         ·simp only [Act.put, List.setIfInBounds_toArray, List.set_cons_zero, List.set_cons_succ, i64_w, i32_w]
          rfl
         refine pure_ (i := 2) (N := some 83) (v := ?_) (a' := ?_) #[true, true, true, false, false, false, false, false, false, false, false, false, false, false, false, false] rfl rfl (any_of HT_.out (by kernel_rfl)) (fun _ _ _ h => h) (Or.inl ⟨by rfl, ?_⟩) ?_ ?_
         rotate_left
         ·intro w'
          go_simp
          with_reducible rfl
         rotate_left
         ·simp only [Act.put, List.setIfInBounds_toArray, List.set_cons_zero, List.set_cons_succ, i64_w, i32_w]
          rfl
         refine pure_ (i := 3) (N := some 84) (v := ?_) (a' := ?_) #[true, true, true, true, false, false, false, false, false, false, false, false, false, false, false, false] rfl rfl (any_of HT_.out (by kernel_rfl)) (fun _ _ _ h => h) (Or.inl ⟨by rfl, ?_⟩) ?_ ?_
         rotate_left
         ·intro w'
          go_simp
          with_reducible rfl
         rotate_left
         ·simp only [Act.put, List.setIfInBounds_toArray, List.set_cons_zero, List.set_cons_succ, i64_w, i32_w]
          rfl
         refine pure_ (i := 4) (N := some 85) (v := ?_) (a' := ?_) #[true, true, true, true, true, false, false, false, false, false, false, false, false, false, false, false] rfl rfl (any_of HT_.out (by kernel_rfl)) (fun _ _ _ h => h) (Or.inl ⟨by rfl, ?_⟩) ?_ ?_
         rotate_left
         ·intro w'
          go_simp
          with_reducible rfl
         rotate_left
         ·simp only [Act.put, List.setIfInBounds_toArray, List.set_cons_zero, List.set_cons_succ, i64_w, i32_w]
          rfl
         refine pure_ (i := 5) (N := some 86) (v := ?_) (a' := ?_) #[true, true, true, true, true, true, false, false, false, false, false, false, false, false, false, false] rfl rfl (any_of HT_.out (by kernel_rfl)) (fun _ _ _ h => h) (Or.inl ⟨by rfl, ?_⟩) ?_ ?_
         rotate_left
         ·intro w'
          go_simp
          with_reducible rfl
         rotate_left
         ·simp only [Act.put, List.setIfInBounds_toArray, List.set_cons_zero, List.set_cons_succ, i64_w, i32_w]
          rfl
         refine pure_ (i := 6) (N := some 87) (v := ?_) (a' := ?_) #[true, true, true, true, true, true, true, false, false, false, false, false, false, false, false, false] rfl rfl (any_of HT_.out (by kernel_rfl)) (fun _ _ _ h => h) (Or.inl ⟨by rfl, ?_⟩) ?_ ?_
         rotate_left
         ·intro w'
          go_simp
          with_reducible rfl
         rotate_left
         ·simp only [Act.put, List.setIfInBounds_toArray, List.set_cons_zero, List.set_cons_succ, i64_w, i32_w]
          rfl
         refine pure_ (i := 7) (N := some 88) (v := ?_) (a' := ?_) #[true, true, true, true, true, true, true, true, false, false, false, false, false, false, false, false] rfl rfl (any_of HT_.out (by kernel_rfl)) (fun _ _ _ h => h) (Or.inl ⟨by rfl, ?_⟩) ?_ ?_
         rotate_left
         ·intro w'
          go_simp
          with_reducible rfl
         rotate_left
         ·simp only [Act.put, List.setIfInBounds_toArray, List.set_cons_zero, List.set_cons_succ, i64_w, i32_w]
          rfl
         refine pure_ (i := 8) (N := some 89) (v := ?_) (a' := ?_) #[true, true, true, true, true, true, true, true, true, false, false, false, false, false, false, false] rfl rfl (any_of HT_.out (by kernel_rfl)) (fun _ _ _ h => h) (Or.inl ⟨by rfl, ?_⟩) ?_ ?_
         rotate_left
         ·intro w'
          go_simp
          with_reducible rfl
         rotate_left
         ·simp only [Act.put, List.setIfInBounds_toArray, List.set_cons_zero, List.set_cons_succ, i64_w, i32_w]
          rfl
         refine join_ (σ := Nat) 2 #[true, true, true, true, true, true, true, true, true, true, true, true, true, true, false, false] (fun s_ => [(90, .tuple #[.agg #[.int .i64 t520, .bool t521, .int .i64 t522, .int .u64 t523], errW t524]), (11, .pointer (some ⟨s_, 0, none⟩)), (80, .tuple #[.agg #[.int .i64 t520, .bool t521, .int .i64 t522, .int .u64 t523], errW t524]), (91, .agg #[.int .i64 t520, .bool t521, .int .i64 t522, .int .u64 t523]), (92, errW t524)]) (fun s_ w' => (w'.heap[gb507]? = some (.cells #[.int .i64 a1_0, .bool false, .int .i64 a1_2, .int .u64 a1_3, .int .u64 a1_4, .bool a1_5] 24 (0, 0))) ∧ (w'.heap[gb519]? = some (.cells #[.int .i64 t514, .bool t515, .int .i64 t516, .int .u64 t517] 44 (0, 0))) ∧ (w'.heap[s_]? = some (.cells #[.int .i64 0, .bool false, .int .i64 0, .int .u64 0] 44 (0, 0))) ∧ (w.heap.size ≤ s_) ∧ (w.heap.size ≤ s_) ∧ (gb507 ≠ s_) ∧ (s_ ≠ gb507) ∧ (gb519 ≠ s_) ∧ (s_ ≠ gb519) ∧ (Below w.heap.size w w')) ?_ ?_
         rotate_left
         ·intro hCont
          refine two_ (i := 9) (j := 13) (Ni := some 90) (Nj := some 11) #[true, true, true, true, true, true, true, true, true, true, false, false, false, false, false, false] #[true, true, true, true, true, true, true, true, true, false, false, false, false, true, false, false] rfl rfl rfl rfl (two_of HT_.out (by kernel_rfl)) (by decide) (by decide) (fun K hK => ?_) (fun K hK => ?_)
          ·skip
           refine goes_ Try.func24 (by kernel_rfl) rfl #[.int .i64 64, .int .u64 (Go.bits .or .u64 (ji41) (ji38))] (by rfl) rfl rfl (by (try simp only [List.map_toArray, List.map_cons, List.map_nil]); first | done | (simp only [hji38, hji41]; rfl) | rfl | (simp only [List.length_drop, List.length_take]; rfl)) ?_
           with_reducible refine (codec_Decode.calls kj26 64 (Go.bits .or .u64 (ji41) (ji38)) t520 t521 t522 t523 t524 _ A43.out).mono ?_
           rintro e w57 ⟨rfl, hb⟩
           refine ⟨_, rfl, ?_⟩
           have n0_ := Aside0.mk (blk_below (g := gb507) (z1_ BK507.out) hb)
           have n1_ := Aside0.mk (blk_below (g := gb519) (z1_ BK519.out) hb)
           have n2_ := Aside0.mk (below_step (z3_ HB.out) hb)
           clear BK507
           clear BK519
           clear HB
           have BK507 := n0_
           have BK519 := n1_
           have HB := n2_
           clear n0_ n1_ n2_
           (try clear hb)
           (try clear hb2)
           (try clear hk)
           (try clear hi)
           (try simp only [errW_none, errW_some])
           refine hK.out _ _ trivial (fun hHeld => ?_)
           clear hK K
           refine norm_ (a' := ?_) ?_ ?_
           rotate_left
           ·show Act.put _ (some 90) _ = _
            simp only [Act.put, List.setIfInBounds_toArray, List.set_cons_zero, List.set_cons_succ, i64_w, i32_w]
            rfl
           refine pure_ (i := 10) (N := some 80) (v := ?_) (a' := ?_) #[true, true, true, true, true, true, true, true, true, true, true, false, false, false, false, false] rfl rfl (any_of HT_.out (by kernel_rfl)) (fun _ _ _ h => h) (Or.inl ⟨by rfl, ?_⟩) ?_ ?_
           rotate_left
           ·intro w'
            go_simp
            with_reducible rfl
           rotate_left
           ·simp only [Act.put, List.setIfInBounds_toArray, List.set_cons_zero, List.set_cons_succ, i64_w, i32_w]
            rfl
           refine pure_ (i := 11) (N := some 91) (v := ?_) (a' := ?_) #[true, true, true, true, true, true, true, true, true, true, true, true, false, false, false, false] rfl rfl (any_of HT_.out (by kernel_rfl)) (fun _ _ _ h => h) (Or.inl ⟨by rfl, ?_⟩) ?_ ?_
           rotate_left
           ·intro w'
            go_simp
            with_reducible rfl
           rotate_left
           ·simp only [Act.put, List.setIfInBounds_toArray, List.set_cons_zero, List.set_cons_succ, i64_w, i32_w]
            rfl
           refine pure_ (i := 12) (N := some 92) (v := ?_) (a' := ?_) #[true, true, true, true, true, true, true, true, true, true, true, true, true, false, false, false] rfl rfl (any_of HT_.out (by kernel_rfl)) (fun _ _ _ h => h) (Or.inl ⟨by rfl, ?_⟩) ?_ ?_
           rotate_left
           ·intro w'
            go_simp
            with_reducible rfl
           rotate_left
           ·simp only [Act.put, List.setIfInBounds_toArray, List.set_cons_zero, List.set_cons_succ, i64_w, i32_w]
            rfl
           refine one_ (i := 13) (N := some 11) #[true, true, true, true, true, true, true, true, true, true, true, true, true, true, false, false] rfl rfl (one_of HT_.out (by kernel_rfl)) (by decide) (fun K hK => ?_)
           refine box_step ?hg (N := 11) ?hd (cs := #[.int .i64 0, .bool false, .int .i64 0, .int .u64 0]) (t := 44) ?hr ?_; (case hd => rfl); (case hg => rfl); (case hr => first | (go_simp; done) | (go_simp; rfl))
           intro gb525 hg w58 hbox hb
           have n0_ := Aside0.mk (blk_below (g := gb507) (z1_ BK507.out) hb)
           have n1_ := Aside0.mk (blk_below (g := gb519) (z1_ BK519.out) hb)
           have n2_ := Aside0.mk (below_step (z3_ HB.out) hb)
           have n3_ := Aside0.mk (hbox)
           have n4_ := Aside0.mk ((by rw [hg]; exact (below_size (z3_ HB.out)) : w.heap.size ≤ gb525))
           have n5_ := Aside0.mk ((by rw [hg]; exact (below_size (z3_ HB.out)) : w.heap.size ≤ gb525))
           have n6_ := Aside0.mk ((by rw [hg]; exact Nat.ne_of_lt (blk_lt (g := gb507) (o := .cells #[.int .i64 a1_0, .bool false, .int .i64 a1_2, .int .u64 a1_3, .int .u64 a1_4, .bool a1_5] 24 (0, 0)) (z1_ BK507.out)) : gb507 ≠ gb525))
           have n7_ := Aside0.mk ((by rw [hg]; exact Nat.ne_of_gt (blk_lt (g := gb507) (o := .cells #[.int .i64 a1_0, .bool false, .int .i64 a1_2, .int .u64 a1_3, .int .u64 a1_4, .bool a1_5] 24 (0, 0)) (z1_ BK507.out)) : gb525 ≠ gb507))
           have n8_ := Aside0.mk ((by rw [hg]; exact Nat.ne_of_lt (blk_lt (g := gb519) (o := .cells #[.int .i64 t514, .bool t515, .int .i64 t516, .int .u64 t517] 44 (0, 0)) (z1_ BK519.out)) : gb519 ≠ gb525))
           have n9_ := Aside0.mk ((by rw [hg]; exact Nat.ne_of_gt (blk_lt (g := gb519) (o := .cells #[.int .i64 t514, .bool t515, .int .i64 t516, .int .u64 t517] 44 (0, 0)) (z1_ BK519.out)) : gb525 ≠ gb519))
           clear BK507
           clear BK519
           clear HB
           have BK507 := n0_
           have BK519 := n1_
           have HB := n2_
           have BK525 := n3_
           have GW525 := n4_
           have GE525 := n5_
           have NB507_525 := n6_
           have NB525_507 := n7_
           have NB519_525 := n8_
           have NB525_519 := n9_
           clear n0_ n1_ n2_ n3_ n4_ n5_ n6_ n7_ n8_ n9_
           clear hb hbox hg
           refine hK.out _ _ trivial (fun hHeld => ?_)
           clear hK K
           refine norm_ (a' := ?_) ?_ ?_
           rotate_left
           ·show Act.put _ (some 11) _ = _
            simp only [Act.put, List.setIfInBounds_toArray, List.set_cons_zero, List.set_cons_succ, i64_w, i32_w]
            rfl
           exact norm_ (by simp only [putAll, Act.put, List.setIfInBounds_toArray, List.set_cons_zero, List.set_cons_succ]) (hCont (gb525) _ ⟨(z1_ BK507.out), (z1_ BK519.out), (z1_ BK525.out), GW525.out, GE525.out, NB507_525.out, NB525_507.out, NB519_525.out, NB525_519.out, (z3_ HB.out)⟩)
          ·skip
           refine box_step ?hg (N := 11) ?hd (cs := #[.int .i64 0, .bool false, .int .i64 0, .int .u64 0]) (t := 44) ?hr ?_; (case hd => rfl); (case hg => rfl); (case hr => first | (go_simp; done) | (go_simp; rfl))
           intro gb525 hg w57 hbox hb
           have n0_ := Aside0.mk (blk_below (g := gb507) (z1_ BK507.out) hb)
           have n1_ := Aside0.mk (blk_below (g := gb519) (z1_ BK519.out) hb)
           have n2_ := Aside0.mk (below_step (z3_ HB.out) hb)
           have n3_ := Aside0.mk (hbox)
           have n4_ := Aside0.mk ((by rw [hg]; exact (below_size (z3_ HB.out)) : w.heap.size ≤ gb525))
           have n5_ := Aside0.mk ((by rw [hg]; exact (below_size (z3_ HB.out)) : w.heap.size ≤ gb525))
           have n6_ := Aside0.mk ((by rw [hg]; exact Nat.ne_of_lt (blk_lt (g := gb507) (o := .cells #[.int .i64 a1_0, .bool false, .int .i64 a1_2, .int .u64 a1_3, .int .u64 a1_4, .bool a1_5] 24 (0, 0)) (z1_ BK507.out)) : gb507 ≠ gb525))
           have n7_ := Aside0.mk ((by rw [hg]; exact Nat.ne_of_gt (blk_lt (g := gb507) (o := .cells #[.int .i64 a1_0, .bool false, .int .i64 a1_2, .int .u64 a1_3, .int .u64 a1_4, .bool a1_5] 24 (0, 0)) (z1_ BK507.out)) : gb525 ≠ gb507))
           have n8_ := Aside0.mk ((by rw [hg]; exact Nat.ne_of_lt (blk_lt (g := gb519) (o := .cells #[.int .i64 t514, .bool t515, .int .i64 t516, .int .u64 t517] 44 (0, 0)) (z1_ BK519.out)) : gb519 ≠ gb525))
           have n9_ := Aside0.mk ((by rw [hg]; exact Nat.ne_of_gt (blk_lt (g := gb519) (o := .cells #[.int .i64 t514, .bool t515, .int .i64 t516, .int .u64 t517] 44 (0, 0)) (z1_ BK519.out)) : gb525 ≠ gb519))
           clear BK507
           clear BK519
           clear HB
           have BK507 := n0_
           have BK519 := n1_
           have HB := n2_
           have BK525 := n3_
           have GW525 := n4_
           have GE525 := n5_
           have NB507_525 := n6_
           have NB525_507 := n7_
           have NB519_525 := n8_
           have NB525_519 := n9_
           clear n0_ n1_ n2_ n3_ n4_ n5_ n6_ n7_ n8_ n9_
           clear hb hbox hg
           refine hK.out _ _ trivial (fun hHeld => ?_)
           clear hK K
           refine norm_ (a' := ?_) ?_ ?_
           rotate_left
           ·show Act.put _ (some 11) _ = _
            simp only [Act.put, List.setIfInBounds_toArray, List.set_cons_zero, List.set_cons_succ, i64_w, i32_w]
            rfl
           refine one_ (i := 9) (N := some 90) #[true, true, true, true, true, true, true, true, true, true, false, false, false, true, false, false] rfl rfl (one_of HT_.out (by kernel_rfl)) (by decide) (fun K hK => ?_)
           refine goes_ Try.func24 (by kernel_rfl) rfl #[.int .i64 64, .int .u64 (Go.bits .or .u64 (ji41) (ji38))] (by rfl) rfl rfl (by (try simp only [List.map_toArray, List.map_cons, List.map_nil]); first | done | (simp only [hji38, hji41]; rfl) | rfl | (simp only [List.length_drop, List.length_take]; rfl)) ?_
           with_reducible refine (codec_Decode.calls kj26 64 (Go.bits .or .u64 (ji41) (ji38)) t520 t521 t522 t523 t524 _ A43.out).mono ?_
           rintro e w58 ⟨rfl, hb⟩
           refine ⟨_, rfl, ?_⟩
           have n0_ := Aside0.mk (blk_below (g := gb507) (z1_ BK507.out) hb)
           have n1_ := Aside0.mk (blk_below (g := gb519) (z1_ BK519.out) hb)
           have n2_ := Aside0.mk (blk_below (g := gb525) (z1_ BK525.out) hb)
           have n3_ := Aside0.mk (below_step (z3_ HB.out) hb)
           clear BK507
           clear BK519
           clear BK525
           clear HB
           have BK507 := n0_
           have BK519 := n1_
           have BK525 := n2_
           have HB := n3_
           clear n0_ n1_ n2_ n3_
           (try clear hb)
           (try clear hb2)
           (try clear hk)
           (try clear hi)
           (try simp only [errW_none, errW_some])
           refine hK.out _ _ trivial (fun hHeld => ?_)
           clear hK K
           refine norm_ (a' := ?_) ?_ ?_
           rotate_left
           ·show Act.put _ (some 90) _ = _
            simp only [Act.put, List.setIfInBounds_toArray, List.set_cons_zero, List.set_cons_succ, i64_w, i32_w]
            rfl
           refine pure_ (i := 10) (N := some 80) (v := ?_) (a' := ?_) #[true, true, true, true, true, true, true, true, true, true, true, false, false, true, false, false] rfl rfl (any_of HT_.out (by kernel_rfl)) (fun _ _ _ h => h) (Or.inl ⟨by rfl, ?_⟩) ?_ ?_
           rotate_left
           ·intro w'
            go_simp
            with_reducible rfl
           rotate_left
           ·simp only [Act.put, List.setIfInBounds_toArray, List.set_cons_zero, List.set_cons_succ, i64_w, i32_w]
            rfl
           refine pure_ (i := 11) (N := some 91) (v := ?_) (a' := ?_) #[true, true, true, true, true, true, true, true, true, true, true, true, false, true, false, false] rfl rfl (any_of HT_.out (by kernel_rfl)) (fun _ _ _ h => h) (Or.inl ⟨by rfl, ?_⟩) ?_ ?_
           rotate_left
           ·intro w'
            go_simp
            with_reducible rfl
           rotate_left
           ·simp only [Act.put, List.setIfInBounds_toArray, List.set_cons_zero, List.set_cons_succ, i64_w, i32_w]
            rfl
           refine pure_ (i := 12) (N := some 92) (v := ?_) (a' := ?_) #[true, true, true, true, true, true, true, true, true, true, true, true, true, true, false, false] rfl rfl (any_of HT_.out (by kernel_rfl)) (fun _ _ _ h => h) (Or.inl ⟨by rfl, ?_⟩) ?_ ?_
           rotate_left
           ·intro w'
            go_simp
            with_reducible rfl
           rotate_left
           ·simp only [Act.put, List.setIfInBounds_toArray, List.set_cons_zero, List.set_cons_succ, i64_w, i32_w]
            rfl
           exact norm_ (by simp only [putAll, Act.put, List.setIfInBounds_toArray, List.set_cons_zero, List.set_cons_succ]) (hCont (gb525) _ ⟨(z1_ BK507.out), (z1_ BK519.out), (z1_ BK525.out), GW525.out, GE525.out, NB507_525.out, NB525_507.out, NB519_525.out, NB525_519.out, (z3_ HB.out)⟩)
         rintro gb525 w59 ⟨h0_, h1_, h2_, h3_, h4_, h5_, h6_, h7_, h8_, h9_⟩
         have n0_ : Aside0 (w59.heap[gb507]? = some (.cells #[.int .i64 a1_0, .bool false, .int .i64 a1_2, .int .u64 a1_3, .int .u64 a1_4, .bool a1_5] 24 (0, 0))) := ⟨h0_⟩
         have n1_ : Aside0 (w59.heap[gb519]? = some (.cells #[.int .i64 t514, .bool t515, .int .i64 t516, .int .u64 t517] 44 (0, 0))) := ⟨h1_⟩
         have n2_ : Aside0 (w59.heap[gb525]? = some (.cells #[.int .i64 0, .bool false, .int .i64 0, .int .u64 0] 44 (0, 0))) := ⟨h2_⟩
         have n3_ : Aside0 (w.heap.size ≤ gb525) := ⟨h3_⟩
         have n4_ : Aside0 (w.heap.size ≤ gb525) := ⟨h4_⟩
         have n5_ : Aside0 (gb507 ≠ gb525) := ⟨h5_⟩
         have n6_ : Aside0 (gb525 ≠ gb507) := ⟨h6_⟩
         have n7_ : Aside0 (gb519 ≠ gb525) := ⟨h7_⟩
         have n8_ : Aside0 (gb525 ≠ gb519) := ⟨h8_⟩
         have n9_ : Aside0 (Below w.heap.size w w59) := ⟨h9_⟩
         clear BK507
         clear BK519
         clear HB
         clear h0_ h1_ h2_ h3_ h4_ h5_ h6_ h7_ h8_ h9_
         have BK507 := n0_
         have BK519 := n1_
         have BK525 := n2_
         have GW525 := n3_
         have GE525 := n4_
         have NB507_525 := n5_
         have NB525_507 := n6_
         have NB519_525 := n7_
         have NB525_519 := n8_
         have HB := n9_
         clear n0_ n1_ n2_ n3_ n4_ n5_ n6_ n7_ n8_ n9_
         have hHeld := trivial
         refine norm_ (a' := ?_) ?_ ?_
         rotate_left
         ·simp only [putAll, Act.put, List.setIfInBounds_toArray, List.set_cons_zero, List.set_cons_succ]
          rfl
         refine one_ (i := 14) (N := none) #[true, true, true, true, true, true, true, true, true, true, true, true, true, true, true, false] rfl rfl (one_of HT_.out (by kernel_rfl)) (by decide) (fun K hK => ?_)
         have hs60 : w59.cell? ⟨gb525, 0, none⟩ = some (.int .i64 0) := (blk_cell BK525.out 0).trans rfl
         have hfs60 := blk_frozen BK525.out 0
         have hns60_0 := NB507_525.out
         have hns60_1 := NB519_525.out
         have hms60_0 := NB525_507.out
         have hms60_1 := NB525_519.out
         have hs61 : w59.cell? ⟨gb525, 1, none⟩ = some (.bool false) := (blk_cell BK525.out 1).trans rfl
         have hfs61 := blk_frozen BK525.out 1
         have hns61_0 := NB507_525.out
         have hns61_1 := NB519_525.out
         have hms61_0 := NB525_507.out
         have hms61_1 := NB525_519.out
         have hs62 : w59.cell? ⟨gb525, 2, none⟩ = some (.int .i64 0) := (blk_cell BK525.out 2).trans rfl
         have hfs62 := blk_frozen BK525.out 2
         have hns62_0 := NB507_525.out
         have hns62_1 := NB519_525.out
         have hms62_0 := NB525_507.out
         have hms62_1 := NB525_519.out
         have hs63 : w59.cell? ⟨gb525, 3, none⟩ = some (.int .u64 0) := (blk_cell BK525.out 3).trans rfl
         have hfs63 := blk_frozen BK525.out 3
         have hns63_0 := NB507_525.out
         have hns63_1 := NB519_525.out
         have hms63_0 := NB525_507.out
         have hms63_1 := NB525_519.out
         refine skip_ (w1 := ?_) (by rfl) rfl ?_ ?_
         rotate_left
         ·go_simp
          rfl
         refine hK.out _ _ trivial (fun hHeld => ?_)
         clear hK K
         refine pure_ (i := 15) (N := some 12) (v := ?_) (a' := ?_) #[true, true, true, true, true, true, true, true, true, true, true, true, true, true, true, true] rfl rfl (any_of HT_.out (by kernel_rfl)) (fun _ _ _ h => h) (Or.inl ⟨by rfl, ?_⟩) ?_ ?_
         rotate_left
         ·intro w'
          go_simp
          with_reducible rfl
         rotate_left
         ·simp only [Act.put, List.setIfInBounds_toArray, List.set_cons_zero, List.set_cons_succ, i64_w, i32_w]
          rfl
         refine done_ (done_of HT_.out (by kernel_rfl)) ?_
         have hnb64 := NB519_507.out
         have hnc64 := NB507_519.out
         have hnb65 := NB519_525.out
         have hnc65 := NB525_519.out
         have hcz66_0 := z4_ BK519.out 0 (.int .i64 t514) rfl
         have hcz66_1 := z4_ BK519.out 1 (.bool t515) rfl
         have hcz66_2 := z4_ BK519.out 2 (.int .i64 t516) rfl
         have hcz66_3 := z4_ BK519.out 3 (.int .u64 t517) rfl
         have hfz66_0 := blk_frozen BK519.out 0
         have hfz66_1 := blk_frozen BK519.out 1
         have hfz66_2 := blk_frozen BK519.out 2
         have hfz66_3 := blk_frozen BK519.out 3
         go_upto_region 13 with (first | ((with_reducible refine gate_callee (f := 20) rfl ?_); refine goesL_ (some 95) rfl rfl Try.func20 (by kernel_rfl) rfl #[.agg #[.int .i64 t514, .bool t515, .int .i64 t516, .int .u64 t517]] rfl z5_ ?_; (with_reducible refine (round_Of.calls kj26 t514 t515 t516 t517 t526 t527 t528 t529 t530 t531 t532 _ A44.out).mono ?_); rintro e w67 ⟨rfl, hb⟩; refine ⟨_, rfl, ?_⟩; have n0_ := Aside0.mk (blk_below (g := gb507) (o := .cells #[.int .i64 a1_0, .bool false, .int .i64 a1_2, .int .u64 a1_3, .int .u64 a1_4, .bool a1_5] 24 (0, 0)) (by refine z2_ ?_; refine blk_far ?_ NB507_525.out _; refine z2_ ?_; refine blk_far ?_ NB507_525.out _; refine z2_ ?_; refine blk_far ?_ NB507_525.out _; refine z2_ ?_; refine blk_far ?_ NB507_525.out _; refine z2_ ?_; exact BK507.out) hb); have n1_ := Aside0.mk (blk_below (g := gb519) (o := .cells #[.int .i64 t514, .bool t515, .int .i64 t516, .int .u64 t517] 44 (0, 0)) (by refine z2_ ?_; refine blk_far ?_ NB519_525.out _; refine z2_ ?_; refine blk_far ?_ NB519_525.out _; refine z2_ ?_; refine blk_far ?_ NB519_525.out _; refine z2_ ?_; refine blk_far ?_ NB519_525.out _; refine z2_ ?_; exact BK519.out) hb); have n2_ := Aside0.mk (blk_below (g := gb525) (o := .cells #[.int .i64 t520, .bool t521, .int .i64 t522, .int .u64 t523] 44 (0, 0)) (by refine z2_ ?_; refine blk_put (cs := #[.int .i64 t520, .bool t521, .int .i64 t522, .int .u64 0]) ?_ 3 _ rfl; refine z2_ ?_; refine blk_put (cs := #[.int .i64 t520, .bool t521, .int .i64 0, .int .u64 0]) ?_ 2 _ rfl; refine z2_ ?_; refine blk_put (cs := #[.int .i64 t520, .bool false, .int .i64 0, .int .u64 0]) ?_ 1 _ rfl; refine z2_ ?_; refine blk_put (cs := #[.int .i64 0, .bool false, .int .i64 0, .int .u64 0]) ?_ 0 _ rfl; refine z2_ ?_; exact BK525.out) hb); have n3_ := Aside0.mk (below_step (z3_ HB.out) hb); clear BK507; clear BK519; clear BK525; clear HB; have BK507 := n0_; have BK519 := n1_; have BK525 := n2_; have HB := n3_; clear n0_ n1_ n2_ n3_; (try clear hb); (try clear hb2); (try clear hk); (try clear hi); (try simp only [errW_none, errW_some])) | ((with_reducible refine gate_dst (N := 13) rfl ?_); refine box_event ?hg (N := 13) ?hd (cs := #[.int .i64 0, .bool false, .int .i64 0, .int .u64 0, .int .u64 0, .bool false]) (t := 24) ?hr ?_; (case hd => rfl); (case hg => rfl); (case hr => first | (go_simp; done) | (go_simp; rfl)); intro gb533 hg w68 hbox hb; have n0_ := Aside0.mk (blk_below (g := gb507) (z1_ BK507.out) hb); have n1_ := Aside0.mk (blk_below (g := gb519) (z1_ BK519.out) hb); have n2_ := Aside0.mk (blk_below (g := gb525) (z1_ BK525.out) hb); have n3_ := Aside0.mk (below_step (z3_ HB.out) hb); have n4_ := Aside0.mk (hbox); have n5_ := Aside0.mk ((by rw [hg]; exact (below_size (z3_ HB.out)) : w.heap.size ≤ gb533)); have n6_ := Aside0.mk ((by rw [hg]; exact (below_size (z3_ HB.out)) : w.heap.size ≤ gb533)); have n7_ := Aside0.mk ((by rw [hg]; exact Nat.ne_of_lt (blk_lt (g := gb507) (o := .cells #[.int .i64 a1_0, .bool false, .int .i64 a1_2, .int .u64 a1_3, .int .u64 a1_4, .bool a1_5] 24 (0, 0)) (z1_ BK507.out)) : gb507 ≠ gb533)); have n8_ := Aside0.mk ((by rw [hg]; exact Nat.ne_of_gt (blk_lt (g := gb507) (o := .cells #[.int .i64 a1_0, .bool false, .int .i64 a1_2, .int .u64 a1_3, .int .u64 a1_4, .bool a1_5] 24 (0, 0)) (z1_ BK507.out)) : gb533 ≠ gb507)); have n9_ := Aside0.mk ((by rw [hg]; exact Nat.ne_of_lt (blk_lt (g := gb519) (o := .cells #[.int .i64 t514, .bool t515, .int .i64 t516, .int .u64 t517] 44 (0, 0)) (z1_ BK519.out)) : gb519 ≠ gb533)); have n10_ := Aside0.mk ((by rw [hg]; exact Nat.ne_of_gt (blk_lt (g := gb519) (o := .cells #[.int .i64 t514, .bool t515, .int .i64 t516, .int .u64 t517] 44 (0, 0)) (z1_ BK519.out)) : gb533 ≠ gb519)); have n11_ := Aside0.mk ((by rw [hg]; exact Nat.ne_of_lt (blk_lt (g := gb525) (o := .cells #[.int .i64 t520, .bool t521, .int .i64 t522, .int .u64 t523] 44 (0, 0)) (z1_ BK525.out)) : gb525 ≠ gb533)); have n12_ := Aside0.mk ((by rw [hg]; exact Nat.ne_of_gt (blk_lt (g := gb525) (o := .cells #[.int .i64 t520, .bool t521, .int .i64 t522, .int .u64 t523] 44 (0, 0)) (z1_ BK525.out)) : gb533 ≠ gb525)); clear BK507; clear BK519; clear BK525; clear HB; have BK507 := n0_; have BK519 := n1_; have BK525 := n2_; have HB := n3_; have BK533 := n4_; have GW533 := n5_; have GE533 := n6_; have NB507_533 := n7_; have NB533_507 := n8_; have NB519_533 := n9_; have NB533_519 := n10_; have NB525_533 := n11_; have NB533_525 := n12_; clear n0_ n1_ n2_ n3_ n4_ n5_ n6_ n7_ n8_ n9_ n10_ n11_ n12_; clear hb hbox hg; have hnb69 := NB533_507.out; have hnc69 := NB507_533.out; have hnb70 := NB533_519.out; have hnc70 := NB519_533.out; have hnb71 := NB533_525.out; have hnc71 := NB525_533.out; have hcz72_0 := z4_ BK533.out 0 (.int .i64 0) rfl; have hcz72_1 := z4_ BK533.out 1 (.bool false) rfl; have hcz72_2 := z4_ BK533.out 2 (.int .i64 0) rfl; have hcz72_3 := z4_ BK533.out 3 (.int .u64 0) rfl; have hcz72_4 := z4_ BK533.out 4 (.int .u64 0) rfl; have hcz72_5 := z4_ BK533.out 5 (.bool false) rfl; have hfz72_0 := blk_frozen BK533.out 0; have hfz72_1 := blk_frozen BK533.out 1; have hfz72_2 := blk_frozen BK533.out 2; have hfz72_3 := blk_frozen BK533.out 3; have hfz72_4 := blk_frozen BK533.out 4; have hfz72_5 := blk_frozen BK533.out 5; have hnb73 := NB525_507.out; have hnc73 := NB507_525.out; have hcz74_0 := z4_ BK525.out 0 (.int .i64 t520) rfl; have hcz74_1 := z4_ BK525.out 1 (.bool t521) rfl; have hcz74_2 := z4_ BK525.out 2 (.int .i64 t522) rfl; have hcz74_3 := z4_ BK525.out 3 (.int .u64 t523) rfl; have hfz74_0 := blk_frozen BK525.out 0; have hfz74_1 := blk_frozen BK525.out 1; have hfz74_2 := blk_frozen BK525.out 2; have hfz74_3 := blk_frozen BK525.out 3) | ((with_reducible refine gate_callee (f := 20) rfl ?_); refine goesL_ (some 100) rfl rfl Try.func20 (by kernel_rfl) rfl #[.agg #[.int .i64 t520, .bool t521, .int .i64 t522, .int .u64 t523]] rfl z5_ ?_; (with_reducible refine (round_Of.calls kj26 t520 t521 t522 t523 t534 t535 t536 t537 t538 t539 t540 _ A45.out).mono ?_); rintro e w75 ⟨rfl, hb⟩; refine ⟨_, rfl, ?_⟩; have n0_ := Aside0.mk (blk_below (g := gb507) (o := .cells #[.int .i64 a1_0, .bool false, .int .i64 a1_2, .int .u64 a1_3, .int .u64 a1_4, .bool a1_5] 24 (0, 0)) (by refine z2_ ?_; refine blk_far ?_ NB507_533.out _; refine z2_ ?_; refine blk_far ?_ NB507_533.out _; refine z2_ ?_; refine blk_far ?_ NB507_533.out _; refine z2_ ?_; refine blk_far ?_ NB507_533.out _; refine z2_ ?_; refine blk_far ?_ NB507_533.out _; refine z2_ ?_; refine blk_far ?_ NB507_533.out _; refine z2_ ?_; exact BK507.out) hb); have n1_ := Aside0.mk (blk_below (g := gb519) (o := .cells #[.int .i64 t514, .bool t515, .int .i64 t516, .int .u64 t517] 44 (0, 0)) (by refine z2_ ?_; refine blk_far ?_ NB519_533.out _; refine z2_ ?_; refine blk_far ?_ NB519_533.out _; refine z2_ ?_; refine blk_far ?_ NB519_533.out _; refine z2_ ?_; refine blk_far ?_ NB519_533.out _; refine z2_ ?_; refine blk_far ?_ NB519_533.out _; refine z2_ ?_; refine blk_far ?_ NB519_533.out _; refine z2_ ?_; exact BK519.out) hb); have n2_ := Aside0.mk (blk_below (g := gb525) (o := .cells #[.int .i64 t520, .bool t521, .int .i64 t522, .int .u64 t523] 44 (0, 0)) (by refine z2_ ?_; refine blk_far ?_ NB525_533.out _; refine z2_ ?_; refine blk_far ?_ NB525_533.out _; refine z2_ ?_; refine blk_far ?_ NB525_533.out _; refine z2_ ?_; refine blk_far ?_ NB525_533.out _; refine z2_ ?_; refine blk_far ?_ NB525_533.out _; refine z2_ ?_; refine blk_far ?_ NB525_533.out _; refine z2_ ?_; exact BK525.out) hb); have n3_ := Aside0.mk (blk_below (g := gb533) (o := .cells #[.int .i64 t526, .bool t527, .int .i64 t528, .int .u64 t529, .int .u64 t530, .bool t531] 24 (0, 0)) (by refine z2_ ?_; refine blk_put (cs := #[.int .i64 t526, .bool t527, .int .i64 t528, .int .u64 t529, .int .u64 t530, .bool false]) ?_ 5 _ rfl; refine z2_ ?_; refine blk_put (cs := #[.int .i64 t526, .bool t527, .int .i64 t528, .int .u64 t529, .int .u64 0, .bool false]) ?_ 4 _ rfl; refine z2_ ?_; refine blk_put (cs := #[.int .i64 t526, .bool t527, .int .i64 t528, .int .u64 0, .int .u64 0, .bool false]) ?_ 3 _ rfl; refine z2_ ?_; refine blk_put (cs := #[.int .i64 t526, .bool t527, .int .i64 0, .int .u64 0, .int .u64 0, .bool false]) ?_ 2 _ rfl; refine z2_ ?_; refine blk_put (cs := #[.int .i64 t526, .bool false, .int .i64 0, .int .u64 0, .int .u64 0, .bool false]) ?_ 1 _ rfl; refine z2_ ?_; refine blk_put (cs := #[.int .i64 0, .bool false, .int .i64 0, .int .u64 0, .int .u64 0, .bool false]) ?_ 0 _ rfl; refine z2_ ?_; exact BK533.out) hb); have n4_ := Aside0.mk (below_step (z3_ HB.out) hb); clear BK507; clear BK519; clear BK525; clear BK533; clear HB; have BK507 := n0_; have BK519 := n1_; have BK525 := n2_; have BK533 := n3_; have HB := n4_; clear n0_ n1_ n2_ n3_ n4_; (try clear hb); (try clear hb2); (try clear hk); (try clear hi); (try simp only [errW_none, errW_some])) | ((with_reducible refine gate_dst (N := 15) rfl ?_); refine box_event ?hg (N := 15) ?hd (cs := #[.int .i64 0, .bool false, .int .i64 0, .int .u64 0, .int .u64 0, .bool false]) (t := 24) ?hr ?_; (case hd => rfl); (case hg => rfl); (case hr => first | (go_simp; done) | (go_simp; rfl)); intro gb541 hg w76 hbox hb; have n0_ := Aside0.mk (blk_below (g := gb507) (z1_ BK507.out) hb); have n1_ := Aside0.mk (blk_below (g := gb519) (z1_ BK519.out) hb); have n2_ := Aside0.mk (blk_below (g := gb525) (z1_ BK525.out) hb); have n3_ := Aside0.mk (blk_below (g := gb533) (z1_ BK533.out) hb); have n4_ := Aside0.mk (below_step (z3_ HB.out) hb); have n5_ := Aside0.mk (hbox); have n6_ := Aside0.mk ((by rw [hg]; exact (below_size (z3_ HB.out)) : w.heap.size ≤ gb541)); have n7_ := Aside0.mk ((by rw [hg]; exact (below_size (z3_ HB.out)) : w.heap.size ≤ gb541)); have n8_ := Aside0.mk ((by rw [hg]; exact Nat.ne_of_lt (blk_lt (g := gb507) (o := .cells #[.int .i64 a1_0, .bool false, .int .i64 a1_2, .int .u64 a1_3, .int .u64 a1_4, .bool a1_5] 24 (0, 0)) (z1_ BK507.out)) : gb507 ≠ gb541)); have n9_ := Aside0.mk ((by rw [hg]; exact Nat.ne_of_gt (blk_lt (g := gb507) (o := .cells #[.int .i64 a1_0, .bool false, .int .i64 a1_2, .int .u64 a1_3, .int .u64 a1_4, .bool a1_5] 24 (0, 0)) (z1_ BK507.out)) : gb541 ≠ gb507)); have n10_ := Aside0.mk ((by rw [hg]; exact Nat.ne_of_lt (blk_lt (g := gb519) (o := .cells #[.int .i64 t514, .bool t515, .int .i64 t516, .int .u64 t517] 44 (0, 0)) (z1_ BK519.out)) : gb519 ≠ gb541)); have n11_ := Aside0.mk ((by rw [hg]; exact Nat.ne_of_gt (blk_lt (g := gb519) (o := .cells #[.int .i64 t514, .bool t515, .int .i64 t516, .int .u64 t517] 44 (0, 0)) (z1_ BK519.out)) : gb541 ≠ gb519)); have n12_ := Aside0.mk ((by rw [hg]; exact Nat.ne_of_lt (blk_lt (g := gb525) (o := .cells #[.int .i64 t520, .bool t521, .int .i64 t522, .int .u64 t523] 44 (0, 0)) (z1_ BK525.out)) : gb525 ≠ gb541)); have n13_ := Aside0.mk ((by rw [hg]; exact Nat.ne_of_gt (blk_lt (g := gb525) (o := .cells #[.int .i64 t520, .bool t521, .int .i64 t522, .int .u64 t523] 44 (0, 0)) (z1_ BK525.out)) : gb541 ≠ gb525)); have n14_ := Aside0.mk ((by rw [hg]; exact Nat.ne_of_lt (blk_lt (g := gb533) (o := .cells #[.int .i64 t526, .bool t527, .int .i64 t528, .int .u64 t529, .int .u64 t530, .bool t531] 24 (0, 0)) (z1_ BK533.out)) : gb533 ≠ gb541)); have n15_ := Aside0.mk ((by rw [hg]; exact Nat.ne_of_gt (blk_lt (g := gb533) (o := .cells #[.int .i64 t526, .bool t527, .int .i64 t528, .int .u64 t529, .int .u64 t530, .bool t531] 24 (0, 0)) (z1_ BK533.out)) : gb541 ≠ gb533)); clear BK507; clear BK519; clear BK525; clear BK533; clear HB; have BK507 := n0_; have BK519 := n1_; have BK525 := n2_; have BK533 := n3_; have HB := n4_; have BK541 := n5_; have GW541 := n6_; have GE541 := n7_; have NB507_541 := n8_; have NB541_507 := n9_; have NB519_541 := n10_; have NB541_519 := n11_; have NB525_541 := n12_; have NB541_525 := n13_; have NB533_541 := n14_; have NB541_533 := n15_; clear n0_ n1_ n2_ n3_ n4_ n5_ n6_ n7_ n8_ n9_ n10_ n11_ n12_ n13_ n14_ n15_; clear hb hbox hg; have hnb77 := NB541_507.out; have hnc77 := NB507_541.out; have hnb78 := NB541_519.out; have hnc78 := NB519_541.out; have hnb79 := NB541_525.out; have hnc79 := NB525_541.out; have hnb80 := NB541_533.out; have hnc80 := NB533_541.out; have hcz81_0 := z4_ BK541.out 0 (.int .i64 0) rfl; have hcz81_1 := z4_ BK541.out 1 (.bool false) rfl; have hcz81_2 := z4_ BK541.out 2 (.int .i64 0) rfl; have hcz81_3 := z4_ BK541.out 3 (.int .u64 0) rfl; have hcz81_4 := z4_ BK541.out 4 (.int .u64 0) rfl; have hcz81_5 := z4_ BK541.out 5 (.bool false) rfl; have hfz81_0 := blk_frozen BK541.out 0; have hfz81_1 := blk_frozen BK541.out 1; have hfz81_2 := blk_frozen BK541.out 2; have hfz81_3 := blk_frozen BK541.out 3; have hfz81_4 := blk_frozen BK541.out 4; have hfz81_5 := blk_frozen BK541.out 5))
         (try simp only [Act.put, List.setIfInBounds_toArray, List.set_cons_zero, List.set_cons_succ])
         go_cut [116] (fun v116 wc => ∃ (kq : Nat) (x116_45 : Bool), v116 = .bool x116_45 ∧ Aside0 (vernierlaw07_RoundTies.j2 kq a0 t508 t510 x116_45 a1_0 false a1_2 a1_3 a1_4 a1_5 t526 t527 t528 t529 t530 t531 t534 t535 t536 t537 t538 t539 = some r) ∧ Aside0 (kq ≤ kj26) ∧ Aside0 (wc.heap[gb507]? = some (.cells #[.int .i64 a1_0, .bool false, .int .i64 a1_2, .int .u64 a1_3, .int .u64 a1_4, .bool a1_5] 24 (0, 0))) ∧ Aside0 (wc.heap[gb519]? = some (.cells #[.int .i64 t514, .bool t515, .int .i64 t516, .int .u64 t517] 44 (0, 0))) ∧ Aside0 (wc.heap[gb525]? = some (.cells #[.int .i64 t520, .bool t521, .int .i64 t522, .int .u64 t523] 44 (0, 0))) ∧ Aside0 (wc.heap[gb533]? = some (.cells #[.int .i64 t526, .bool t527, .int .i64 t528, .int .u64 t529, .int .u64 t530, .bool t531] 24 (0, 0))) ∧ Aside0 (wc.heap[gb541]? = some (.cells #[.int .i64 t534, .bool t535, .int .i64 t536, .int .u64 t537, .int .u64 t538, .bool t539] 24 (0, 0))) ∧ Aside0 (Below w.heap.size w wc))
         case first =>
          have H := HC46.out
          clear HC46
          rcases t518 with _ | q542
          ·have H1 : (if t524.isNone = true then (if t532.isNone = true then (if t540.isNone = true then (vernierlaw07_RoundTies.j2 kj26 a0 t508 t510 false a1_0 false a1_2 a1_3 a1_4 a1_5 t526 t527 t528 t529 t530 t531 t534 t535 t536 t537 t538 t539) else (vernierlaw07_RoundTies.j2 kj26 a0 t508 t510 true a1_0 false a1_2 a1_3 a1_4 a1_5 t526 t527 t528 t529 t530 t531 t534 t535 t536 t537 t538 t539)) else (vernierlaw07_RoundTies.j2 kj26 a0 t508 t510 true a1_0 false a1_2 a1_3 a1_4 a1_5 t526 t527 t528 t529 t530 t531 t534 t535 t536 t537 t538 t539)) else (vernierlaw07_RoundTies.j2 kj26 a0 t508 t510 true a1_0 false a1_2 a1_3 a1_4 a1_5 t526 t527 t528 t529 t530 t531 t534 t535 t536 t537 t538 t539)) = some r := by rw [if_pos (show (none : Option Int).isNone = true by rfl)] at H; exact H
           clear H
           have H := H1
           clear H1
           try simp only [errW_none, errW_some]
           rcases t524 with _ | q543
           ·have H1 : (if t532.isNone = true then (if t540.isNone = true then (vernierlaw07_RoundTies.j2 kj26 a0 t508 t510 false a1_0 false a1_2 a1_3 a1_4 a1_5 t526 t527 t528 t529 t530 t531 t534 t535 t536 t537 t538 t539) else (vernierlaw07_RoundTies.j2 kj26 a0 t508 t510 true a1_0 false a1_2 a1_3 a1_4 a1_5 t526 t527 t528 t529 t530 t531 t534 t535 t536 t537 t538 t539)) else (vernierlaw07_RoundTies.j2 kj26 a0 t508 t510 true a1_0 false a1_2 a1_3 a1_4 a1_5 t526 t527 t528 t529 t530 t531 t534 t535 t536 t537 t538 t539)) = some r := by rw [if_pos (show (none : Option Int).isNone = true by rfl)] at H; exact H
            clear H
            have H := H1
            clear H1
            try simp only [errW_none, errW_some]
            rcases t532 with _ | q544
            ·have H1 : (if t540.isNone = true then (vernierlaw07_RoundTies.j2 kj26 a0 t508 t510 false a1_0 false a1_2 a1_3 a1_4 a1_5 t526 t527 t528 t529 t530 t531 t534 t535 t536 t537 t538 t539) else (vernierlaw07_RoundTies.j2 kj26 a0 t508 t510 true a1_0 false a1_2 a1_3 a1_4 a1_5 t526 t527 t528 t529 t530 t531 t534 t535 t536 t537 t538 t539)) = some r := by rw [if_pos (show (none : Option Int).isNone = true by rfl)] at H; exact H
             clear H
             have H := H1
             clear H1
             try simp only [errW_none, errW_some]
             rcases t540 with _ | q545
             ·have H1 : (vernierlaw07_RoundTies.j2 kj26 a0 t508 t510 false a1_0 false a1_2 a1_3 a1_4 a1_5 t526 t527 t528 t529 t530 t531 t534 t535 t536 t537 t538 t539) = some r := by rw [if_pos (show (none : Option Int).isNone = true by rfl)] at H; exact H
              clear H
              have H := H1
              clear H1
              try simp only [errW_none, errW_some]
              have H' := Aside0.mk H
              clear H
              go_wp2
              go_meet
              case rel => exact ⟨_, (false), (by first | rfl | (simp; done) | (simp [*]; done)), H', ⟨by have := HJ4.out; have := HJ26.out; first | omega | exact Nat.le_refl _⟩, ⟨by refine z2_ ?_; refine blk_far ?_ NB507_541.out _; refine z2_ ?_; refine blk_far ?_ NB507_541.out _; refine z2_ ?_; refine blk_far ?_ NB507_541.out _; refine z2_ ?_; refine blk_far ?_ NB507_541.out _; refine z2_ ?_; refine blk_far ?_ NB507_541.out _; refine z2_ ?_; refine blk_far ?_ NB507_541.out _; refine z2_ ?_; exact BK507.out⟩, ⟨by refine z2_ ?_; refine blk_far ?_ NB519_541.out _; refine z2_ ?_; refine blk_far ?_ NB519_541.out _; refine z2_ ?_; refine blk_far ?_ NB519_541.out _; refine z2_ ?_; refine blk_far ?_ NB519_541.out _; refine z2_ ?_; refine blk_far ?_ NB519_541.out _; refine z2_ ?_; refine blk_far ?_ NB519_541.out _; refine z2_ ?_; exact BK519.out⟩, ⟨by refine z2_ ?_; refine blk_far ?_ NB525_541.out _; refine z2_ ?_; refine blk_far ?_ NB525_541.out _; refine z2_ ?_; refine blk_far ?_ NB525_541.out _; refine z2_ ?_; refine blk_far ?_ NB525_541.out _; refine z2_ ?_; refine blk_far ?_ NB525_541.out _; refine z2_ ?_; refine blk_far ?_ NB525_541.out _; refine z2_ ?_; exact BK525.out⟩, ⟨by refine z2_ ?_; refine blk_far ?_ NB533_541.out _; refine z2_ ?_; refine blk_far ?_ NB533_541.out _; refine z2_ ?_; refine blk_far ?_ NB533_541.out _; refine z2_ ?_; refine blk_far ?_ NB533_541.out _; refine z2_ ?_; refine blk_far ?_ NB533_541.out _; refine z2_ ?_; refine blk_far ?_ NB533_541.out _; refine z2_ ?_; exact BK533.out⟩, ⟨by refine z2_ ?_; refine blk_put (cs := #[.int .i64 t534, .bool t535, .int .i64 t536, .int .u64 t537, .int .u64 t538, .bool false]) ?_ 5 _ rfl; refine z2_ ?_; refine blk_put (cs := #[.int .i64 t534, .bool t535, .int .i64 t536, .int .u64 t537, .int .u64 0, .bool false]) ?_ 4 _ rfl; refine z2_ ?_; refine blk_put (cs := #[.int .i64 t534, .bool t535, .int .i64 t536, .int .u64 0, .int .u64 0, .bool false]) ?_ 3 _ rfl; refine z2_ ?_; refine blk_put (cs := #[.int .i64 t534, .bool t535, .int .i64 0, .int .u64 0, .int .u64 0, .bool false]) ?_ 2 _ rfl; refine z2_ ?_; refine blk_put (cs := #[.int .i64 t534, .bool false, .int .i64 0, .int .u64 0, .int .u64 0, .bool false]) ?_ 1 _ rfl; refine z2_ ?_; refine blk_put (cs := #[.int .i64 0, .bool false, .int .i64 0, .int .u64 0, .int .u64 0, .bool false]) ?_ 0 _ rfl; refine z2_ ?_; exact BK541.out⟩, ⟨by repeat (first | (with_reducible first | exact HB.out | apply below_alloc | apply pw_below_drewN | apply below_drew1 | refine below_set ?_ GE507.out | refine below_set ?_ GE519.out | refine below_set ?_ GE525.out | refine below_set ?_ GE533.out | refine below_set ?_ GE541.out) | exact HB.out)⟩⟩
             ·have H1 : (vernierlaw07_RoundTies.j2 kj26 a0 t508 t510 true a1_0 false a1_2 a1_3 a1_4 a1_5 t526 t527 t528 t529 t530 t531 t534 t535 t536 t537 t538 t539) = some r := by rw [if_neg (show ¬ (some q545).isNone = true by simp)] at H; exact H
              clear H
              have H := H1
              clear H1
              try simp only [errW_none, errW_some]
              have H' := Aside0.mk H
              clear H
              go_wp2
              go_meet
              case rel => exact ⟨_, (true), (by first | rfl | (simp; done) | (simp [*]; done)), H', ⟨by have := HJ4.out; have := HJ26.out; first | omega | exact Nat.le_refl _⟩, ⟨by refine z2_ ?_; refine blk_far ?_ NB507_541.out _; refine z2_ ?_; refine blk_far ?_ NB507_541.out _; refine z2_ ?_; refine blk_far ?_ NB507_541.out _; refine z2_ ?_; refine blk_far ?_ NB507_541.out _; refine z2_ ?_; refine blk_far ?_ NB507_541.out _; refine z2_ ?_; refine blk_far ?_ NB507_541.out _; refine z2_ ?_; exact BK507.out⟩, ⟨by refine z2_ ?_; refine blk_far ?_ NB519_541.out _; refine z2_ ?_; refine blk_far ?_ NB519_541.out _; refine z2_ ?_; refine blk_far ?_ NB519_541.out _; refine z2_ ?_; refine blk_far ?_ NB519_541.out _; refine z2_ ?_; refine blk_far ?_ NB519_541.out _; refine z2_ ?_; refine blk_far ?_ NB519_541.out _; refine z2_ ?_; exact BK519.out⟩, ⟨by refine z2_ ?_; refine blk_far ?_ NB525_541.out _; refine z2_ ?_; refine blk_far ?_ NB525_541.out _; refine z2_ ?_; refine blk_far ?_ NB525_541.out _; refine z2_ ?_; refine blk_far ?_ NB525_541.out _; refine z2_ ?_; refine blk_far ?_ NB525_541.out _; refine z2_ ?_; refine blk_far ?_ NB525_541.out _; refine z2_ ?_; exact BK525.out⟩, ⟨by refine z2_ ?_; refine blk_far ?_ NB533_541.out _; refine z2_ ?_; refine blk_far ?_ NB533_541.out _; refine z2_ ?_; refine blk_far ?_ NB533_541.out _; refine z2_ ?_; refine blk_far ?_ NB533_541.out _; refine z2_ ?_; refine blk_far ?_ NB533_541.out _; refine z2_ ?_; refine blk_far ?_ NB533_541.out _; refine z2_ ?_; exact BK533.out⟩, ⟨by refine z2_ ?_; refine blk_put (cs := #[.int .i64 t534, .bool t535, .int .i64 t536, .int .u64 t537, .int .u64 t538, .bool false]) ?_ 5 _ rfl; refine z2_ ?_; refine blk_put (cs := #[.int .i64 t534, .bool t535, .int .i64 t536, .int .u64 t537, .int .u64 0, .bool false]) ?_ 4 _ rfl; refine z2_ ?_; refine blk_put (cs := #[.int .i64 t534, .bool t535, .int .i64 t536, .int .u64 0, .int .u64 0, .bool false]) ?_ 3 _ rfl; refine z2_ ?_; refine blk_put (cs := #[.int .i64 t534, .bool t535, .int .i64 0, .int .u64 0, .int .u64 0, .bool false]) ?_ 2 _ rfl; refine z2_ ?_; refine blk_put (cs := #[.int .i64 t534, .bool false, .int .i64 0, .int .u64 0, .int .u64 0, .bool false]) ?_ 1 _ rfl; refine z2_ ?_; refine blk_put (cs := #[.int .i64 0, .bool false, .int .i64 0, .int .u64 0, .int .u64 0, .bool false]) ?_ 0 _ rfl; refine z2_ ?_; exact BK541.out⟩, ⟨by repeat (first | (with_reducible first | exact HB.out | apply below_alloc | apply pw_below_drewN | apply below_drew1 | refine below_set ?_ GE507.out | refine below_set ?_ GE519.out | refine below_set ?_ GE525.out | refine below_set ?_ GE533.out | refine below_set ?_ GE541.out) | exact HB.out)⟩⟩
            ·have H1 : (vernierlaw07_RoundTies.j2 kj26 a0 t508 t510 true a1_0 false a1_2 a1_3 a1_4 a1_5 t526 t527 t528 t529 t530 t531 t534 t535 t536 t537 t538 t539) = some r := by rw [if_neg (show ¬ (some q544).isNone = true by simp)] at H; exact H
             clear H
             have H := H1
             clear H1
             try simp only [errW_none, errW_some]
             have H' := Aside0.mk H
             clear H
             go_wp2
             go_meet
             case rel => exact ⟨_, (true), (by first | rfl | (simp; done) | (simp [*]; done)), H', ⟨by have := HJ4.out; have := HJ26.out; first | omega | exact Nat.le_refl _⟩, ⟨by refine z2_ ?_; refine blk_far ?_ NB507_541.out _; refine z2_ ?_; refine blk_far ?_ NB507_541.out _; refine z2_ ?_; refine blk_far ?_ NB507_541.out _; refine z2_ ?_; refine blk_far ?_ NB507_541.out _; refine z2_ ?_; refine blk_far ?_ NB507_541.out _; refine z2_ ?_; refine blk_far ?_ NB507_541.out _; refine z2_ ?_; exact BK507.out⟩, ⟨by refine z2_ ?_; refine blk_far ?_ NB519_541.out _; refine z2_ ?_; refine blk_far ?_ NB519_541.out _; refine z2_ ?_; refine blk_far ?_ NB519_541.out _; refine z2_ ?_; refine blk_far ?_ NB519_541.out _; refine z2_ ?_; refine blk_far ?_ NB519_541.out _; refine z2_ ?_; refine blk_far ?_ NB519_541.out _; refine z2_ ?_; exact BK519.out⟩, ⟨by refine z2_ ?_; refine blk_far ?_ NB525_541.out _; refine z2_ ?_; refine blk_far ?_ NB525_541.out _; refine z2_ ?_; refine blk_far ?_ NB525_541.out _; refine z2_ ?_; refine blk_far ?_ NB525_541.out _; refine z2_ ?_; refine blk_far ?_ NB525_541.out _; refine z2_ ?_; refine blk_far ?_ NB525_541.out _; refine z2_ ?_; exact BK525.out⟩, ⟨by refine z2_ ?_; refine blk_far ?_ NB533_541.out _; refine z2_ ?_; refine blk_far ?_ NB533_541.out _; refine z2_ ?_; refine blk_far ?_ NB533_541.out _; refine z2_ ?_; refine blk_far ?_ NB533_541.out _; refine z2_ ?_; refine blk_far ?_ NB533_541.out _; refine z2_ ?_; refine blk_far ?_ NB533_541.out _; refine z2_ ?_; exact BK533.out⟩, ⟨by refine z2_ ?_; refine blk_put (cs := #[.int .i64 t534, .bool t535, .int .i64 t536, .int .u64 t537, .int .u64 t538, .bool false]) ?_ 5 _ rfl; refine z2_ ?_; refine blk_put (cs := #[.int .i64 t534, .bool t535, .int .i64 t536, .int .u64 t537, .int .u64 0, .bool false]) ?_ 4 _ rfl; refine z2_ ?_; refine blk_put (cs := #[.int .i64 t534, .bool t535, .int .i64 t536, .int .u64 0, .int .u64 0, .bool false]) ?_ 3 _ rfl; refine z2_ ?_; refine blk_put (cs := #[.int .i64 t534, .bool t535, .int .i64 0, .int .u64 0, .int .u64 0, .bool false]) ?_ 2 _ rfl; refine z2_ ?_; refine blk_put (cs := #[.int .i64 t534, .bool false, .int .i64 0, .int .u64 0, .int .u64 0, .bool false]) ?_ 1 _ rfl; refine z2_ ?_; refine blk_put (cs := #[.int .i64 0, .bool false, .int .i64 0, .int .u64 0, .int .u64 0, .bool false]) ?_ 0 _ rfl; refine z2_ ?_; exact BK541.out⟩, ⟨by repeat (first | (with_reducible first | exact HB.out | apply below_alloc | apply pw_below_drewN | apply below_drew1 | refine below_set ?_ GE507.out | refine below_set ?_ GE519.out | refine below_set ?_ GE525.out | refine below_set ?_ GE533.out | refine below_set ?_ GE541.out) | exact HB.out)⟩⟩
           ·have H1 : (vernierlaw07_RoundTies.j2 kj26 a0 t508 t510 true a1_0 false a1_2 a1_3 a1_4 a1_5 t526 t527 t528 t529 t530 t531 t534 t535 t536 t537 t538 t539) = some r := by rw [if_neg (show ¬ (some q543).isNone = true by simp)] at H; exact H
            clear H
            have H := H1
            clear H1
            try simp only [errW_none, errW_some]
            have H' := Aside0.mk H
            clear H
            go_wp2
            go_meet
            case rel => exact ⟨_, (true), (by first | rfl | (simp; done) | (simp [*]; done)), H', ⟨by have := HJ4.out; have := HJ26.out; first | omega | exact Nat.le_refl _⟩, ⟨by refine z2_ ?_; refine blk_far ?_ NB507_541.out _; refine z2_ ?_; refine blk_far ?_ NB507_541.out _; refine z2_ ?_; refine blk_far ?_ NB507_541.out _; refine z2_ ?_; refine blk_far ?_ NB507_541.out _; refine z2_ ?_; refine blk_far ?_ NB507_541.out _; refine z2_ ?_; refine blk_far ?_ NB507_541.out _; refine z2_ ?_; exact BK507.out⟩, ⟨by refine z2_ ?_; refine blk_far ?_ NB519_541.out _; refine z2_ ?_; refine blk_far ?_ NB519_541.out _; refine z2_ ?_; refine blk_far ?_ NB519_541.out _; refine z2_ ?_; refine blk_far ?_ NB519_541.out _; refine z2_ ?_; refine blk_far ?_ NB519_541.out _; refine z2_ ?_; refine blk_far ?_ NB519_541.out _; refine z2_ ?_; exact BK519.out⟩, ⟨by refine z2_ ?_; refine blk_far ?_ NB525_541.out _; refine z2_ ?_; refine blk_far ?_ NB525_541.out _; refine z2_ ?_; refine blk_far ?_ NB525_541.out _; refine z2_ ?_; refine blk_far ?_ NB525_541.out _; refine z2_ ?_; refine blk_far ?_ NB525_541.out _; refine z2_ ?_; refine blk_far ?_ NB525_541.out _; refine z2_ ?_; exact BK525.out⟩, ⟨by refine z2_ ?_; refine blk_far ?_ NB533_541.out _; refine z2_ ?_; refine blk_far ?_ NB533_541.out _; refine z2_ ?_; refine blk_far ?_ NB533_541.out _; refine z2_ ?_; refine blk_far ?_ NB533_541.out _; refine z2_ ?_; refine blk_far ?_ NB533_541.out _; refine z2_ ?_; refine blk_far ?_ NB533_541.out _; refine z2_ ?_; exact BK533.out⟩, ⟨by refine z2_ ?_; refine blk_put (cs := #[.int .i64 t534, .bool t535, .int .i64 t536, .int .u64 t537, .int .u64 t538, .bool false]) ?_ 5 _ rfl; refine z2_ ?_; refine blk_put (cs := #[.int .i64 t534, .bool t535, .int .i64 t536, .int .u64 t537, .int .u64 0, .bool false]) ?_ 4 _ rfl; refine z2_ ?_; refine blk_put (cs := #[.int .i64 t534, .bool t535, .int .i64 t536, .int .u64 0, .int .u64 0, .bool false]) ?_ 3 _ rfl; refine z2_ ?_; refine blk_put (cs := #[.int .i64 t534, .bool t535, .int .i64 0, .int .u64 0, .int .u64 0, .bool false]) ?_ 2 _ rfl; refine z2_ ?_; refine blk_put (cs := #[.int .i64 t534, .bool false, .int .i64 0, .int .u64 0, .int .u64 0, .bool false]) ?_ 1 _ rfl; refine z2_ ?_; refine blk_put (cs := #[.int .i64 0, .bool false, .int .i64 0, .int .u64 0, .int .u64 0, .bool false]) ?_ 0 _ rfl; refine z2_ ?_; exact BK541.out⟩, ⟨by repeat (first | (with_reducible first | exact HB.out | apply below_alloc | apply pw_below_drewN | apply below_drew1 | refine below_set ?_ GE507.out | refine below_set ?_ GE519.out | refine below_set ?_ GE525.out | refine below_set ?_ GE533.out | refine below_set ?_ GE541.out) | exact HB.out)⟩⟩
          ·have H1 : (vernierlaw07_RoundTies.j2 kj26 a0 t508 t510 true a1_0 false a1_2 a1_3 a1_4 a1_5 t526 t527 t528 t529 t530 t531 t534 t535 t536 t537 t538 t539) = some r := by rw [if_neg (show ¬ (some q542).isNone = true by simp)] at H; exact H
           clear H
           have H := H1
           clear H1
           try simp only [errW_none, errW_some]
           have H' := Aside0.mk H
           clear H
           go_wp2
           go_meet
           case rel => exact ⟨_, (true), (by first | rfl | (simp; done) | (simp [*]; done)), H', ⟨by have := HJ4.out; have := HJ26.out; first | omega | exact Nat.le_refl _⟩, ⟨by refine z2_ ?_; refine blk_far ?_ NB507_541.out _; refine z2_ ?_; refine blk_far ?_ NB507_541.out _; refine z2_ ?_; refine blk_far ?_ NB507_541.out _; refine z2_ ?_; refine blk_far ?_ NB507_541.out _; refine z2_ ?_; refine blk_far ?_ NB507_541.out _; refine z2_ ?_; refine blk_far ?_ NB507_541.out _; refine z2_ ?_; exact BK507.out⟩, ⟨by refine z2_ ?_; refine blk_far ?_ NB519_541.out _; refine z2_ ?_; refine blk_far ?_ NB519_541.out _; refine z2_ ?_; refine blk_far ?_ NB519_541.out _; refine z2_ ?_; refine blk_far ?_ NB519_541.out _; refine z2_ ?_; refine blk_far ?_ NB519_541.out _; refine z2_ ?_; refine blk_far ?_ NB519_541.out _; refine z2_ ?_; exact BK519.out⟩, ⟨by refine z2_ ?_; refine blk_far ?_ NB525_541.out _; refine z2_ ?_; refine blk_far ?_ NB525_541.out _; refine z2_ ?_; refine blk_far ?_ NB525_541.out _; refine z2_ ?_; refine blk_far ?_ NB525_541.out _; refine z2_ ?_; refine blk_far ?_ NB525_541.out _; refine z2_ ?_; refine blk_far ?_ NB525_541.out _; refine z2_ ?_; exact BK525.out⟩, ⟨by refine z2_ ?_; refine blk_far ?_ NB533_541.out _; refine z2_ ?_; refine blk_far ?_ NB533_541.out _; refine z2_ ?_; refine blk_far ?_ NB533_541.out _; refine z2_ ?_; refine blk_far ?_ NB533_541.out _; refine z2_ ?_; refine blk_far ?_ NB533_541.out _; refine z2_ ?_; refine blk_far ?_ NB533_541.out _; refine z2_ ?_; exact BK533.out⟩, ⟨by refine z2_ ?_; refine blk_put (cs := #[.int .i64 t534, .bool t535, .int .i64 t536, .int .u64 t537, .int .u64 t538, .bool false]) ?_ 5 _ rfl; refine z2_ ?_; refine blk_put (cs := #[.int .i64 t534, .bool t535, .int .i64 t536, .int .u64 t537, .int .u64 0, .bool false]) ?_ 4 _ rfl; refine z2_ ?_; refine blk_put (cs := #[.int .i64 t534, .bool t535, .int .i64 t536, .int .u64 0, .int .u64 0, .bool false]) ?_ 3 _ rfl; refine z2_ ?_; refine blk_put (cs := #[.int .i64 t534, .bool t535, .int .i64 0, .int .u64 0, .int .u64 0, .bool false]) ?_ 2 _ rfl; refine z2_ ?_; refine blk_put (cs := #[.int .i64 t534, .bool false, .int .i64 0, .int .u64 0, .int .u64 0, .bool false]) ?_ 1 _ rfl; refine z2_ ?_; refine blk_put (cs := #[.int .i64 0, .bool false, .int .i64 0, .int .u64 0, .int .u64 0, .bool false]) ?_ 0 _ rfl; refine z2_ ?_; exact BK541.out⟩, ⟨by repeat (first | (with_reducible first | exact HB.out | apply below_alloc | apply pw_below_drewN | apply below_drew1 | refine below_set ?_ GE507.out | refine below_set ?_ GE519.out | refine below_set ?_ GE525.out | refine below_set ?_ GE533.out | refine below_set ?_ GE541.out) | exact HB.out)⟩⟩
         case rest =>
          clear HC46
          try clear c2
          try clear p2
          try clear q5
          try clear c6
          try clear c7
          try clear c8
          try clear c20
          try clear c24
          try clear q54
          try clear c64
          try clear c65
          try clear c69
          try clear c70
          try clear c71
          try clear c73
          try clear c77
          try clear c78
          try clear c79
          try clear c80
          try clear hcz66_0
          try clear hcz66_1
          try clear hcz66_2
          try clear hcz66_3
          try clear hcz72_0
          try clear hcz72_1
          try clear hcz72_2
          try clear hcz72_3
          try clear hcz72_4
          try clear hcz72_5
          try clear hcz74_0
          try clear hcz74_1
          try clear hcz74_2
          try clear hcz74_3
          try clear hcz81_0
          try clear hcz81_1
          try clear hcz81_2
          try clear hcz81_3
          try clear hcz81_4
          try clear hcz81_5
          try clear hfz66_0
          try clear hfz66_1
          try clear hfz66_2
          try clear hfz66_3
          try clear hfz72_0
          try clear hfz72_1
          try clear hfz72_2
          try clear hfz72_3
          try clear hfz72_4
          try clear hfz72_5
          try clear hfz74_0
          try clear hfz74_1
          try clear hfz74_2
          try clear hfz74_3
          try clear hfz81_0
          try clear hfz81_1
          try clear hfz81_2
          try clear hfz81_3
          try clear hfz81_4
          try clear hfz81_5
          try clear q542
          try clear q543
          try clear q544
          try clear q545
          obtain ⟨kq, x116_45, rfl, HA, HJ45, BK507, BK519, BK525, BK533, BK541, HB⟩ := hcut
          cases kq with
          | zero => exact absurd HA.out (by simp [vernierlaw07_RoundTies.j2])
          | succ kj45 =>
           have H := HA.out
           clear HA
           simp only [vernierlaw07_RoundTies.j2] at H
           by_cases c82 : x116_45 = true
           ·subst c82
            have H1 : (some false) = some r := by rw [if_pos rfl] at H; exact H
            clear H
            have H := H1
            clear H1
            obtain rfl := Option.some.inj H
            go_wp2
            go_ret
            exact ⟨by first | rfl | (simp [errW_none, errW_some] <;> rfl) | (simp only [← hji33, ← hji35, ← hji36, ← hji38, ← hji41]; first | rfl | (simp [errW_none, errW_some] <;> rfl)) | (simp [*, errW_none, errW_some] <;> rfl), by repeat (first | (with_reducible first | exact HB.out | apply below_alloc | apply pw_below_drewN | apply below_drew1 | refine below_set ?_ GE507.out | refine below_set ?_ GE519.out | refine below_set ?_ GE525.out | refine below_set ?_ GE533.out | refine below_set ?_ GE541.out) | exact HB.out)⟩
           ·replace c82 := Bool.eq_false_iff.mpr c82
            subst c82
            have H1 : ((vernierref07_Cmp.f kj45 a1_0 false a1_2 a1_3 a1_4 a1_5 t526 t527 t528 t529 t530 t531).bind fun t546 => ((vernierref07_Cmp.f kj45 a1_0 false a1_2 a1_3 a1_4 a1_5 t534 t535 t536 t537 t538 t539).bind fun t547 => ((vernierref05_Power.f kj45 (wrap64 (a0 - 1))).bind fun t548 => (if t508 = true then (if t510 = (IntKind.u64.wrap (t548 - 1)) then (if t510 = 1 then (some true) else (if t547 > 0 then (some true) else (if t547 = 0 then (some ((Int.tmod t510 2) == 0)) else (some false)))) else (if t546 < 0 then (if t510 = 1 then (some true) else (if t547 > 0 then (some true) else (if t547 = 0 then (some ((Int.tmod t510 2) == 0)) else (some false)))) else (if t546 = 0 then (if (Int.tmod t510 2) = 0 then (if t510 = 1 then (some true) else (if t547 > 0 then (some true) else (if t547 = 0 then (some ((Int.tmod t510 2) == 0)) else (some false)))) else (some false)) else (some false)))) else (some false))))) = some r := by rw [if_neg (show ¬ (false = true) by decide)] at H; exact H
            clear H
            have H := H1
            clear H1
            replace H := Option.bind_eq_some_iff.mp H
            obtain ⟨t546, A830, H⟩ := H
            replace H : ((vernierref07_Cmp.f kj45 a1_0 false a1_2 a1_3 a1_4 a1_5 t534 t535 t536 t537 t538 t539).bind fun t547 => ((vernierref05_Power.f kj45 (wrap64 (a0 - 1))).bind fun t548 => (if t508 = true then (if t510 = (IntKind.u64.wrap (t548 - 1)) then (if t510 = 1 then (some true) else (if t547 > 0 then (some true) else (if t547 = 0 then (some ((Int.tmod t510 2) == 0)) else (some false)))) else (if t546 < 0 then (if t510 = 1 then (some true) else (if t547 > 0 then (some true) else (if t547 = 0 then (some ((Int.tmod t510 2) == 0)) else (some false)))) else (if t546 = 0 then (if (Int.tmod t510 2) = 0 then (if t510 = 1 then (some true) else (if t547 > 0 then (some true) else (if t547 = 0 then (some ((Int.tmod t510 2) == 0)) else (some false)))) else (some false)) else (some false)))) else (some false)))) = some r := H
            have A83 := Aside0.mk A830
            clear A830
            replace H := Option.bind_eq_some_iff.mp H
            obtain ⟨t547, A840, H⟩ := H
            replace H : ((vernierref05_Power.f kj45 (wrap64 (a0 - 1))).bind fun t548 => (if t508 = true then (if t510 = (IntKind.u64.wrap (t548 - 1)) then (if t510 = 1 then (some true) else (if t547 > 0 then (some true) else (if t547 = 0 then (some ((Int.tmod t510 2) == 0)) else (some false)))) else (if t546 < 0 then (if t510 = 1 then (some true) else (if t547 > 0 then (some true) else (if t547 = 0 then (some ((Int.tmod t510 2) == 0)) else (some false)))) else (if t546 = 0 then (if (Int.tmod t510 2) = 0 then (if t510 = 1 then (some true) else (if t547 > 0 then (some true) else (if t547 = 0 then (some ((Int.tmod t510 2) == 0)) else (some false)))) else (some false)) else (some false)))) else (some false))) = some r := H
            have A84 := Aside0.mk A840
            clear A840
            replace H := Option.bind_eq_some_iff.mp H
            obtain ⟨t548, A850, H⟩ := H
            replace H : (if t508 = true then (if t510 = (IntKind.u64.wrap (t548 - 1)) then (if t510 = 1 then (some true) else (if t547 > 0 then (some true) else (if t547 = 0 then (some ((Int.tmod t510 2) == 0)) else (some false)))) else (if t546 < 0 then (if t510 = 1 then (some true) else (if t547 > 0 then (some true) else (if t547 = 0 then (some ((Int.tmod t510 2) == 0)) else (some false)))) else (if t546 = 0 then (if (Int.tmod t510 2) = 0 then (if t510 = 1 then (some true) else (if t547 > 0 then (some true) else (if t547 = 0 then (some ((Int.tmod t510 2) == 0)) else (some false)))) else (some false)) else (some false)))) else (some false)) = some r := H
            have A85 := Aside0.mk A850
            clear A850
            by_cases c86 : t508 = true
            ·subst c86
             have H1 : (if t510 = (IntKind.u64.wrap (t548 - 1)) then (if t510 = 1 then (some true) else (if t547 > 0 then (some true) else (if t547 = 0 then (some ((Int.tmod t510 2) == 0)) else (some false)))) else (if t546 < 0 then (if t510 = 1 then (some true) else (if t547 > 0 then (some true) else (if t547 = 0 then (some ((Int.tmod t510 2) == 0)) else (some false)))) else (if t546 = 0 then (if (Int.tmod t510 2) = 0 then (if t510 = 1 then (some true) else (if t547 > 0 then (some true) else (if t547 = 0 then (some ((Int.tmod t510 2) == 0)) else (some false)))) else (some false)) else (some false)))) = some r := by rw [if_pos rfl] at H; exact H
             clear H
             have H := H1
             clear H1
             by_cases c87 : t510 = (IntKind.u64.wrap (t548 - 1))
             ·rw [if_pos c87] at H
              have c87b0 : (t510 == (IntKind.u64.wrap (t548 - 1))) = true := beq_iff_eq.mpr c87
              have c87b1 : (t510 != (IntKind.u64.wrap (t548 - 1))) = false := bne_eq_false_iff_eq.mpr c87
              clear c87
              by_cases c88 : t510 = 1
              ·rw [if_pos c88] at H
               have c88b0 : (t510 == 1) = true := beq_iff_eq.mpr c88
               have c88b1 : (t510 != 1) = false := bne_eq_false_iff_eq.mpr c88
               clear c88
               obtain rfl := Option.some.inj H
               have hnb89 := NB507_519.out
               have hnc89 := NB519_507.out
               have hnb90 := NB507_525.out
               have hnc90 := NB525_507.out
               have hnb91 := NB507_533.out
               have hnc91 := NB533_507.out
               have hnb92 := NB507_541.out
               have hnc92 := NB541_507.out
               have hcz93_0 := z4_ BK507.out 0 (.int .i64 a1_0) rfl
               have hcz93_1 := z4_ BK507.out 1 (.bool false) rfl
               have hcz93_2 := z4_ BK507.out 2 (.int .i64 a1_2) rfl
               have hcz93_3 := z4_ BK507.out 3 (.int .u64 a1_3) rfl
               have hcz93_4 := z4_ BK507.out 4 (.int .u64 a1_4) rfl
               have hcz93_5 := z4_ BK507.out 5 (.bool a1_5) rfl
               have hfz93_0 := blk_frozen BK507.out 0
               have hfz93_1 := blk_frozen BK507.out 1
               have hfz93_2 := blk_frozen BK507.out 2
               have hfz93_3 := blk_frozen BK507.out 3
               have hfz93_4 := blk_frozen BK507.out 4
               have hfz93_5 := blk_frozen BK507.out 5
               have hnb94 := NB533_519.out
               have hnc94 := NB519_533.out
               have hnb95 := NB533_525.out
               have hnc95 := NB525_533.out
               have hnb96 := NB533_541.out
               have hnc96 := NB541_533.out
               have hcz97_0 := z4_ BK533.out 0 (.int .i64 t526) rfl
               have hcz97_1 := z4_ BK533.out 1 (.bool t527) rfl
               have hcz97_2 := z4_ BK533.out 2 (.int .i64 t528) rfl
               have hcz97_3 := z4_ BK533.out 3 (.int .u64 t529) rfl
               have hcz97_4 := z4_ BK533.out 4 (.int .u64 t530) rfl
               have hcz97_5 := z4_ BK533.out 5 (.bool t531) rfl
               have hfz97_0 := blk_frozen BK533.out 0
               have hfz97_1 := blk_frozen BK533.out 1
               have hfz97_2 := blk_frozen BK533.out 2
               have hfz97_3 := blk_frozen BK533.out 3
               have hfz97_4 := blk_frozen BK533.out 4
               have hfz97_5 := blk_frozen BK533.out 5
               go_wp2_with (first | ((with_reducible refine gate_callee (f := 18) rfl ?_); refine goesL_ (some 119) rfl rfl Try.func18 (by kernel_rfl) rfl #[.agg #[.int .i64 a1_0, .bool false, .int .i64 a1_2, .int .u64 a1_3, .int .u64 a1_4, .bool a1_5], .agg #[.int .i64 t526, .bool t527, .int .i64 t528, .int .u64 t529, .int .u64 t530, .bool t531]] rfl z5_ ?_; (with_reducible refine (vernierref07_Cmp.calls kj45 a1_0 false a1_2 a1_3 a1_4 a1_5 t526 t527 t528 t529 t530 t531 t546 _ A83.out).mono ?_); rintro e w98 ⟨rfl, hb⟩; refine ⟨_, rfl, ?_⟩; have n0_ := Aside0.mk (blk_below (g := gb507) (z1_ BK507.out) hb); have n1_ := Aside0.mk (blk_below (g := gb519) (z1_ BK519.out) hb); have n2_ := Aside0.mk (blk_below (g := gb525) (z1_ BK525.out) hb); have n3_ := Aside0.mk (blk_below (g := gb533) (z1_ BK533.out) hb); have n4_ := Aside0.mk (blk_below (g := gb541) (z1_ BK541.out) hb); have n5_ := Aside0.mk (below_step (z3_ HB.out) hb); clear BK507; clear BK519; clear BK525; clear BK533; clear BK541; clear HB; have BK507 := n0_; have BK519 := n1_; have BK525 := n2_; have BK533 := n3_; have BK541 := n4_; have HB := n5_; clear n0_ n1_ n2_ n3_ n4_ n5_; (try clear hb); (try clear hb2); (try clear hk); (try clear hi); have hcz99_0 := z4_ BK507.out 0 (.int .i64 a1_0) rfl; have hcz99_1 := z4_ BK507.out 1 (.bool false) rfl; have hcz99_2 := z4_ BK507.out 2 (.int .i64 a1_2) rfl; have hcz99_3 := z4_ BK507.out 3 (.int .u64 a1_3) rfl; have hcz99_4 := z4_ BK507.out 4 (.int .u64 a1_4) rfl; have hcz99_5 := z4_ BK507.out 5 (.bool a1_5) rfl; have hfz99_0 := blk_frozen BK507.out 0; have hfz99_1 := blk_frozen BK507.out 1; have hfz99_2 := blk_frozen BK507.out 2; have hfz99_3 := blk_frozen BK507.out 3; have hfz99_4 := blk_frozen BK507.out 4; have hfz99_5 := blk_frozen BK507.out 5; have hnb100 := NB541_519.out; have hnc100 := NB519_541.out; have hnb101 := NB541_525.out; have hnc101 := NB525_541.out; have hcz102_0 := z4_ BK541.out 0 (.int .i64 t534) rfl; have hcz102_1 := z4_ BK541.out 1 (.bool t535) rfl; have hcz102_2 := z4_ BK541.out 2 (.int .i64 t536) rfl; have hcz102_3 := z4_ BK541.out 3 (.int .u64 t537) rfl; have hcz102_4 := z4_ BK541.out 4 (.int .u64 t538) rfl; have hcz102_5 := z4_ BK541.out 5 (.bool t539) rfl; have hfz102_0 := blk_frozen BK541.out 0; have hfz102_1 := blk_frozen BK541.out 1; have hfz102_2 := blk_frozen BK541.out 2; have hfz102_3 := blk_frozen BK541.out 3; have hfz102_4 := blk_frozen BK541.out 4; have hfz102_5 := blk_frozen BK541.out 5) | ((with_reducible refine gate_callee (f := 18) rfl ?_); refine goesL_ (some 122) rfl rfl Try.func18 (by kernel_rfl) rfl #[.agg #[.int .i64 a1_0, .bool false, .int .i64 a1_2, .int .u64 a1_3, .int .u64 a1_4, .bool a1_5], .agg #[.int .i64 t534, .bool t535, .int .i64 t536, .int .u64 t537, .int .u64 t538, .bool t539]] rfl z5_ ?_; (with_reducible refine (vernierref07_Cmp.calls kj45 a1_0 false a1_2 a1_3 a1_4 a1_5 t534 t535 t536 t537 t538 t539 t547 _ A84.out).mono ?_); rintro e w103 ⟨rfl, hb⟩; refine ⟨_, rfl, ?_⟩; have n0_ := Aside0.mk (blk_below (g := gb507) (z1_ BK507.out) hb); have n1_ := Aside0.mk (blk_below (g := gb519) (z1_ BK519.out) hb); have n2_ := Aside0.mk (blk_below (g := gb525) (z1_ BK525.out) hb); have n3_ := Aside0.mk (blk_below (g := gb533) (z1_ BK533.out) hb); have n4_ := Aside0.mk (blk_below (g := gb541) (z1_ BK541.out) hb); have n5_ := Aside0.mk (below_step (z3_ HB.out) hb); clear BK507; clear BK519; clear BK525; clear BK533; clear BK541; clear HB; have BK507 := n0_; have BK519 := n1_; have BK525 := n2_; have BK533 := n3_; have BK541 := n4_; have HB := n5_; clear n0_ n1_ n2_ n3_ n4_ n5_; (try clear hb); (try clear hb2); (try clear hk); (try clear hi)) | ((with_reducible refine gate_callee (f := 26) rfl ?_); refine goesL_ (some 126) rfl rfl Try.func26 (by kernel_rfl) rfl #[.int .i64 (wrap64 (a0 - 1))] rfl z5_ ?_; (with_reducible refine (vernierref05_Power.calls kj45 (wrap64 (a0 - 1)) t548 _ A85.out).mono ?_); rintro e w' ⟨rfl, ⟨nd, rfl⟩⟩; refine ⟨_, rfl, ?_⟩))
               go_ret
               exact ⟨by first | rfl | (simp [errW_none, errW_some] <;> rfl) | (simp only [← hji33, ← hji35, ← hji36, ← hji38, ← hji41]; first | rfl | (simp [errW_none, errW_some] <;> rfl)) | (simp [*, errW_none, errW_some] <;> rfl), by repeat (first | (with_reducible first | exact HB.out | apply below_alloc | apply pw_below_drewN | apply below_drew1 | refine below_set ?_ GE507.out | refine below_set ?_ GE519.out | refine below_set ?_ GE525.out | refine below_set ?_ GE533.out | refine below_set ?_ GE541.out) | exact HB.out)⟩
              ·rw [if_neg c88] at H
               have c88b0 : (t510 == 1) = false := beq_eq_false_iff_ne.mpr c88
               have c88b1 : (t510 != 1) = true := bne_iff_ne.mpr c88
               by_cases c104 : t547 > 0
               ·rw [if_pos c104] at H
                have c104b0 : decide (0 < t547) = true := decide_eq_true c104
                clear c104
                obtain rfl := Option.some.inj H
                have hnb105 := NB507_519.out
                have hnc105 := NB519_507.out
                have hnb106 := NB507_525.out
                have hnc106 := NB525_507.out
                have hnb107 := NB507_533.out
                have hnc107 := NB533_507.out
                have hnb108 := NB507_541.out
                have hnc108 := NB541_507.out
                have hcz109_0 := z4_ BK507.out 0 (.int .i64 a1_0) rfl
                have hcz109_1 := z4_ BK507.out 1 (.bool false) rfl
                have hcz109_2 := z4_ BK507.out 2 (.int .i64 a1_2) rfl
                have hcz109_3 := z4_ BK507.out 3 (.int .u64 a1_3) rfl
                have hcz109_4 := z4_ BK507.out 4 (.int .u64 a1_4) rfl
                have hcz109_5 := z4_ BK507.out 5 (.bool a1_5) rfl
                have hfz109_0 := blk_frozen BK507.out 0
                have hfz109_1 := blk_frozen BK507.out 1
                have hfz109_2 := blk_frozen BK507.out 2
                have hfz109_3 := blk_frozen BK507.out 3
                have hfz109_4 := blk_frozen BK507.out 4
                have hfz109_5 := blk_frozen BK507.out 5
                have hnb110 := NB533_519.out
                have hnc110 := NB519_533.out
                have hnb111 := NB533_525.out
                have hnc111 := NB525_533.out
                have hnb112 := NB533_541.out
                have hnc112 := NB541_533.out
                have hcz113_0 := z4_ BK533.out 0 (.int .i64 t526) rfl
                have hcz113_1 := z4_ BK533.out 1 (.bool t527) rfl
                have hcz113_2 := z4_ BK533.out 2 (.int .i64 t528) rfl
                have hcz113_3 := z4_ BK533.out 3 (.int .u64 t529) rfl
                have hcz113_4 := z4_ BK533.out 4 (.int .u64 t530) rfl
                have hcz113_5 := z4_ BK533.out 5 (.bool t531) rfl
                have hfz113_0 := blk_frozen BK533.out 0
                have hfz113_1 := blk_frozen BK533.out 1
                have hfz113_2 := blk_frozen BK533.out 2
                have hfz113_3 := blk_frozen BK533.out 3
                have hfz113_4 := blk_frozen BK533.out 4
                have hfz113_5 := blk_frozen BK533.out 5
                go_wp2_with (first | ((with_reducible refine gate_callee (f := 18) rfl ?_); refine goesL_ (some 119) rfl rfl Try.func18 (by kernel_rfl) rfl #[.agg #[.int .i64 a1_0, .bool false, .int .i64 a1_2, .int .u64 a1_3, .int .u64 a1_4, .bool a1_5], .agg #[.int .i64 t526, .bool t527, .int .i64 t528, .int .u64 t529, .int .u64 t530, .bool t531]] rfl z5_ ?_; (with_reducible refine (vernierref07_Cmp.calls kj45 a1_0 false a1_2 a1_3 a1_4 a1_5 t526 t527 t528 t529 t530 t531 t546 _ A83.out).mono ?_); rintro e w114 ⟨rfl, hb⟩; refine ⟨_, rfl, ?_⟩; have n0_ := Aside0.mk (blk_below (g := gb507) (z1_ BK507.out) hb); have n1_ := Aside0.mk (blk_below (g := gb519) (z1_ BK519.out) hb); have n2_ := Aside0.mk (blk_below (g := gb525) (z1_ BK525.out) hb); have n3_ := Aside0.mk (blk_below (g := gb533) (z1_ BK533.out) hb); have n4_ := Aside0.mk (blk_below (g := gb541) (z1_ BK541.out) hb); have n5_ := Aside0.mk (below_step (z3_ HB.out) hb); clear BK507; clear BK519; clear BK525; clear BK533; clear BK541; clear HB; have BK507 := n0_; have BK519 := n1_; have BK525 := n2_; have BK533 := n3_; have BK541 := n4_; have HB := n5_; clear n0_ n1_ n2_ n3_ n4_ n5_; (try clear hb); (try clear hb2); (try clear hk); (try clear hi); have hcz115_0 := z4_ BK507.out 0 (.int .i64 a1_0) rfl; have hcz115_1 := z4_ BK507.out 1 (.bool false) rfl; have hcz115_2 := z4_ BK507.out 2 (.int .i64 a1_2) rfl; have hcz115_3 := z4_ BK507.out 3 (.int .u64 a1_3) rfl; have hcz115_4 := z4_ BK507.out 4 (.int .u64 a1_4) rfl; have hcz115_5 := z4_ BK507.out 5 (.bool a1_5) rfl; have hfz115_0 := blk_frozen BK507.out 0; have hfz115_1 := blk_frozen BK507.out 1; have hfz115_2 := blk_frozen BK507.out 2; have hfz115_3 := blk_frozen BK507.out 3; have hfz115_4 := blk_frozen BK507.out 4; have hfz115_5 := blk_frozen BK507.out 5; have hnb116 := NB541_519.out; have hnc116 := NB519_541.out; have hnb117 := NB541_525.out; have hnc117 := NB525_541.out; have hcz118_0 := z4_ BK541.out 0 (.int .i64 t534) rfl; have hcz118_1 := z4_ BK541.out 1 (.bool t535) rfl; have hcz118_2 := z4_ BK541.out 2 (.int .i64 t536) rfl; have hcz118_3 := z4_ BK541.out 3 (.int .u64 t537) rfl; have hcz118_4 := z4_ BK541.out 4 (.int .u64 t538) rfl; have hcz118_5 := z4_ BK541.out 5 (.bool t539) rfl; have hfz118_0 := blk_frozen BK541.out 0; have hfz118_1 := blk_frozen BK541.out 1; have hfz118_2 := blk_frozen BK541.out 2; have hfz118_3 := blk_frozen BK541.out 3; have hfz118_4 := blk_frozen BK541.out 4; have hfz118_5 := blk_frozen BK541.out 5) | ((with_reducible refine gate_callee (f := 18) rfl ?_); refine goesL_ (some 122) rfl rfl Try.func18 (by kernel_rfl) rfl #[.agg #[.int .i64 a1_0, .bool false, .int .i64 a1_2, .int .u64 a1_3, .int .u64 a1_4, .bool a1_5], .agg #[.int .i64 t534, .bool t535, .int .i64 t536, .int .u64 t537, .int .u64 t538, .bool t539]] rfl z5_ ?_; (with_reducible refine (vernierref07_Cmp.calls kj45 a1_0 false a1_2 a1_3 a1_4 a1_5 t534 t535 t536 t537 t538 t539 t547 _ A84.out).mono ?_); rintro e w119 ⟨rfl, hb⟩; refine ⟨_, rfl, ?_⟩; have n0_ := Aside0.mk (blk_below (g := gb507) (z1_ BK507.out) hb); have n1_ := Aside0.mk (blk_below (g := gb519) (z1_ BK519.out) hb); have n2_ := Aside0.mk (blk_below (g := gb525) (z1_ BK525.out) hb); have n3_ := Aside0.mk (blk_below (g := gb533) (z1_ BK533.out) hb); have n4_ := Aside0.mk (blk_below (g := gb541) (z1_ BK541.out) hb); have n5_ := Aside0.mk (below_step (z3_ HB.out) hb); clear BK507; clear BK519; clear BK525; clear BK533; clear BK541; clear HB; have BK507 := n0_; have BK519 := n1_; have BK525 := n2_; have BK533 := n3_; have BK541 := n4_; have HB := n5_; clear n0_ n1_ n2_ n3_ n4_ n5_; (try clear hb); (try clear hb2); (try clear hk); (try clear hi)) | ((with_reducible refine gate_callee (f := 26) rfl ?_); refine goesL_ (some 126) rfl rfl Try.func26 (by kernel_rfl) rfl #[.int .i64 (wrap64 (a0 - 1))] rfl z5_ ?_; (with_reducible refine (vernierref05_Power.calls kj45 (wrap64 (a0 - 1)) t548 _ A85.out).mono ?_); rintro e w' ⟨rfl, ⟨nd, rfl⟩⟩; refine ⟨_, rfl, ?_⟩))
                go_ret
                exact ⟨by first | rfl | (simp [errW_none, errW_some] <;> rfl) | (simp only [← hji33, ← hji35, ← hji36, ← hji38, ← hji41]; first | rfl | (simp [errW_none, errW_some] <;> rfl)) | (simp [*, errW_none, errW_some] <;> rfl), by repeat (first | (with_reducible first | exact HB.out | apply below_alloc | apply pw_below_drewN | apply below_drew1 | refine below_set ?_ GE507.out | refine below_set ?_ GE519.out | refine below_set ?_ GE525.out | refine below_set ?_ GE533.out | refine below_set ?_ GE541.out) | exact HB.out)⟩
               ·rw [if_neg c104] at H
                have c104b0 : decide (0 < t547) = false := decide_eq_false c104
                clear c104
                by_cases c120 : t547 = 0
                ·rw [if_pos c120] at H
                 have c120b0 : (t547 == 0) = true := beq_iff_eq.mpr c120
                 have c120b1 : (t547 != 0) = false := bne_eq_false_iff_eq.mpr c120
                 clear c120
                 obtain rfl := Option.some.inj H
                 have hnb121 := NB507_519.out
                 have hnc121 := NB519_507.out
                 have hnb122 := NB507_525.out
                 have hnc122 := NB525_507.out
                 have hnb123 := NB507_533.out
                 have hnc123 := NB533_507.out
                 have hnb124 := NB507_541.out
                 have hnc124 := NB541_507.out
                 have hcz125_0 := z4_ BK507.out 0 (.int .i64 a1_0) rfl
                 have hcz125_1 := z4_ BK507.out 1 (.bool false) rfl
                 have hcz125_2 := z4_ BK507.out 2 (.int .i64 a1_2) rfl
                 have hcz125_3 := z4_ BK507.out 3 (.int .u64 a1_3) rfl
                 have hcz125_4 := z4_ BK507.out 4 (.int .u64 a1_4) rfl
                 have hcz125_5 := z4_ BK507.out 5 (.bool a1_5) rfl
                 have hfz125_0 := blk_frozen BK507.out 0
                 have hfz125_1 := blk_frozen BK507.out 1
                 have hfz125_2 := blk_frozen BK507.out 2
                 have hfz125_3 := blk_frozen BK507.out 3
                 have hfz125_4 := blk_frozen BK507.out 4
                 have hfz125_5 := blk_frozen BK507.out 5
                 have hnb126 := NB533_519.out
                 have hnc126 := NB519_533.out
                 have hnb127 := NB533_525.out
                 have hnc127 := NB525_533.out
                 have hnb128 := NB533_541.out
                 have hnc128 := NB541_533.out
                 have hcz129_0 := z4_ BK533.out 0 (.int .i64 t526) rfl
                 have hcz129_1 := z4_ BK533.out 1 (.bool t527) rfl
                 have hcz129_2 := z4_ BK533.out 2 (.int .i64 t528) rfl
                 have hcz129_3 := z4_ BK533.out 3 (.int .u64 t529) rfl
                 have hcz129_4 := z4_ BK533.out 4 (.int .u64 t530) rfl
                 have hcz129_5 := z4_ BK533.out 5 (.bool t531) rfl
                 have hfz129_0 := blk_frozen BK533.out 0
                 have hfz129_1 := blk_frozen BK533.out 1
                 have hfz129_2 := blk_frozen BK533.out 2
                 have hfz129_3 := blk_frozen BK533.out 3
                 have hfz129_4 := blk_frozen BK533.out 4
                 have hfz129_5 := blk_frozen BK533.out 5
                 go_wp2_with (first | ((with_reducible refine gate_callee (f := 18) rfl ?_); refine goesL_ (some 119) rfl rfl Try.func18 (by kernel_rfl) rfl #[.agg #[.int .i64 a1_0, .bool false, .int .i64 a1_2, .int .u64 a1_3, .int .u64 a1_4, .bool a1_5], .agg #[.int .i64 t526, .bool t527, .int .i64 t528, .int .u64 t529, .int .u64 t530, .bool t531]] rfl z5_ ?_; (with_reducible refine (vernierref07_Cmp.calls kj45 a1_0 false a1_2 a1_3 a1_4 a1_5 t526 t527 t528 t529 t530 t531 t546 _ A83.out).mono ?_); rintro e w130 ⟨rfl, hb⟩; refine ⟨_, rfl, ?_⟩; have n0_ := Aside0.mk (blk_below (g := gb507) (z1_ BK507.out) hb); have n1_ := Aside0.mk (blk_below (g := gb519) (z1_ BK519.out) hb); have n2_ := Aside0.mk (blk_below (g := gb525) (z1_ BK525.out) hb); have n3_ := Aside0.mk (blk_below (g := gb533) (z1_ BK533.out) hb); have n4_ := Aside0.mk (blk_below (g := gb541) (z1_ BK541.out) hb); have n5_ := Aside0.mk (below_step (z3_ HB.out) hb); clear BK507; clear BK519; clear BK525; clear BK533; clear BK541; clear HB; have BK507 := n0_; have BK519 := n1_; have BK525 := n2_; have BK533 := n3_; have BK541 := n4_; have HB := n5_; clear n0_ n1_ n2_ n3_ n4_ n5_; (try clear hb); (try clear hb2); (try clear hk); (try clear hi); have hcz131_0 := z4_ BK507.out 0 (.int .i64 a1_0) rfl; have hcz131_1 := z4_ BK507.out 1 (.bool false) rfl; have hcz131_2 := z4_ BK507.out 2 (.int .i64 a1_2) rfl; have hcz131_3 := z4_ BK507.out 3 (.int .u64 a1_3) rfl; have hcz131_4 := z4_ BK507.out 4 (.int .u64 a1_4) rfl; have hcz131_5 := z4_ BK507.out 5 (.bool a1_5) rfl; have hfz131_0 := blk_frozen BK507.out 0; have hfz131_1 := blk_frozen BK507.out 1; have hfz131_2 := blk_frozen BK507.out 2; have hfz131_3 := blk_frozen BK507.out 3; have hfz131_4 := blk_frozen BK507.out 4; have hfz131_5 := blk_frozen BK507.out 5; have hnb132 := NB541_519.out; have hnc132 := NB519_541.out; have hnb133 := NB541_525.out; have hnc133 := NB525_541.out; have hcz134_0 := z4_ BK541.out 0 (.int .i64 t534) rfl; have hcz134_1 := z4_ BK541.out 1 (.bool t535) rfl; have hcz134_2 := z4_ BK541.out 2 (.int .i64 t536) rfl; have hcz134_3 := z4_ BK541.out 3 (.int .u64 t537) rfl; have hcz134_4 := z4_ BK541.out 4 (.int .u64 t538) rfl; have hcz134_5 := z4_ BK541.out 5 (.bool t539) rfl; have hfz134_0 := blk_frozen BK541.out 0; have hfz134_1 := blk_frozen BK541.out 1; have hfz134_2 := blk_frozen BK541.out 2; have hfz134_3 := blk_frozen BK541.out 3; have hfz134_4 := blk_frozen BK541.out 4; have hfz134_5 := blk_frozen BK541.out 5) | ((with_reducible refine gate_callee (f := 18) rfl ?_); refine goesL_ (some 122) rfl rfl Try.func18 (by kernel_rfl) rfl #[.agg #[.int .i64 a1_0, .bool false, .int .i64 a1_2, .int .u64 a1_3, .int .u64 a1_4, .bool a1_5], .agg #[.int .i64 t534, .bool t535, .int .i64 t536, .int .u64 t537, .int .u64 t538, .bool t539]] rfl z5_ ?_; (with_reducible refine (vernierref07_Cmp.calls kj45 a1_0 false a1_2 a1_3 a1_4 a1_5 t534 t535 t536 t537 t538 t539 t547 _ A84.out).mono ?_); rintro e w135 ⟨rfl, hb⟩; refine ⟨_, rfl, ?_⟩; have n0_ := Aside0.mk (blk_below (g := gb507) (z1_ BK507.out) hb); have n1_ := Aside0.mk (blk_below (g := gb519) (z1_ BK519.out) hb); have n2_ := Aside0.mk (blk_below (g := gb525) (z1_ BK525.out) hb); have n3_ := Aside0.mk (blk_below (g := gb533) (z1_ BK533.out) hb); have n4_ := Aside0.mk (blk_below (g := gb541) (z1_ BK541.out) hb); have n5_ := Aside0.mk (below_step (z3_ HB.out) hb); clear BK507; clear BK519; clear BK525; clear BK533; clear BK541; clear HB; have BK507 := n0_; have BK519 := n1_; have BK525 := n2_; have BK533 := n3_; have BK541 := n4_; have HB := n5_; clear n0_ n1_ n2_ n3_ n4_ n5_; (try clear hb); (try clear hb2); (try clear hk); (try clear hi)) | ((with_reducible refine gate_callee (f := 26) rfl ?_); refine goesL_ (some 126) rfl rfl Try.func26 (by kernel_rfl) rfl #[.int .i64 (wrap64 (a0 - 1))] rfl z5_ ?_; (with_reducible refine (vernierref05_Power.calls kj45 (wrap64 (a0 - 1)) t548 _ A85.out).mono ?_); rintro e w' ⟨rfl, ⟨nd, rfl⟩⟩; refine ⟨_, rfl, ?_⟩))
                 go_ret
                 exact ⟨by first | rfl | (simp [errW_none, errW_some] <;> rfl) | (simp only [← hji33, ← hji35, ← hji36, ← hji38, ← hji41]; first | rfl | (simp [errW_none, errW_some] <;> rfl)) | (simp [*, errW_none, errW_some] <;> rfl), by repeat (first | (with_reducible first | exact HB.out | apply below_alloc | apply pw_below_drewN | apply below_drew1 | refine below_set ?_ GE507.out | refine below_set ?_ GE519.out | refine below_set ?_ GE525.out | refine below_set ?_ GE533.out | refine below_set ?_ GE541.out) | exact HB.out)⟩
                ·rw [if_neg c120] at H
                 have c120b0 : (t547 == 0) = false := beq_eq_false_iff_ne.mpr c120
                 have c120b1 : (t547 != 0) = true := bne_iff_ne.mpr c120
                 obtain rfl := Option.some.inj H
                 have hnb136 := NB507_519.out
                 have hnc136 := NB519_507.out
                 have hnb137 := NB507_525.out
                 have hnc137 := NB525_507.out
                 have hnb138 := NB507_533.out
                 have hnc138 := NB533_507.out
                 have hnb139 := NB507_541.out
                 have hnc139 := NB541_507.out
                 have hcz140_0 := z4_ BK507.out 0 (.int .i64 a1_0) rfl
                 have hcz140_1 := z4_ BK507.out 1 (.bool false) rfl
                 have hcz140_2 := z4_ BK507.out 2 (.int .i64 a1_2) rfl
                 have hcz140_3 := z4_ BK507.out 3 (.int .u64 a1_3) rfl
                 have hcz140_4 := z4_ BK507.out 4 (.int .u64 a1_4) rfl
                 have hcz140_5 := z4_ BK507.out 5 (.bool a1_5) rfl
                 have hfz140_0 := blk_frozen BK507.out 0
                 have hfz140_1 := blk_frozen BK507.out 1
                 have hfz140_2 := blk_frozen BK507.out 2
                 have hfz140_3 := blk_frozen BK507.out 3
                 have hfz140_4 := blk_frozen BK507.out 4
                 have hfz140_5 := blk_frozen BK507.out 5
                 have hnb141 := NB533_519.out
                 have hnc141 := NB519_533.out
                 have hnb142 := NB533_525.out
                 have hnc142 := NB525_533.out
                 have hnb143 := NB533_541.out
                 have hnc143 := NB541_533.out
                 have hcz144_0 := z4_ BK533.out 0 (.int .i64 t526) rfl
                 have hcz144_1 := z4_ BK533.out 1 (.bool t527) rfl
                 have hcz144_2 := z4_ BK533.out 2 (.int .i64 t528) rfl
                 have hcz144_3 := z4_ BK533.out 3 (.int .u64 t529) rfl
                 have hcz144_4 := z4_ BK533.out 4 (.int .u64 t530) rfl
                 have hcz144_5 := z4_ BK533.out 5 (.bool t531) rfl
                 have hfz144_0 := blk_frozen BK533.out 0
                 have hfz144_1 := blk_frozen BK533.out 1
                 have hfz144_2 := blk_frozen BK533.out 2
                 have hfz144_3 := blk_frozen BK533.out 3
                 have hfz144_4 := blk_frozen BK533.out 4
                 have hfz144_5 := blk_frozen BK533.out 5
                 go_wp2_with (first | ((with_reducible refine gate_callee (f := 18) rfl ?_); refine goesL_ (some 119) rfl rfl Try.func18 (by kernel_rfl) rfl #[.agg #[.int .i64 a1_0, .bool false, .int .i64 a1_2, .int .u64 a1_3, .int .u64 a1_4, .bool a1_5], .agg #[.int .i64 t526, .bool t527, .int .i64 t528, .int .u64 t529, .int .u64 t530, .bool t531]] rfl z5_ ?_; (with_reducible refine (vernierref07_Cmp.calls kj45 a1_0 false a1_2 a1_3 a1_4 a1_5 t526 t527 t528 t529 t530 t531 t546 _ A83.out).mono ?_); rintro e w145 ⟨rfl, hb⟩; refine ⟨_, rfl, ?_⟩; have n0_ := Aside0.mk (blk_below (g := gb507) (z1_ BK507.out) hb); have n1_ := Aside0.mk (blk_below (g := gb519) (z1_ BK519.out) hb); have n2_ := Aside0.mk (blk_below (g := gb525) (z1_ BK525.out) hb); have n3_ := Aside0.mk (blk_below (g := gb533) (z1_ BK533.out) hb); have n4_ := Aside0.mk (blk_below (g := gb541) (z1_ BK541.out) hb); have n5_ := Aside0.mk (below_step (z3_ HB.out) hb); clear BK507; clear BK519; clear BK525; clear BK533; clear BK541; clear HB; have BK507 := n0_; have BK519 := n1_; have BK525 := n2_; have BK533 := n3_; have BK541 := n4_; have HB := n5_; clear n0_ n1_ n2_ n3_ n4_ n5_; (try clear hb); (try clear hb2); (try clear hk); (try clear hi); have hcz146_0 := z4_ BK507.out 0 (.int .i64 a1_0) rfl; have hcz146_1 := z4_ BK507.out 1 (.bool false) rfl; have hcz146_2 := z4_ BK507.out 2 (.int .i64 a1_2) rfl; have hcz146_3 := z4_ BK507.out 3 (.int .u64 a1_3) rfl; have hcz146_4 := z4_ BK507.out 4 (.int .u64 a1_4) rfl; have hcz146_5 := z4_ BK507.out 5 (.bool a1_5) rfl; have hfz146_0 := blk_frozen BK507.out 0; have hfz146_1 := blk_frozen BK507.out 1; have hfz146_2 := blk_frozen BK507.out 2; have hfz146_3 := blk_frozen BK507.out 3; have hfz146_4 := blk_frozen BK507.out 4; have hfz146_5 := blk_frozen BK507.out 5; have hnb147 := NB541_519.out; have hnc147 := NB519_541.out; have hnb148 := NB541_525.out; have hnc148 := NB525_541.out; have hcz149_0 := z4_ BK541.out 0 (.int .i64 t534) rfl; have hcz149_1 := z4_ BK541.out 1 (.bool t535) rfl; have hcz149_2 := z4_ BK541.out 2 (.int .i64 t536) rfl; have hcz149_3 := z4_ BK541.out 3 (.int .u64 t537) rfl; have hcz149_4 := z4_ BK541.out 4 (.int .u64 t538) rfl; have hcz149_5 := z4_ BK541.out 5 (.bool t539) rfl; have hfz149_0 := blk_frozen BK541.out 0; have hfz149_1 := blk_frozen BK541.out 1; have hfz149_2 := blk_frozen BK541.out 2; have hfz149_3 := blk_frozen BK541.out 3; have hfz149_4 := blk_frozen BK541.out 4; have hfz149_5 := blk_frozen BK541.out 5) | ((with_reducible refine gate_callee (f := 18) rfl ?_); refine goesL_ (some 122) rfl rfl Try.func18 (by kernel_rfl) rfl #[.agg #[.int .i64 a1_0, .bool false, .int .i64 a1_2, .int .u64 a1_3, .int .u64 a1_4, .bool a1_5], .agg #[.int .i64 t534, .bool t535, .int .i64 t536, .int .u64 t537, .int .u64 t538, .bool t539]] rfl z5_ ?_; (with_reducible refine (vernierref07_Cmp.calls kj45 a1_0 false a1_2 a1_3 a1_4 a1_5 t534 t535 t536 t537 t538 t539 t547 _ A84.out).mono ?_); rintro e w150 ⟨rfl, hb⟩; refine ⟨_, rfl, ?_⟩; have n0_ := Aside0.mk (blk_below (g := gb507) (z1_ BK507.out) hb); have n1_ := Aside0.mk (blk_below (g := gb519) (z1_ BK519.out) hb); have n2_ := Aside0.mk (blk_below (g := gb525) (z1_ BK525.out) hb); have n3_ := Aside0.mk (blk_below (g := gb533) (z1_ BK533.out) hb); have n4_ := Aside0.mk (blk_below (g := gb541) (z1_ BK541.out) hb); have n5_ := Aside0.mk (below_step (z3_ HB.out) hb); clear BK507; clear BK519; clear BK525; clear BK533; clear BK541; clear HB; have BK507 := n0_; have BK519 := n1_; have BK525 := n2_; have BK533 := n3_; have BK541 := n4_; have HB := n5_; clear n0_ n1_ n2_ n3_ n4_ n5_; (try clear hb); (try clear hb2); (try clear hk); (try clear hi)) | ((with_reducible refine gate_callee (f := 26) rfl ?_); refine goesL_ (some 126) rfl rfl Try.func26 (by kernel_rfl) rfl #[.int .i64 (wrap64 (a0 - 1))] rfl z5_ ?_; (with_reducible refine (vernierref05_Power.calls kj45 (wrap64 (a0 - 1)) t548 _ A85.out).mono ?_); rintro e w' ⟨rfl, ⟨nd, rfl⟩⟩; refine ⟨_, rfl, ?_⟩))
                 go_ret
                 exact ⟨by first | rfl | (simp [errW_none, errW_some] <;> rfl) | (simp only [← hji33, ← hji35, ← hji36, ← hji38, ← hji41]; first | rfl | (simp [errW_none, errW_some] <;> rfl)) | (simp [*, errW_none, errW_some] <;> rfl), by repeat (first | (with_reducible first | exact HB.out | apply below_alloc | apply pw_below_drewN | apply below_drew1 | refine below_set ?_ GE507.out | refine below_set ?_ GE519.out | refine below_set ?_ GE525.out | refine below_set ?_ GE533.out | refine below_set ?_ GE541.out) | exact HB.out)⟩
             ·rw [if_neg c87] at H
              have c87b0 : (t510 == (IntKind.u64.wrap (t548 - 1))) = false := beq_eq_false_iff_ne.mpr c87
              have c87b1 : (t510 != (IntKind.u64.wrap (t548 - 1))) = true := bne_iff_ne.mpr c87
              by_cases c151 : t546 < 0
              ·rw [if_pos c151] at H
               have c151b0 : decide (t546 < 0) = true := decide_eq_true c151
               clear c151
               by_cases c152 : t510 = 1
               ·rw [if_pos c152] at H
                have c152b0 : (t510 == 1) = true := beq_iff_eq.mpr c152
                have c152b1 : (t510 != 1) = false := bne_eq_false_iff_eq.mpr c152
                clear c152
                obtain rfl := Option.some.inj H
                have hnb153 := NB507_519.out
                have hnc153 := NB519_507.out
                have hnb154 := NB507_525.out
                have hnc154 := NB525_507.out
                have hnb155 := NB507_533.out
                have hnc155 := NB533_507.out
                have hnb156 := NB507_541.out
                have hnc156 := NB541_507.out
                have hcz157_0 := z4_ BK507.out 0 (.int .i64 a1_0) rfl
                have hcz157_1 := z4_ BK507.out 1 (.bool false) rfl
                have hcz157_2 := z4_ BK507.out 2 (.int .i64 a1_2) rfl
                have hcz157_3 := z4_ BK507.out 3 (.int .u64 a1_3) rfl
                have hcz157_4 := z4_ BK507.out 4 (.int .u64 a1_4) rfl
                have hcz157_5 := z4_ BK507.out 5 (.bool a1_5) rfl
                have hfz157_0 := blk_frozen BK507.out 0
                have hfz157_1 := blk_frozen BK507.out 1
                have hfz157_2 := blk_frozen BK507.out 2
                have hfz157_3 := blk_frozen BK507.out 3
                have hfz157_4 := blk_frozen BK507.out 4
                have hfz157_5 := blk_frozen BK507.out 5
                have hnb158 := NB533_519.out
                have hnc158 := NB519_533.out
                have hnb159 := NB533_525.out
                have hnc159 := NB525_533.out
                have hnb160 := NB533_541.out
                have hnc160 := NB541_533.out
                have hcz161_0 := z4_ BK533.out 0 (.int .i64 t526) rfl
                have hcz161_1 := z4_ BK533.out 1 (.bool t527) rfl
                have hcz161_2 := z4_ BK533.out 2 (.int .i64 t528) rfl
                have hcz161_3 := z4_ BK533.out 3 (.int .u64 t529) rfl
                have hcz161_4 := z4_ BK533.out 4 (.int .u64 t530) rfl
                have hcz161_5 := z4_ BK533.out 5 (.bool t531) rfl
                have hfz161_0 := blk_frozen BK533.out 0
                have hfz161_1 := blk_frozen BK533.out 1
                have hfz161_2 := blk_frozen BK533.out 2
                have hfz161_3 := blk_frozen BK533.out 3
                have hfz161_4 := blk_frozen BK533.out 4
                have hfz161_5 := blk_frozen BK533.out 5
                go_wp2_with (first | ((with_reducible refine gate_callee (f := 18) rfl ?_); refine goesL_ (some 119) rfl rfl Try.func18 (by kernel_rfl) rfl #[.agg #[.int .i64 a1_0, .bool false, .int .i64 a1_2, .int .u64 a1_3, .int .u64 a1_4, .bool a1_5], .agg #[.int .i64 t526, .bool t527, .int .i64 t528, .int .u64 t529, .int .u64 t530, .bool t531]] rfl z5_ ?_; (with_reducible refine (vernierref07_Cmp.calls kj45 a1_0 false a1_2 a1_3 a1_4 a1_5 t526 t527 t528 t529 t530 t531 t546 _ A83.out).mono ?_); rintro e w162 ⟨rfl, hb⟩; refine ⟨_, rfl, ?_⟩; have n0_ := Aside0.mk (blk_below (g := gb507) (z1_ BK507.out) hb); have n1_ := Aside0.mk (blk_below (g := gb519) (z1_ BK519.out) hb); have n2_ := Aside0.mk (blk_below (g := gb525) (z1_ BK525.out) hb); have n3_ := Aside0.mk (blk_below (g := gb533) (z1_ BK533.out) hb); have n4_ := Aside0.mk (blk_below (g := gb541) (z1_ BK541.out) hb); have n5_ := Aside0.mk (below_step (z3_ HB.out) hb); clear BK507; clear BK519; clear BK525; clear BK533; clear BK541; clear HB; have BK507 := n0_; have BK519 := n1_; have BK525 := n2_; have BK533 := n3_; have BK541 := n4_; have HB := n5_; clear n0_ n1_ n2_ n3_ n4_ n5_; (try clear hb); (try clear hb2); (try clear hk); (try clear hi); have hcz163_0 := z4_ BK507.out 0 (.int .i64 a1_0) rfl; have hcz163_1 := z4_ BK507.out 1 (.bool false) rfl; have hcz163_2 := z4_ BK507.out 2 (.int .i64 a1_2) rfl; have hcz163_3 := z4_ BK507.out 3 (.int .u64 a1_3) rfl; have hcz163_4 := z4_ BK507.out 4 (.int .u64 a1_4) rfl; have hcz163_5 := z4_ BK507.out 5 (.bool a1_5) rfl; have hfz163_0 := blk_frozen BK507.out 0; have hfz163_1 := blk_frozen BK507.out 1; have hfz163_2 := blk_frozen BK507.out 2; have hfz163_3 := blk_frozen BK507.out 3; have hfz163_4 := blk_frozen BK507.out 4; have hfz163_5 := blk_frozen BK507.out 5; have hnb164 := NB541_519.out; have hnc164 := NB519_541.out; have hnb165 := NB541_525.out; have hnc165 := NB525_541.out; have hcz166_0 := z4_ BK541.out 0 (.int .i64 t534) rfl; have hcz166_1 := z4_ BK541.out 1 (.bool t535) rfl; have hcz166_2 := z4_ BK541.out 2 (.int .i64 t536) rfl; have hcz166_3 := z4_ BK541.out 3 (.int .u64 t537) rfl; have hcz166_4 := z4_ BK541.out 4 (.int .u64 t538) rfl; have hcz166_5 := z4_ BK541.out 5 (.bool t539) rfl; have hfz166_0 := blk_frozen BK541.out 0; have hfz166_1 := blk_frozen BK541.out 1; have hfz166_2 := blk_frozen BK541.out 2; have hfz166_3 := blk_frozen BK541.out 3; have hfz166_4 := blk_frozen BK541.out 4; have hfz166_5 := blk_frozen BK541.out 5) | ((with_reducible refine gate_callee (f := 18) rfl ?_); refine goesL_ (some 122) rfl rfl Try.func18 (by kernel_rfl) rfl #[.agg #[.int .i64 a1_0, .bool false, .int .i64 a1_2, .int .u64 a1_3, .int .u64 a1_4, .bool a1_5], .agg #[.int .i64 t534, .bool t535, .int .i64 t536, .int .u64 t537, .int .u64 t538, .bool t539]] rfl z5_ ?_; (with_reducible refine (vernierref07_Cmp.calls kj45 a1_0 false a1_2 a1_3 a1_4 a1_5 t534 t535 t536 t537 t538 t539 t547 _ A84.out).mono ?_); rintro e w167 ⟨rfl, hb⟩; refine ⟨_, rfl, ?_⟩; have n0_ := Aside0.mk (blk_below (g := gb507) (z1_ BK507.out) hb); have n1_ := Aside0.mk (blk_below (g := gb519) (z1_ BK519.out) hb); have n2_ := Aside0.mk (blk_below (g := gb525) (z1_ BK525.out) hb); have n3_ := Aside0.mk (blk_below (g := gb533) (z1_ BK533.out) hb); have n4_ := Aside0.mk (blk_below (g := gb541) (z1_ BK541.out) hb); have n5_ := Aside0.mk (below_step (z3_ HB.out) hb); clear BK507; clear BK519; clear BK525; clear BK533; clear BK541; clear HB; have BK507 := n0_; have BK519 := n1_; have BK525 := n2_; have BK533 := n3_; have BK541 := n4_; have HB := n5_; clear n0_ n1_ n2_ n3_ n4_ n5_; (try clear hb); (try clear hb2); (try clear hk); (try clear hi)) | ((with_reducible refine gate_callee (f := 26) rfl ?_); refine goesL_ (some 126) rfl rfl Try.func26 (by kernel_rfl) rfl #[.int .i64 (wrap64 (a0 - 1))] rfl z5_ ?_; (with_reducible refine (vernierref05_Power.calls kj45 (wrap64 (a0 - 1)) t548 _ A85.out).mono ?_); rintro e w' ⟨rfl, ⟨nd, rfl⟩⟩; refine ⟨_, rfl, ?_⟩))
                go_ret
                exact ⟨by first | rfl | (simp [errW_none, errW_some] <;> rfl) | (simp only [← hji33, ← hji35, ← hji36, ← hji38, ← hji41]; first | rfl | (simp [errW_none, errW_some] <;> rfl)) | (simp [*, errW_none, errW_some] <;> rfl), by repeat (first | (with_reducible first | exact HB.out | apply below_alloc | apply pw_below_drewN | apply below_drew1 | refine below_set ?_ GE507.out | refine below_set ?_ GE519.out | refine below_set ?_ GE525.out | refine below_set ?_ GE533.out | refine below_set ?_ GE541.out) | exact HB.out)⟩
               ·rw [if_neg c152] at H
                have c152b0 : (t510 == 1) = false := beq_eq_false_iff_ne.mpr c152
                have c152b1 : (t510 != 1) = true := bne_iff_ne.mpr c152
                by_cases c168 : t547 > 0
                ·rw [if_pos c168] at H
                 have c168b0 : decide (0 < t547) = true := decide_eq_true c168
                 clear c168
                 obtain rfl := Option.some.inj H
                 have hnb169 := NB507_519.out
                 have hnc169 := NB519_507.out
                 have hnb170 := NB507_525.out
                 have hnc170 := NB525_507.out
                 have hnb171 := NB507_533.out
                 have hnc171 := NB533_507.out
                 have hnb172 := NB507_541.out
                 have hnc172 := NB541_507.out
                 have hcz173_0 := z4_ BK507.out 0 (.int .i64 a1_0) rfl
                 have hcz173_1 := z4_ BK507.out 1 (.bool false) rfl
                 have hcz173_2 := z4_ BK507.out 2 (.int .i64 a1_2) rfl
                 have hcz173_3 := z4_ BK507.out 3 (.int .u64 a1_3) rfl
                 have hcz173_4 := z4_ BK507.out 4 (.int .u64 a1_4) rfl
                 have hcz173_5 := z4_ BK507.out 5 (.bool a1_5) rfl
                 have hfz173_0 := blk_frozen BK507.out 0
                 have hfz173_1 := blk_frozen BK507.out 1
                 have hfz173_2 := blk_frozen BK507.out 2
                 have hfz173_3 := blk_frozen BK507.out 3
                 have hfz173_4 := blk_frozen BK507.out 4
                 have hfz173_5 := blk_frozen BK507.out 5
                 have hnb174 := NB533_519.out
                 have hnc174 := NB519_533.out
                 have hnb175 := NB533_525.out
                 have hnc175 := NB525_533.out
                 have hnb176 := NB533_541.out
                 have hnc176 := NB541_533.out
                 have hcz177_0 := z4_ BK533.out 0 (.int .i64 t526) rfl
                 have hcz177_1 := z4_ BK533.out 1 (.bool t527) rfl
                 have hcz177_2 := z4_ BK533.out 2 (.int .i64 t528) rfl
                 have hcz177_3 := z4_ BK533.out 3 (.int .u64 t529) rfl
                 have hcz177_4 := z4_ BK533.out 4 (.int .u64 t530) rfl
                 have hcz177_5 := z4_ BK533.out 5 (.bool t531) rfl
                 have hfz177_0 := blk_frozen BK533.out 0
                 have hfz177_1 := blk_frozen BK533.out 1
                 have hfz177_2 := blk_frozen BK533.out 2
                 have hfz177_3 := blk_frozen BK533.out 3
                 have hfz177_4 := blk_frozen BK533.out 4
                 have hfz177_5 := blk_frozen BK533.out 5
                 go_wp2_with (first | ((with_reducible refine gate_callee (f := 18) rfl ?_); refine goesL_ (some 119) rfl rfl Try.func18 (by kernel_rfl) rfl #[.agg #[.int .i64 a1_0, .bool false, .int .i64 a1_2, .int .u64 a1_3, .int .u64 a1_4, .bool a1_5], .agg #[.int .i64 t526, .bool t527, .int .i64 t528, .int .u64 t529, .int .u64 t530, .bool t531]] rfl z5_ ?_; (with_reducible refine (vernierref07_Cmp.calls kj45 a1_0 false a1_2 a1_3 a1_4 a1_5 t526 t527 t528 t529 t530 t531 t546 _ A83.out).mono ?_); rintro e w178 ⟨rfl, hb⟩; refine ⟨_, rfl, ?_⟩; have n0_ := Aside0.mk (blk_below (g := gb507) (z1_ BK507.out) hb); have n1_ := Aside0.mk (blk_below (g := gb519) (z1_ BK519.out) hb); have n2_ := Aside0.mk (blk_below (g := gb525) (z1_ BK525.out) hb); have n3_ := Aside0.mk (blk_below (g := gb533) (z1_ BK533.out) hb); have n4_ := Aside0.mk (blk_below (g := gb541) (z1_ BK541.out) hb); have n5_ := Aside0.mk (below_step (z3_ HB.out) hb); clear BK507; clear BK519; clear BK525; clear BK533; clear BK541; clear HB; have BK507 := n0_; have BK519 := n1_; have BK525 := n2_; have BK533 := n3_; have BK541 := n4_; have HB := n5_; clear n0_ n1_ n2_ n3_ n4_ n5_; (try clear hb); (try clear hb2); (try clear hk); (try clear hi); have hcz179_0 := z4_ BK507.out 0 (.int .i64 a1_0) rfl; have hcz179_1 := z4_ BK507.out 1 (.bool false) rfl; have hcz179_2 := z4_ BK507.out 2 (.int .i64 a1_2) rfl; have hcz179_3 := z4_ BK507.out 3 (.int .u64 a1_3) rfl; have hcz179_4 := z4_ BK507.out 4 (.int .u64 a1_4) rfl; have hcz179_5 := z4_ BK507.out 5 (.bool a1_5) rfl; have hfz179_0 := blk_frozen BK507.out 0; have hfz179_1 := blk_frozen BK507.out 1; have hfz179_2 := blk_frozen BK507.out 2; have hfz179_3 := blk_frozen BK507.out 3; have hfz179_4 := blk_frozen BK507.out 4; have hfz179_5 := blk_frozen BK507.out 5; have hnb180 := NB541_519.out; have hnc180 := NB519_541.out; have hnb181 := NB541_525.out; have hnc181 := NB525_541.out; have hcz182_0 := z4_ BK541.out 0 (.int .i64 t534) rfl; have hcz182_1 := z4_ BK541.out 1 (.bool t535) rfl; have hcz182_2 := z4_ BK541.out 2 (.int .i64 t536) rfl; have hcz182_3 := z4_ BK541.out 3 (.int .u64 t537) rfl; have hcz182_4 := z4_ BK541.out 4 (.int .u64 t538) rfl; have hcz182_5 := z4_ BK541.out 5 (.bool t539) rfl; have hfz182_0 := blk_frozen BK541.out 0; have hfz182_1 := blk_frozen BK541.out 1; have hfz182_2 := blk_frozen BK541.out 2; have hfz182_3 := blk_frozen BK541.out 3; have hfz182_4 := blk_frozen BK541.out 4; have hfz182_5 := blk_frozen BK541.out 5) | ((with_reducible refine gate_callee (f := 18) rfl ?_); refine goesL_ (some 122) rfl rfl Try.func18 (by kernel_rfl) rfl #[.agg #[.int .i64 a1_0, .bool false, .int .i64 a1_2, .int .u64 a1_3, .int .u64 a1_4, .bool a1_5], .agg #[.int .i64 t534, .bool t535, .int .i64 t536, .int .u64 t537, .int .u64 t538, .bool t539]] rfl z5_ ?_; (with_reducible refine (vernierref07_Cmp.calls kj45 a1_0 false a1_2 a1_3 a1_4 a1_5 t534 t535 t536 t537 t538 t539 t547 _ A84.out).mono ?_); rintro e w183 ⟨rfl, hb⟩; refine ⟨_, rfl, ?_⟩; have n0_ := Aside0.mk (blk_below (g := gb507) (z1_ BK507.out) hb); have n1_ := Aside0.mk (blk_below (g := gb519) (z1_ BK519.out) hb); have n2_ := Aside0.mk (blk_below (g := gb525) (z1_ BK525.out) hb); have n3_ := Aside0.mk (blk_below (g := gb533) (z1_ BK533.out) hb); have n4_ := Aside0.mk (blk_below (g := gb541) (z1_ BK541.out) hb); have n5_ := Aside0.mk (below_step (z3_ HB.out) hb); clear BK507; clear BK519; clear BK525; clear BK533; clear BK541; clear HB; have BK507 := n0_; have BK519 := n1_; have BK525 := n2_; have BK533 := n3_; have BK541 := n4_; have HB := n5_; clear n0_ n1_ n2_ n3_ n4_ n5_; (try clear hb); (try clear hb2); (try clear hk); (try clear hi)) | ((with_reducible refine gate_callee (f := 26) rfl ?_); refine goesL_ (some 126) rfl rfl Try.func26 (by kernel_rfl) rfl #[.int .i64 (wrap64 (a0 - 1))] rfl z5_ ?_; (with_reducible refine (vernierref05_Power.calls kj45 (wrap64 (a0 - 1)) t548 _ A85.out).mono ?_); rintro e w' ⟨rfl, ⟨nd, rfl⟩⟩; refine ⟨_, rfl, ?_⟩))
                 go_ret
                 exact ⟨by first | rfl | (simp [errW_none, errW_some] <;> rfl) | (simp only [← hji33, ← hji35, ← hji36, ← hji38, ← hji41]; first | rfl | (simp [errW_none, errW_some] <;> rfl)) | (simp [*, errW_none, errW_some] <;> rfl), by repeat (first | (with_reducible first | exact HB.out | apply below_alloc | apply pw_below_drewN | apply below_drew1 | refine below_set ?_ GE507.out | refine below_set ?_ GE519.out | refine below_set ?_ GE525.out | refine below_set ?_ GE533.out | refine below_set ?_ GE541.out) | exact HB.out)⟩
                ·rw [if_neg c168] at H
                 have c168b0 : decide (0 < t547) = false := decide_eq_false c168
                 clear c168
                 by_cases c184 : t547 = 0
                 ·rw [if_pos c184] at H
                  have c184b0 : (t547 == 0) = true := beq_iff_eq.mpr c184
                  have c184b1 : (t547 != 0) = false := bne_eq_false_iff_eq.mpr c184
                  clear c184
                  obtain rfl := Option.some.inj H
                  have hnb185 := NB507_519.out
                  have hnc185 := NB519_507.out
                  have hnb186 := NB507_525.out
                  have hnc186 := NB525_507.out
                  have hnb187 := NB507_533.out
                  have hnc187 := NB533_507.out
                  have hnb188 := NB507_541.out
                  have hnc188 := NB541_507.out
                  have hcz189_0 := z4_ BK507.out 0 (.int .i64 a1_0) rfl
                  have hcz189_1 := z4_ BK507.out 1 (.bool false) rfl
                  have hcz189_2 := z4_ BK507.out 2 (.int .i64 a1_2) rfl
                  have hcz189_3 := z4_ BK507.out 3 (.int .u64 a1_3) rfl
                  have hcz189_4 := z4_ BK507.out 4 (.int .u64 a1_4) rfl
                  have hcz189_5 := z4_ BK507.out 5 (.bool a1_5) rfl
                  have hfz189_0 := blk_frozen BK507.out 0
                  have hfz189_1 := blk_frozen BK507.out 1
                  have hfz189_2 := blk_frozen BK507.out 2
                  have hfz189_3 := blk_frozen BK507.out 3
                  have hfz189_4 := blk_frozen BK507.out 4
                  have hfz189_5 := blk_frozen BK507.out 5
                  have hnb190 := NB533_519.out
                  have hnc190 := NB519_533.out
                  have hnb191 := NB533_525.out
                  have hnc191 := NB525_533.out
                  have hnb192 := NB533_541.out
                  have hnc192 := NB541_533.out
                  have hcz193_0 := z4_ BK533.out 0 (.int .i64 t526) rfl
                  have hcz193_1 := z4_ BK533.out 1 (.bool t527) rfl
                  have hcz193_2 := z4_ BK533.out 2 (.int .i64 t528) rfl
                  have hcz193_3 := z4_ BK533.out 3 (.int .u64 t529) rfl
                  have hcz193_4 := z4_ BK533.out 4 (.int .u64 t530) rfl
                  have hcz193_5 := z4_ BK533.out 5 (.bool t531) rfl
                  have hfz193_0 := blk_frozen BK533.out 0
                  have hfz193_1 := blk_frozen BK533.out 1
                  have hfz193_2 := blk_frozen BK533.out 2
                  have hfz193_3 := blk_frozen BK533.out 3
                  have hfz193_4 := blk_frozen BK533.out 4
                  have hfz193_5 := blk_frozen BK533.out 5
                  go_wp2_with (first | ((with_reducible refine gate_callee (f := 18) rfl ?_); refine goesL_ (some 119) rfl rfl Try.func18 (by kernel_rfl) rfl #[.agg #[.int .i64 a1_0, .bool false, .int .i64 a1_2, .int .u64 a1_3, .int .u64 a1_4, .bool a1_5], .agg #[.int .i64 t526, .bool t527, .int .i64 t528, .int .u64 t529, .int .u64 t530, .bool t531]] rfl z5_ ?_; (with_reducible refine (vernierref07_Cmp.calls kj45 a1_0 false a1_2 a1_3 a1_4 a1_5 t526 t527 t528 t529 t530 t531 t546 _ A83.out).mono ?_); rintro e w194 ⟨rfl, hb⟩; refine ⟨_, rfl, ?_⟩; have n0_ := Aside0.mk (blk_below (g := gb507) (z1_ BK507.out) hb); have n1_ := Aside0.mk (blk_below (g := gb519) (z1_ BK519.out) hb); have n2_ := Aside0.mk (blk_below (g := gb525) (z1_ BK525.out) hb); have n3_ := Aside0.mk (blk_below (g := gb533) (z1_ BK533.out) hb); have n4_ := Aside0.mk (blk_below (g := gb541) (z1_ BK541.out) hb); have n5_ := Aside0.mk (below_step (z3_ HB.out) hb); clear BK507; clear BK519; clear BK525; clear BK533; clear BK541; clear HB; have BK507 := n0_; have BK519 := n1_; have BK525 := n2_; have BK533 := n3_; have BK541 := n4_; have HB := n5_; clear n0_ n1_ n2_ n3_ n4_ n5_; (try clear hb); (try clear hb2); (try clear hk); (try clear hi); have hcz195_0 := z4_ BK507.out 0 (.int .i64 a1_0) rfl; have hcz195_1 := z4_ BK507.out 1 (.bool false) rfl; have hcz195_2 := z4_ BK507.out 2 (.int .i64 a1_2) rfl; have hcz195_3 := z4_ BK507.out 3 (.int .u64 a1_3) rfl; have hcz195_4 := z4_ BK507.out 4 (.int .u64 a1_4) rfl; have hcz195_5 := z4_ BK507.out 5 (.bool a1_5) rfl; have hfz195_0 := blk_frozen BK507.out 0; have hfz195_1 := blk_frozen BK507.out 1; have hfz195_2 := blk_frozen BK507.out 2; have hfz195_3 := blk_frozen BK507.out 3; have hfz195_4 := blk_frozen BK507.out 4; have hfz195_5 := blk_frozen BK507.out 5; have hnb196 := NB541_519.out; have hnc196 := NB519_541.out; have hnb197 := NB541_525.out; have hnc197 := NB525_541.out; have hcz198_0 := z4_ BK541.out 0 (.int .i64 t534) rfl; have hcz198_1 := z4_ BK541.out 1 (.bool t535) rfl; have hcz198_2 := z4_ BK541.out 2 (.int .i64 t536) rfl; have hcz198_3 := z4_ BK541.out 3 (.int .u64 t537) rfl; have hcz198_4 := z4_ BK541.out 4 (.int .u64 t538) rfl; have hcz198_5 := z4_ BK541.out 5 (.bool t539) rfl; have hfz198_0 := blk_frozen BK541.out 0; have hfz198_1 := blk_frozen BK541.out 1; have hfz198_2 := blk_frozen BK541.out 2; have hfz198_3 := blk_frozen BK541.out 3; have hfz198_4 := blk_frozen BK541.out 4; have hfz198_5 := blk_frozen BK541.out 5) | ((with_reducible refine gate_callee (f := 18) rfl ?_); refine goesL_ (some 122) rfl rfl Try.func18 (by kernel_rfl) rfl #[.agg #[.int .i64 a1_0, .bool false, .int .i64 a1_2, .int .u64 a1_3, .int .u64 a1_4, .bool a1_5], .agg #[.int .i64 t534, .bool t535, .int .i64 t536, .int .u64 t537, .int .u64 t538, .bool t539]] rfl z5_ ?_; (with_reducible refine (vernierref07_Cmp.calls kj45 a1_0 false a1_2 a1_3 a1_4 a1_5 t534 t535 t536 t537 t538 t539 t547 _ A84.out).mono ?_); rintro e w199 ⟨rfl, hb⟩; refine ⟨_, rfl, ?_⟩; have n0_ := Aside0.mk (blk_below (g := gb507) (z1_ BK507.out) hb); have n1_ := Aside0.mk (blk_below (g := gb519) (z1_ BK519.out) hb); have n2_ := Aside0.mk (blk_below (g := gb525) (z1_ BK525.out) hb); have n3_ := Aside0.mk (blk_below (g := gb533) (z1_ BK533.out) hb); have n4_ := Aside0.mk (blk_below (g := gb541) (z1_ BK541.out) hb); have n5_ := Aside0.mk (below_step (z3_ HB.out) hb); clear BK507; clear BK519; clear BK525; clear BK533; clear BK541; clear HB; have BK507 := n0_; have BK519 := n1_; have BK525 := n2_; have BK533 := n3_; have BK541 := n4_; have HB := n5_; clear n0_ n1_ n2_ n3_ n4_ n5_; (try clear hb); (try clear hb2); (try clear hk); (try clear hi)) | ((with_reducible refine gate_callee (f := 26) rfl ?_); refine goesL_ (some 126) rfl rfl Try.func26 (by kernel_rfl) rfl #[.int .i64 (wrap64 (a0 - 1))] rfl z5_ ?_; (with_reducible refine (vernierref05_Power.calls kj45 (wrap64 (a0 - 1)) t548 _ A85.out).mono ?_); rintro e w' ⟨rfl, ⟨nd, rfl⟩⟩; refine ⟨_, rfl, ?_⟩))
                  go_ret
                  exact ⟨by first | rfl | (simp [errW_none, errW_some] <;> rfl) | (simp only [← hji33, ← hji35, ← hji36, ← hji38, ← hji41]; first | rfl | (simp [errW_none, errW_some] <;> rfl)) | (simp [*, errW_none, errW_some] <;> rfl), by repeat (first | (with_reducible first | exact HB.out | apply below_alloc | apply pw_below_drewN | apply below_drew1 | refine below_set ?_ GE507.out | refine below_set ?_ GE519.out | refine below_set ?_ GE525.out | refine below_set ?_ GE533.out | refine below_set ?_ GE541.out) | exact HB.out)⟩
                 ·rw [if_neg c184] at H
                  have c184b0 : (t547 == 0) = false := beq_eq_false_iff_ne.mpr c184
                  have c184b1 : (t547 != 0) = true := bne_iff_ne.mpr c184
                  obtain rfl := Option.some.inj H
                  have hnb200 := NB507_519.out
                  have hnc200 := NB519_507.out
                  have hnb201 := NB507_525.out
                  have hnc201 := NB525_507.out
                  have hnb202 := NB507_533.out
                  have hnc202 := NB533_507.out
                  have hnb203 := NB507_541.out
                  have hnc203 := NB541_507.out
                  have hcz204_0 := z4_ BK507.out 0 (.int .i64 a1_0) rfl
                  have hcz204_1 := z4_ BK507.out 1 (.bool false) rfl
                  have hcz204_2 := z4_ BK507.out 2 (.int .i64 a1_2) rfl
                  have hcz204_3 := z4_ BK507.out 3 (.int .u64 a1_3) rfl
                  have hcz204_4 := z4_ BK507.out 4 (.int .u64 a1_4) rfl
                  have hcz204_5 := z4_ BK507.out 5 (.bool a1_5) rfl
                  have hfz204_0 := blk_frozen BK507.out 0
                  have hfz204_1 := blk_frozen BK507.out 1
                  have hfz204_2 := blk_frozen BK507.out 2
                  have hfz204_3 := blk_frozen BK507.out 3
                  have hfz204_4 := blk_frozen BK507.out 4
                  have hfz204_5 := blk_frozen BK507.out 5
                  have hnb205 := NB533_519.out
                  have hnc205 := NB519_533.out
                  have hnb206 := NB533_525.out
                  have hnc206 := NB525_533.out
                  have hnb207 := NB533_541.out
                  have hnc207 := NB541_533.out
                  have hcz208_0 := z4_ BK533.out 0 (.int .i64 t526) rfl
                  have hcz208_1 := z4_ BK533.out 1 (.bool t527) rfl
                  have hcz208_2 := z4_ BK533.out 2 (.int .i64 t528) rfl
                  have hcz208_3 := z4_ BK533.out 3 (.int .u64 t529) rfl
                  have hcz208_4 := z4_ BK533.out 4 (.int .u64 t530) rfl
                  have hcz208_5 := z4_ BK533.out 5 (.bool t531) rfl
                  have hfz208_0 := blk_frozen BK533.out 0
                  have hfz208_1 := blk_frozen BK533.out 1
                  have hfz208_2 := blk_frozen BK533.out 2
                  have hfz208_3 := blk_frozen BK533.out 3
                  have hfz208_4 := blk_frozen BK533.out 4
                  have hfz208_5 := blk_frozen BK533.out 5
                  go_wp2_with (first | ((with_reducible refine gate_callee (f := 18) rfl ?_); refine goesL_ (some 119) rfl rfl Try.func18 (by kernel_rfl) rfl #[.agg #[.int .i64 a1_0, .bool false, .int .i64 a1_2, .int .u64 a1_3, .int .u64 a1_4, .bool a1_5], .agg #[.int .i64 t526, .bool t527, .int .i64 t528, .int .u64 t529, .int .u64 t530, .bool t531]] rfl z5_ ?_; (with_reducible refine (vernierref07_Cmp.calls kj45 a1_0 false a1_2 a1_3 a1_4 a1_5 t526 t527 t528 t529 t530 t531 t546 _ A83.out).mono ?_); rintro e w209 ⟨rfl, hb⟩; refine ⟨_, rfl, ?_⟩; have n0_ := Aside0.mk (blk_below (g := gb507) (z1_ BK507.out) hb); have n1_ := Aside0.mk (blk_below (g := gb519) (z1_ BK519.out) hb); have n2_ := Aside0.mk (blk_below (g := gb525) (z1_ BK525.out) hb); have n3_ := Aside0.mk (blk_below (g := gb533) (z1_ BK533.out) hb); have n4_ := Aside0.mk (blk_below (g := gb541) (z1_ BK541.out) hb); have n5_ := Aside0.mk (below_step (z3_ HB.out) hb); clear BK507; clear BK519; clear BK525; clear BK533; clear BK541; clear HB; have BK507 := n0_; have BK519 := n1_; have BK525 := n2_; have BK533 := n3_; have BK541 := n4_; have HB := n5_; clear n0_ n1_ n2_ n3_ n4_ n5_; (try clear hb); (try clear hb2); (try clear hk); (try clear hi); have hcz210_0 := z4_ BK507.out 0 (.int .i64 a1_0) rfl; have hcz210_1 := z4_ BK507.out 1 (.bool false) rfl; have hcz210_2 := z4_ BK507.out 2 (.int .i64 a1_2) rfl; have hcz210_3 := z4_ BK507.out 3 (.int .u64 a1_3) rfl; have hcz210_4 := z4_ BK507.out 4 (.int .u64 a1_4) rfl; have hcz210_5 := z4_ BK507.out 5 (.bool a1_5) rfl; have hfz210_0 := blk_frozen BK507.out 0; have hfz210_1 := blk_frozen BK507.out 1; have hfz210_2 := blk_frozen BK507.out 2; have hfz210_3 := blk_frozen BK507.out 3; have hfz210_4 := blk_frozen BK507.out 4; have hfz210_5 := blk_frozen BK507.out 5; have hnb211 := NB541_519.out; have hnc211 := NB519_541.out; have hnb212 := NB541_525.out; have hnc212 := NB525_541.out; have hcz213_0 := z4_ BK541.out 0 (.int .i64 t534) rfl; have hcz213_1 := z4_ BK541.out 1 (.bool t535) rfl; have hcz213_2 := z4_ BK541.out 2 (.int .i64 t536) rfl; have hcz213_3 := z4_ BK541.out 3 (.int .u64 t537) rfl; have hcz213_4 := z4_ BK541.out 4 (.int .u64 t538) rfl; have hcz213_5 := z4_ BK541.out 5 (.bool t539) rfl; have hfz213_0 := blk_frozen BK541.out 0; have hfz213_1 := blk_frozen BK541.out 1; have hfz213_2 := blk_frozen BK541.out 2; have hfz213_3 := blk_frozen BK541.out 3; have hfz213_4 := blk_frozen BK541.out 4; have hfz213_5 := blk_frozen BK541.out 5) | ((with_reducible refine gate_callee (f := 18) rfl ?_); refine goesL_ (some 122) rfl rfl Try.func18 (by kernel_rfl) rfl #[.agg #[.int .i64 a1_0, .bool false, .int .i64 a1_2, .int .u64 a1_3, .int .u64 a1_4, .bool a1_5], .agg #[.int .i64 t534, .bool t535, .int .i64 t536, .int .u64 t537, .int .u64 t538, .bool t539]] rfl z5_ ?_; (with_reducible refine (vernierref07_Cmp.calls kj45 a1_0 false a1_2 a1_3 a1_4 a1_5 t534 t535 t536 t537 t538 t539 t547 _ A84.out).mono ?_); rintro e w214 ⟨rfl, hb⟩; refine ⟨_, rfl, ?_⟩; have n0_ := Aside0.mk (blk_below (g := gb507) (z1_ BK507.out) hb); have n1_ := Aside0.mk (blk_below (g := gb519) (z1_ BK519.out) hb); have n2_ := Aside0.mk (blk_below (g := gb525) (z1_ BK525.out) hb); have n3_ := Aside0.mk (blk_below (g := gb533) (z1_ BK533.out) hb); have n4_ := Aside0.mk (blk_below (g := gb541) (z1_ BK541.out) hb); have n5_ := Aside0.mk (below_step (z3_ HB.out) hb); clear BK507; clear BK519; clear BK525; clear BK533; clear BK541; clear HB; have BK507 := n0_; have BK519 := n1_; have BK525 := n2_; have BK533 := n3_; have BK541 := n4_; have HB := n5_; clear n0_ n1_ n2_ n3_ n4_ n5_; (try clear hb); (try clear hb2); (try clear hk); (try clear hi)) | ((with_reducible refine gate_callee (f := 26) rfl ?_); refine goesL_ (some 126) rfl rfl Try.func26 (by kernel_rfl) rfl #[.int .i64 (wrap64 (a0 - 1))] rfl z5_ ?_; (with_reducible refine (vernierref05_Power.calls kj45 (wrap64 (a0 - 1)) t548 _ A85.out).mono ?_); rintro e w' ⟨rfl, ⟨nd, rfl⟩⟩; refine ⟨_, rfl, ?_⟩))
                  go_ret
                  exact ⟨by first | rfl | (simp [errW_none, errW_some] <;> rfl) | (simp only [← hji33, ← hji35, ← hji36, ← hji38, ← hji41]; first | rfl | (simp [errW_none, errW_some] <;> rfl)) | (simp [*, errW_none, errW_some] <;> rfl), by repeat (first | (with_reducible first | exact HB.out | apply below_alloc | apply pw_below_drewN | apply below_drew1 | refine below_set ?_ GE507.out | refine below_set ?_ GE519.out | refine below_set ?_ GE525.out | refine below_set ?_ GE533.out | refine below_set ?_ GE541.out) | exact HB.out)⟩
              ·rw [if_neg c151] at H
               have c151b0 : decide (t546 < 0) = false := decide_eq_false c151
               clear c151
               by_cases c215 : t546 = 0
               ·rw [if_pos c215] at H
                have c215b0 : (t546 == 0) = true := beq_iff_eq.mpr c215
                have c215b1 : (t546 != 0) = false := bne_eq_false_iff_eq.mpr c215
                clear c215
                by_cases c216 : (Int.tmod t510 2) = 0
                ·rw [if_pos c216] at H
                 have c216b0 : ((Int.tmod t510 2) == 0) = true := beq_iff_eq.mpr c216
                 have c216b1 : ((Int.tmod t510 2) != 0) = false := bne_eq_false_iff_eq.mpr c216
                 clear c216
                 by_cases c217 : t510 = 1
                 ·rw [if_pos c217] at H
                  have c217b0 : (t510 == 1) = true := beq_iff_eq.mpr c217
                  have c217b1 : (t510 != 1) = false := bne_eq_false_iff_eq.mpr c217
                  clear c217
                  obtain rfl := Option.some.inj H
                  have hnb218 := NB507_519.out
                  have hnc218 := NB519_507.out
                  have hnb219 := NB507_525.out
                  have hnc219 := NB525_507.out
                  have hnb220 := NB507_533.out
                  have hnc220 := NB533_507.out
                  have hnb221 := NB507_541.out
                  have hnc221 := NB541_507.out
                  have hcz222_0 := z4_ BK507.out 0 (.int .i64 a1_0) rfl
                  have hcz222_1 := z4_ BK507.out 1 (.bool false) rfl
                  have hcz222_2 := z4_ BK507.out 2 (.int .i64 a1_2) rfl
                  have hcz222_3 := z4_ BK507.out 3 (.int .u64 a1_3) rfl
                  have hcz222_4 := z4_ BK507.out 4 (.int .u64 a1_4) rfl
                  have hcz222_5 := z4_ BK507.out 5 (.bool a1_5) rfl
                  have hfz222_0 := blk_frozen BK507.out 0
                  have hfz222_1 := blk_frozen BK507.out 1
                  have hfz222_2 := blk_frozen BK507.out 2
                  have hfz222_3 := blk_frozen BK507.out 3
                  have hfz222_4 := blk_frozen BK507.out 4
                  have hfz222_5 := blk_frozen BK507.out 5
                  have hnb223 := NB533_519.out
                  have hnc223 := NB519_533.out
                  have hnb224 := NB533_525.out
                  have hnc224 := NB525_533.out
                  have hnb225 := NB533_541.out
                  have hnc225 := NB541_533.out
                  have hcz226_0 := z4_ BK533.out 0 (.int .i64 t526) rfl
                  have hcz226_1 := z4_ BK533.out 1 (.bool t527) rfl
                  have hcz226_2 := z4_ BK533.out 2 (.int .i64 t528) rfl
                  have hcz226_3 := z4_ BK533.out 3 (.int .u64 t529) rfl
                  have hcz226_4 := z4_ BK533.out 4 (.int .u64 t530) rfl
                  have hcz226_5 := z4_ BK533.out 5 (.bool t531) rfl
                  have hfz226_0 := blk_frozen BK533.out 0
                  have hfz226_1 := blk_frozen BK533.out 1
                  have hfz226_2 := blk_frozen BK533.out 2
                  have hfz226_3 := blk_frozen BK533.out 3
                  have hfz226_4 := blk_frozen BK533.out 4
                  have hfz226_5 := blk_frozen BK533.out 5
                  go_wp2_with (first | ((with_reducible refine gate_callee (f := 18) rfl ?_); refine goesL_ (some 119) rfl rfl Try.func18 (by kernel_rfl) rfl #[.agg #[.int .i64 a1_0, .bool false, .int .i64 a1_2, .int .u64 a1_3, .int .u64 a1_4, .bool a1_5], .agg #[.int .i64 t526, .bool t527, .int .i64 t528, .int .u64 t529, .int .u64 t530, .bool t531]] rfl z5_ ?_; (with_reducible refine (vernierref07_Cmp.calls kj45 a1_0 false a1_2 a1_3 a1_4 a1_5 t526 t527 t528 t529 t530 t531 t546 _ A83.out).mono ?_); rintro e w227 ⟨rfl, hb⟩; refine ⟨_, rfl, ?_⟩; have n0_ := Aside0.mk (blk_below (g := gb507) (z1_ BK507.out) hb); have n1_ := Aside0.mk (blk_below (g := gb519) (z1_ BK519.out) hb); have n2_ := Aside0.mk (blk_below (g := gb525) (z1_ BK525.out) hb); have n3_ := Aside0.mk (blk_below (g := gb533) (z1_ BK533.out) hb); have n4_ := Aside0.mk (blk_below (g := gb541) (z1_ BK541.out) hb); have n5_ := Aside0.mk (below_step (z3_ HB.out) hb); clear BK507; clear BK519; clear BK525; clear BK533; clear BK541; clear HB; have BK507 := n0_; have BK519 := n1_; have BK525 := n2_; have BK533 := n3_; have BK541 := n4_; have HB := n5_; clear n0_ n1_ n2_ n3_ n4_ n5_; (try clear hb); (try clear hb2); (try clear hk); (try clear hi); have hcz228_0 := z4_ BK507.out 0 (.int .i64 a1_0) rfl; have hcz228_1 := z4_ BK507.out 1 (.bool false) rfl; have hcz228_2 := z4_ BK507.out 2 (.int .i64 a1_2) rfl; have hcz228_3 := z4_ BK507.out 3 (.int .u64 a1_3) rfl; have hcz228_4 := z4_ BK507.out 4 (.int .u64 a1_4) rfl; have hcz228_5 := z4_ BK507.out 5 (.bool a1_5) rfl; have hfz228_0 := blk_frozen BK507.out 0; have hfz228_1 := blk_frozen BK507.out 1; have hfz228_2 := blk_frozen BK507.out 2; have hfz228_3 := blk_frozen BK507.out 3; have hfz228_4 := blk_frozen BK507.out 4; have hfz228_5 := blk_frozen BK507.out 5; have hnb229 := NB541_519.out; have hnc229 := NB519_541.out; have hnb230 := NB541_525.out; have hnc230 := NB525_541.out; have hcz231_0 := z4_ BK541.out 0 (.int .i64 t534) rfl; have hcz231_1 := z4_ BK541.out 1 (.bool t535) rfl; have hcz231_2 := z4_ BK541.out 2 (.int .i64 t536) rfl; have hcz231_3 := z4_ BK541.out 3 (.int .u64 t537) rfl; have hcz231_4 := z4_ BK541.out 4 (.int .u64 t538) rfl; have hcz231_5 := z4_ BK541.out 5 (.bool t539) rfl; have hfz231_0 := blk_frozen BK541.out 0; have hfz231_1 := blk_frozen BK541.out 1; have hfz231_2 := blk_frozen BK541.out 2; have hfz231_3 := blk_frozen BK541.out 3; have hfz231_4 := blk_frozen BK541.out 4; have hfz231_5 := blk_frozen BK541.out 5) | ((with_reducible refine gate_callee (f := 18) rfl ?_); refine goesL_ (some 122) rfl rfl Try.func18 (by kernel_rfl) rfl #[.agg #[.int .i64 a1_0, .bool false, .int .i64 a1_2, .int .u64 a1_3, .int .u64 a1_4, .bool a1_5], .agg #[.int .i64 t534, .bool t535, .int .i64 t536, .int .u64 t537, .int .u64 t538, .bool t539]] rfl z5_ ?_; (with_reducible refine (vernierref07_Cmp.calls kj45 a1_0 false a1_2 a1_3 a1_4 a1_5 t534 t535 t536 t537 t538 t539 t547 _ A84.out).mono ?_); rintro e w232 ⟨rfl, hb⟩; refine ⟨_, rfl, ?_⟩; have n0_ := Aside0.mk (blk_below (g := gb507) (z1_ BK507.out) hb); have n1_ := Aside0.mk (blk_below (g := gb519) (z1_ BK519.out) hb); have n2_ := Aside0.mk (blk_below (g := gb525) (z1_ BK525.out) hb); have n3_ := Aside0.mk (blk_below (g := gb533) (z1_ BK533.out) hb); have n4_ := Aside0.mk (blk_below (g := gb541) (z1_ BK541.out) hb); have n5_ := Aside0.mk (below_step (z3_ HB.out) hb); clear BK507; clear BK519; clear BK525; clear BK533; clear BK541; clear HB; have BK507 := n0_; have BK519 := n1_; have BK525 := n2_; have BK533 := n3_; have BK541 := n4_; have HB := n5_; clear n0_ n1_ n2_ n3_ n4_ n5_; (try clear hb); (try clear hb2); (try clear hk); (try clear hi)) | ((with_reducible refine gate_callee (f := 26) rfl ?_); refine goesL_ (some 126) rfl rfl Try.func26 (by kernel_rfl) rfl #[.int .i64 (wrap64 (a0 - 1))] rfl z5_ ?_; (with_reducible refine (vernierref05_Power.calls kj45 (wrap64 (a0 - 1)) t548 _ A85.out).mono ?_); rintro e w' ⟨rfl, ⟨nd, rfl⟩⟩; refine ⟨_, rfl, ?_⟩))
                  go_ret
                  exact ⟨by first | rfl | (simp [errW_none, errW_some] <;> rfl) | (simp only [← hji33, ← hji35, ← hji36, ← hji38, ← hji41]; first | rfl | (simp [errW_none, errW_some] <;> rfl)) | (simp [*, errW_none, errW_some] <;> rfl), by repeat (first | (with_reducible first | exact HB.out | apply below_alloc | apply pw_below_drewN | apply below_drew1 | refine below_set ?_ GE507.out | refine below_set ?_ GE519.out | refine below_set ?_ GE525.out | refine below_set ?_ GE533.out | refine below_set ?_ GE541.out) | exact HB.out)⟩
                 ·rw [if_neg c217] at H
                  have c217b0 : (t510 == 1) = false := beq_eq_false_iff_ne.mpr c217
                  have c217b1 : (t510 != 1) = true := bne_iff_ne.mpr c217
                  by_cases c233 : t547 > 0
                  ·rw [if_pos c233] at H
                   have c233b0 : decide (0 < t547) = true := decide_eq_true c233
                   clear c233
                   obtain rfl := Option.some.inj H
                   have hnb234 := NB507_519.out
                   have hnc234 := NB519_507.out
                   have hnb235 := NB507_525.out
                   have hnc235 := NB525_507.out
                   have hnb236 := NB507_533.out
                   have hnc236 := NB533_507.out
                   have hnb237 := NB507_541.out
                   have hnc237 := NB541_507.out
                   have hcz238_0 := z4_ BK507.out 0 (.int .i64 a1_0) rfl
                   have hcz238_1 := z4_ BK507.out 1 (.bool false) rfl
                   have hcz238_2 := z4_ BK507.out 2 (.int .i64 a1_2) rfl
                   have hcz238_3 := z4_ BK507.out 3 (.int .u64 a1_3) rfl
                   have hcz238_4 := z4_ BK507.out 4 (.int .u64 a1_4) rfl
                   have hcz238_5 := z4_ BK507.out 5 (.bool a1_5) rfl
                   have hfz238_0 := blk_frozen BK507.out 0
                   have hfz238_1 := blk_frozen BK507.out 1
                   have hfz238_2 := blk_frozen BK507.out 2
                   have hfz238_3 := blk_frozen BK507.out 3
                   have hfz238_4 := blk_frozen BK507.out 4
                   have hfz238_5 := blk_frozen BK507.out 5
                   have hnb239 := NB533_519.out
                   have hnc239 := NB519_533.out
                   have hnb240 := NB533_525.out
                   have hnc240 := NB525_533.out
                   have hnb241 := NB533_541.out
                   have hnc241 := NB541_533.out
                   have hcz242_0 := z4_ BK533.out 0 (.int .i64 t526) rfl
                   have hcz242_1 := z4_ BK533.out 1 (.bool t527) rfl
                   have hcz242_2 := z4_ BK533.out 2 (.int .i64 t528) rfl
                   have hcz242_3 := z4_ BK533.out 3 (.int .u64 t529) rfl
                   have hcz242_4 := z4_ BK533.out 4 (.int .u64 t530) rfl
                   have hcz242_5 := z4_ BK533.out 5 (.bool t531) rfl
                   have hfz242_0 := blk_frozen BK533.out 0
                   have hfz242_1 := blk_frozen BK533.out 1
                   have hfz242_2 := blk_frozen BK533.out 2
                   have hfz242_3 := blk_frozen BK533.out 3
                   have hfz242_4 := blk_frozen BK533.out 4
                   have hfz242_5 := blk_frozen BK533.out 5
                   go_wp2_with (first | ((with_reducible refine gate_callee (f := 18) rfl ?_); refine goesL_ (some 119) rfl rfl Try.func18 (by kernel_rfl) rfl #[.agg #[.int .i64 a1_0, .bool false, .int .i64 a1_2, .int .u64 a1_3, .int .u64 a1_4, .bool a1_5], .agg #[.int .i64 t526, .bool t527, .int .i64 t528, .int .u64 t529, .int .u64 t530, .bool t531]] rfl z5_ ?_; (with_reducible refine (vernierref07_Cmp.calls kj45 a1_0 false a1_2 a1_3 a1_4 a1_5 t526 t527 t528 t529 t530 t531 t546 _ A83.out).mono ?_); rintro e w243 ⟨rfl, hb⟩; refine ⟨_, rfl, ?_⟩; have n0_ := Aside0.mk (blk_below (g := gb507) (z1_ BK507.out) hb); have n1_ := Aside0.mk (blk_below (g := gb519) (z1_ BK519.out) hb); have n2_ := Aside0.mk (blk_below (g := gb525) (z1_ BK525.out) hb); have n3_ := Aside0.mk (blk_below (g := gb533) (z1_ BK533.out) hb); have n4_ := Aside0.mk (blk_below (g := gb541) (z1_ BK541.out) hb); have n5_ := Aside0.mk (below_step (z3_ HB.out) hb); clear BK507; clear BK519; clear BK525; clear BK533; clear BK541; clear HB; have BK507 := n0_; have BK519 := n1_; have BK525 := n2_; have BK533 := n3_; have BK541 := n4_; have HB := n5_; clear n0_ n1_ n2_ n3_ n4_ n5_; (try clear hb); (try clear hb2); (try clear hk); (try clear hi); have hcz244_0 := z4_ BK507.out 0 (.int .i64 a1_0) rfl; have hcz244_1 := z4_ BK507.out 1 (.bool false) rfl; have hcz244_2 := z4_ BK507.out 2 (.int .i64 a1_2) rfl; have hcz244_3 := z4_ BK507.out 3 (.int .u64 a1_3) rfl; have hcz244_4 := z4_ BK507.out 4 (.int .u64 a1_4) rfl; have hcz244_5 := z4_ BK507.out 5 (.bool a1_5) rfl; have hfz244_0 := blk_frozen BK507.out 0; have hfz244_1 := blk_frozen BK507.out 1; have hfz244_2 := blk_frozen BK507.out 2; have hfz244_3 := blk_frozen BK507.out 3; have hfz244_4 := blk_frozen BK507.out 4; have hfz244_5 := blk_frozen BK507.out 5; have hnb245 := NB541_519.out; have hnc245 := NB519_541.out; have hnb246 := NB541_525.out; have hnc246 := NB525_541.out; have hcz247_0 := z4_ BK541.out 0 (.int .i64 t534) rfl; have hcz247_1 := z4_ BK541.out 1 (.bool t535) rfl; have hcz247_2 := z4_ BK541.out 2 (.int .i64 t536) rfl; have hcz247_3 := z4_ BK541.out 3 (.int .u64 t537) rfl; have hcz247_4 := z4_ BK541.out 4 (.int .u64 t538) rfl; have hcz247_5 := z4_ BK541.out 5 (.bool t539) rfl; have hfz247_0 := blk_frozen BK541.out 0; have hfz247_1 := blk_frozen BK541.out 1; have hfz247_2 := blk_frozen BK541.out 2; have hfz247_3 := blk_frozen BK541.out 3; have hfz247_4 := blk_frozen BK541.out 4; have hfz247_5 := blk_frozen BK541.out 5) | ((with_reducible refine gate_callee (f := 18) rfl ?_); refine goesL_ (some 122) rfl rfl Try.func18 (by kernel_rfl) rfl #[.agg #[.int .i64 a1_0, .bool false, .int .i64 a1_2, .int .u64 a1_3, .int .u64 a1_4, .bool a1_5], .agg #[.int .i64 t534, .bool t535, .int .i64 t536, .int .u64 t537, .int .u64 t538, .bool t539]] rfl z5_ ?_; (with_reducible refine (vernierref07_Cmp.calls kj45 a1_0 false a1_2 a1_3 a1_4 a1_5 t534 t535 t536 t537 t538 t539 t547 _ A84.out).mono ?_); rintro e w248 ⟨rfl, hb⟩; refine ⟨_, rfl, ?_⟩; have n0_ := Aside0.mk (blk_below (g := gb507) (z1_ BK507.out) hb); have n1_ := Aside0.mk (blk_below (g := gb519) (z1_ BK519.out) hb); have n2_ := Aside0.mk (blk_below (g := gb525) (z1_ BK525.out) hb); have n3_ := Aside0.mk (blk_below (g := gb533) (z1_ BK533.out) hb); have n4_ := Aside0.mk (blk_below (g := gb541) (z1_ BK541.out) hb); have n5_ := Aside0.mk (below_step (z3_ HB.out) hb); clear BK507; clear BK519; clear BK525; clear BK533; clear BK541; clear HB; have BK507 := n0_; have BK519 := n1_; have BK525 := n2_; have BK533 := n3_; have BK541 := n4_; have HB := n5_; clear n0_ n1_ n2_ n3_ n4_ n5_; (try clear hb); (try clear hb2); (try clear hk); (try clear hi)) | ((with_reducible refine gate_callee (f := 26) rfl ?_); refine goesL_ (some 126) rfl rfl Try.func26 (by kernel_rfl) rfl #[.int .i64 (wrap64 (a0 - 1))] rfl z5_ ?_; (with_reducible refine (vernierref05_Power.calls kj45 (wrap64 (a0 - 1)) t548 _ A85.out).mono ?_); rintro e w' ⟨rfl, ⟨nd, rfl⟩⟩; refine ⟨_, rfl, ?_⟩))
                   go_ret
                   exact ⟨by first | rfl | (simp [errW_none, errW_some] <;> rfl) | (simp only [← hji33, ← hji35, ← hji36, ← hji38, ← hji41]; first | rfl | (simp [errW_none, errW_some] <;> rfl)) | (simp [*, errW_none, errW_some] <;> rfl), by repeat (first | (with_reducible first | exact HB.out | apply below_alloc | apply pw_below_drewN | apply below_drew1 | refine below_set ?_ GE507.out | refine below_set ?_ GE519.out | refine below_set ?_ GE525.out | refine below_set ?_ GE533.out | refine below_set ?_ GE541.out) | exact HB.out)⟩
                  ·rw [if_neg c233] at H
                   have c233b0 : decide (0 < t547) = false := decide_eq_false c233
                   clear c233
                   by_cases c249 : t547 = 0
                   ·rw [if_pos c249] at H
                    have c249b0 : (t547 == 0) = true := beq_iff_eq.mpr c249
                    have c249b1 : (t547 != 0) = false := bne_eq_false_iff_eq.mpr c249
                    clear c249
                    obtain rfl := Option.some.inj H
                    have hnb250 := NB507_519.out
                    have hnc250 := NB519_507.out
                    have hnb251 := NB507_525.out
                    have hnc251 := NB525_507.out
                    have hnb252 := NB507_533.out
                    have hnc252 := NB533_507.out
                    have hnb253 := NB507_541.out
                    have hnc253 := NB541_507.out
                    have hcz254_0 := z4_ BK507.out 0 (.int .i64 a1_0) rfl
                    have hcz254_1 := z4_ BK507.out 1 (.bool false) rfl
                    have hcz254_2 := z4_ BK507.out 2 (.int .i64 a1_2) rfl
                    have hcz254_3 := z4_ BK507.out 3 (.int .u64 a1_3) rfl
                    have hcz254_4 := z4_ BK507.out 4 (.int .u64 a1_4) rfl
                    have hcz254_5 := z4_ BK507.out 5 (.bool a1_5) rfl
                    have hfz254_0 := blk_frozen BK507.out 0
                    have hfz254_1 := blk_frozen BK507.out 1
                    have hfz254_2 := blk_frozen BK507.out 2
                    have hfz254_3 := blk_frozen BK507.out 3
                    have hfz254_4 := blk_frozen BK507.out 4
                    have hfz254_5 := blk_frozen BK507.out 5
                    have hnb255 := NB533_519.out
                    have hnc255 := NB519_533.out
                    have hnb256 := NB533_525.out
                    have hnc256 := NB525_533.out
                    have hnb257 := NB533_541.out
                    have hnc257 := NB541_533.out
                    have hcz258_0 := z4_ BK533.out 0 (.int .i64 t526) rfl
                    have hcz258_1 := z4_ BK533.out 1 (.bool t527) rfl
                    have hcz258_2 := z4_ BK533.out 2 (.int .i64 t528) rfl
                    have hcz258_3 := z4_ BK533.out 3 (.int .u64 t529) rfl
                    have hcz258_4 := z4_ BK533.out 4 (.int .u64 t530) rfl
                    have hcz258_5 := z4_ BK533.out 5 (.bool t531) rfl
                    have hfz258_0 := blk_frozen BK533.out 0
                    have hfz258_1 := blk_frozen BK533.out 1
                    have hfz258_2 := blk_frozen BK533.out 2
                    have hfz258_3 := blk_frozen BK533.out 3
                    have hfz258_4 := blk_frozen BK533.out 4
                    have hfz258_5 := blk_frozen BK533.out 5
                    go_wp2_with (first | ((with_reducible refine gate_callee (f := 18) rfl ?_); refine goesL_ (some 119) rfl rfl Try.func18 (by kernel_rfl) rfl #[.agg #[.int .i64 a1_0, .bool false, .int .i64 a1_2, .int .u64 a1_3, .int .u64 a1_4, .bool a1_5], .agg #[.int .i64 t526, .bool t527, .int .i64 t528, .int .u64 t529, .int .u64 t530, .bool t531]] rfl z5_ ?_; (with_reducible refine (vernierref07_Cmp.calls kj45 a1_0 false a1_2 a1_3 a1_4 a1_5 t526 t527 t528 t529 t530 t531 t546 _ A83.out).mono ?_); rintro e w259 ⟨rfl, hb⟩; refine ⟨_, rfl, ?_⟩; have n0_ := Aside0.mk (blk_below (g := gb507) (z1_ BK507.out) hb); have n1_ := Aside0.mk (blk_below (g := gb519) (z1_ BK519.out) hb); have n2_ := Aside0.mk (blk_below (g := gb525) (z1_ BK525.out) hb); have n3_ := Aside0.mk (blk_below (g := gb533) (z1_ BK533.out) hb); have n4_ := Aside0.mk (blk_below (g := gb541) (z1_ BK541.out) hb); have n5_ := Aside0.mk (below_step (z3_ HB.out) hb); clear BK507; clear BK519; clear BK525; clear BK533; clear BK541; clear HB; have BK507 := n0_; have BK519 := n1_; have BK525 := n2_; have BK533 := n3_; have BK541 := n4_; have HB := n5_; clear n0_ n1_ n2_ n3_ n4_ n5_; (try clear hb); (try clear hb2); (try clear hk); (try clear hi); have hcz260_0 := z4_ BK507.out 0 (.int .i64 a1_0) rfl; have hcz260_1 := z4_ BK507.out 1 (.bool false) rfl; have hcz260_2 := z4_ BK507.out 2 (.int .i64 a1_2) rfl; have hcz260_3 := z4_ BK507.out 3 (.int .u64 a1_3) rfl; have hcz260_4 := z4_ BK507.out 4 (.int .u64 a1_4) rfl; have hcz260_5 := z4_ BK507.out 5 (.bool a1_5) rfl; have hfz260_0 := blk_frozen BK507.out 0; have hfz260_1 := blk_frozen BK507.out 1; have hfz260_2 := blk_frozen BK507.out 2; have hfz260_3 := blk_frozen BK507.out 3; have hfz260_4 := blk_frozen BK507.out 4; have hfz260_5 := blk_frozen BK507.out 5; have hnb261 := NB541_519.out; have hnc261 := NB519_541.out; have hnb262 := NB541_525.out; have hnc262 := NB525_541.out; have hcz263_0 := z4_ BK541.out 0 (.int .i64 t534) rfl; have hcz263_1 := z4_ BK541.out 1 (.bool t535) rfl; have hcz263_2 := z4_ BK541.out 2 (.int .i64 t536) rfl; have hcz263_3 := z4_ BK541.out 3 (.int .u64 t537) rfl; have hcz263_4 := z4_ BK541.out 4 (.int .u64 t538) rfl; have hcz263_5 := z4_ BK541.out 5 (.bool t539) rfl; have hfz263_0 := blk_frozen BK541.out 0; have hfz263_1 := blk_frozen BK541.out 1; have hfz263_2 := blk_frozen BK541.out 2; have hfz263_3 := blk_frozen BK541.out 3; have hfz263_4 := blk_frozen BK541.out 4; have hfz263_5 := blk_frozen BK541.out 5) | ((with_reducible refine gate_callee (f := 18) rfl ?_); refine goesL_ (some 122) rfl rfl Try.func18 (by kernel_rfl) rfl #[.agg #[.int .i64 a1_0, .bool false, .int .i64 a1_2, .int .u64 a1_3, .int .u64 a1_4, .bool a1_5], .agg #[.int .i64 t534, .bool t535, .int .i64 t536, .int .u64 t537, .int .u64 t538, .bool t539]] rfl z5_ ?_; (with_reducible refine (vernierref07_Cmp.calls kj45 a1_0 false a1_2 a1_3 a1_4 a1_5 t534 t535 t536 t537 t538 t539 t547 _ A84.out).mono ?_); rintro e w264 ⟨rfl, hb⟩; refine ⟨_, rfl, ?_⟩; have n0_ := Aside0.mk (blk_below (g := gb507) (z1_ BK507.out) hb); have n1_ := Aside0.mk (blk_below (g := gb519) (z1_ BK519.out) hb); have n2_ := Aside0.mk (blk_below (g := gb525) (z1_ BK525.out) hb); have n3_ := Aside0.mk (blk_below (g := gb533) (z1_ BK533.out) hb); have n4_ := Aside0.mk (blk_below (g := gb541) (z1_ BK541.out) hb); have n5_ := Aside0.mk (below_step (z3_ HB.out) hb); clear BK507; clear BK519; clear BK525; clear BK533; clear BK541; clear HB; have BK507 := n0_; have BK519 := n1_; have BK525 := n2_; have BK533 := n3_; have BK541 := n4_; have HB := n5_; clear n0_ n1_ n2_ n3_ n4_ n5_; (try clear hb); (try clear hb2); (try clear hk); (try clear hi)) | ((with_reducible refine gate_callee (f := 26) rfl ?_); refine goesL_ (some 126) rfl rfl Try.func26 (by kernel_rfl) rfl #[.int .i64 (wrap64 (a0 - 1))] rfl z5_ ?_; (with_reducible refine (vernierref05_Power.calls kj45 (wrap64 (a0 - 1)) t548 _ A85.out).mono ?_); rintro e w' ⟨rfl, ⟨nd, rfl⟩⟩; refine ⟨_, rfl, ?_⟩))
                    go_ret
                    exact ⟨by first | rfl | (simp [errW_none, errW_some] <;> rfl) | (simp only [← hji33, ← hji35, ← hji36, ← hji38, ← hji41]; first | rfl | (simp [errW_none, errW_some] <;> rfl)) | (simp [*, errW_none, errW_some] <;> rfl), by repeat (first | (with_reducible first | exact HB.out | apply below_alloc | apply pw_below_drewN | apply below_drew1 | refine below_set ?_ GE507.out | refine below_set ?_ GE519.out | refine below_set ?_ GE525.out | refine below_set ?_ GE533.out | refine below_set ?_ GE541.out) | exact HB.out)⟩
                   ·rw [if_neg c249] at H
                    have c249b0 : (t547 == 0) = false := beq_eq_false_iff_ne.mpr c249
                    have c249b1 : (t547 != 0) = true := bne_iff_ne.mpr c249
                    obtain rfl := Option.some.inj H
                    have hnb265 := NB507_519.out
                    have hnc265 := NB519_507.out
                    have hnb266 := NB507_525.out
                    have hnc266 := NB525_507.out
                    have hnb267 := NB507_533.out
                    have hnc267 := NB533_507.out
                    have hnb268 := NB507_541.out
                    have hnc268 := NB541_507.out
                    have hcz269_0 := z4_ BK507.out 0 (.int .i64 a1_0) rfl
                    have hcz269_1 := z4_ BK507.out 1 (.bool false) rfl
                    have hcz269_2 := z4_ BK507.out 2 (.int .i64 a1_2) rfl
                    have hcz269_3 := z4_ BK507.out 3 (.int .u64 a1_3) rfl
                    have hcz269_4 := z4_ BK507.out 4 (.int .u64 a1_4) rfl
                    have hcz269_5 := z4_ BK507.out 5 (.bool a1_5) rfl
                    have hfz269_0 := blk_frozen BK507.out 0
                    have hfz269_1 := blk_frozen BK507.out 1
                    have hfz269_2 := blk_frozen BK507.out 2
                    have hfz269_3 := blk_frozen BK507.out 3
                    have hfz269_4 := blk_frozen BK507.out 4
                    have hfz269_5 := blk_frozen BK507.out 5
                    have hnb270 := NB533_519.out
                    have hnc270 := NB519_533.out
                    have hnb271 := NB533_525.out
                    have hnc271 := NB525_533.out
                    have hnb272 := NB533_541.out
                    have hnc272 := NB541_533.out
                    have hcz273_0 := z4_ BK533.out 0 (.int .i64 t526) rfl
                    have hcz273_1 := z4_ BK533.out 1 (.bool t527) rfl
                    have hcz273_2 := z4_ BK533.out 2 (.int .i64 t528) rfl
                    have hcz273_3 := z4_ BK533.out 3 (.int .u64 t529) rfl
                    have hcz273_4 := z4_ BK533.out 4 (.int .u64 t530) rfl
                    have hcz273_5 := z4_ BK533.out 5 (.bool t531) rfl
                    have hfz273_0 := blk_frozen BK533.out 0
                    have hfz273_1 := blk_frozen BK533.out 1
                    have hfz273_2 := blk_frozen BK533.out 2
                    have hfz273_3 := blk_frozen BK533.out 3
                    have hfz273_4 := blk_frozen BK533.out 4
                    have hfz273_5 := blk_frozen BK533.out 5
                    go_wp2_with (first | ((with_reducible refine gate_callee (f := 18) rfl ?_); refine goesL_ (some 119) rfl rfl Try.func18 (by kernel_rfl) rfl #[.agg #[.int .i64 a1_0, .bool false, .int .i64 a1_2, .int .u64 a1_3, .int .u64 a1_4, .bool a1_5], .agg #[.int .i64 t526, .bool t527, .int .i64 t528, .int .u64 t529, .int .u64 t530, .bool t531]] rfl z5_ ?_; (with_reducible refine (vernierref07_Cmp.calls kj45 a1_0 false a1_2 a1_3 a1_4 a1_5 t526 t527 t528 t529 t530 t531 t546 _ A83.out).mono ?_); rintro e w274 ⟨rfl, hb⟩; refine ⟨_, rfl, ?_⟩; have n0_ := Aside0.mk (blk_below (g := gb507) (z1_ BK507.out) hb); have n1_ := Aside0.mk (blk_below (g := gb519) (z1_ BK519.out) hb); have n2_ := Aside0.mk (blk_below (g := gb525) (z1_ BK525.out) hb); have n3_ := Aside0.mk (blk_below (g := gb533) (z1_ BK533.out) hb); have n4_ := Aside0.mk (blk_below (g := gb541) (z1_ BK541.out) hb); have n5_ := Aside0.mk (below_step (z3_ HB.out) hb); clear BK507; clear BK519; clear BK525; clear BK533; clear BK541; clear HB; have BK507 := n0_; have BK519 := n1_; have BK525 := n2_; have BK533 := n3_; have BK541 := n4_; have HB := n5_; clear n0_ n1_ n2_ n3_ n4_ n5_; (try clear hb); (try clear hb2); (try clear hk); (try clear hi); have hcz275_0 := z4_ BK507.out 0 (.int .i64 a1_0) rfl; have hcz275_1 := z4_ BK507.out 1 (.bool false) rfl; have hcz275_2 := z4_ BK507.out 2 (.int .i64 a1_2) rfl; have hcz275_3 := z4_ BK507.out 3 (.int .u64 a1_3) rfl; have hcz275_4 := z4_ BK507.out 4 (.int .u64 a1_4) rfl; have hcz275_5 := z4_ BK507.out 5 (.bool a1_5) rfl; have hfz275_0 := blk_frozen BK507.out 0; have hfz275_1 := blk_frozen BK507.out 1; have hfz275_2 := blk_frozen BK507.out 2; have hfz275_3 := blk_frozen BK507.out 3; have hfz275_4 := blk_frozen BK507.out 4; have hfz275_5 := blk_frozen BK507.out 5; have hnb276 := NB541_519.out; have hnc276 := NB519_541.out; have hnb277 := NB541_525.out; have hnc277 := NB525_541.out; have hcz278_0 := z4_ BK541.out 0 (.int .i64 t534) rfl; have hcz278_1 := z4_ BK541.out 1 (.bool t535) rfl; have hcz278_2 := z4_ BK541.out 2 (.int .i64 t536) rfl; have hcz278_3 := z4_ BK541.out 3 (.int .u64 t537) rfl; have hcz278_4 := z4_ BK541.out 4 (.int .u64 t538) rfl; have hcz278_5 := z4_ BK541.out 5 (.bool t539) rfl; have hfz278_0 := blk_frozen BK541.out 0; have hfz278_1 := blk_frozen BK541.out 1; have hfz278_2 := blk_frozen BK541.out 2; have hfz278_3 := blk_frozen BK541.out 3; have hfz278_4 := blk_frozen BK541.out 4; have hfz278_5 := blk_frozen BK541.out 5) | ((with_reducible refine gate_callee (f := 18) rfl ?_); refine goesL_ (some 122) rfl rfl Try.func18 (by kernel_rfl) rfl #[.agg #[.int .i64 a1_0, .bool false, .int .i64 a1_2, .int .u64 a1_3, .int .u64 a1_4, .bool a1_5], .agg #[.int .i64 t534, .bool t535, .int .i64 t536, .int .u64 t537, .int .u64 t538, .bool t539]] rfl z5_ ?_; (with_reducible refine (vernierref07_Cmp.calls kj45 a1_0 false a1_2 a1_3 a1_4 a1_5 t534 t535 t536 t537 t538 t539 t547 _ A84.out).mono ?_); rintro e w279 ⟨rfl, hb⟩; refine ⟨_, rfl, ?_⟩; have n0_ := Aside0.mk (blk_below (g := gb507) (z1_ BK507.out) hb); have n1_ := Aside0.mk (blk_below (g := gb519) (z1_ BK519.out) hb); have n2_ := Aside0.mk (blk_below (g := gb525) (z1_ BK525.out) hb); have n3_ := Aside0.mk (blk_below (g := gb533) (z1_ BK533.out) hb); have n4_ := Aside0.mk (blk_below (g := gb541) (z1_ BK541.out) hb); have n5_ := Aside0.mk (below_step (z3_ HB.out) hb); clear BK507; clear BK519; clear BK525; clear BK533; clear BK541; clear HB; have BK507 := n0_; have BK519 := n1_; have BK525 := n2_; have BK533 := n3_; have BK541 := n4_; have HB := n5_; clear n0_ n1_ n2_ n3_ n4_ n5_; (try clear hb); (try clear hb2); (try clear hk); (try clear hi)) | ((with_reducible refine gate_callee (f := 26) rfl ?_); refine goesL_ (some 126) rfl rfl Try.func26 (by kernel_rfl) rfl #[.int .i64 (wrap64 (a0 - 1))] rfl z5_ ?_; (with_reducible refine (vernierref05_Power.calls kj45 (wrap64 (a0 - 1)) t548 _ A85.out).mono ?_); rintro e w' ⟨rfl, ⟨nd, rfl⟩⟩; refine ⟨_, rfl, ?_⟩))
                    go_ret
                    exact ⟨by first | rfl | (simp [errW_none, errW_some] <;> rfl) | (simp only [← hji33, ← hji35, ← hji36, ← hji38, ← hji41]; first | rfl | (simp [errW_none, errW_some] <;> rfl)) | (simp [*, errW_none, errW_some] <;> rfl), by repeat (first | (with_reducible first | exact HB.out | apply below_alloc | apply pw_below_drewN | apply below_drew1 | refine below_set ?_ GE507.out | refine below_set ?_ GE519.out | refine below_set ?_ GE525.out | refine below_set ?_ GE533.out | refine below_set ?_ GE541.out) | exact HB.out)⟩
                ·rw [if_neg c216] at H
                 have c216b0 : ((Int.tmod t510 2) == 0) = false := beq_eq_false_iff_ne.mpr c216
                 have c216b1 : ((Int.tmod t510 2) != 0) = true := bne_iff_ne.mpr c216
                 obtain rfl := Option.some.inj H
                 have hnb280 := NB507_519.out
                 have hnc280 := NB519_507.out
                 have hnb281 := NB507_525.out
                 have hnc281 := NB525_507.out
                 have hnb282 := NB507_533.out
                 have hnc282 := NB533_507.out
                 have hnb283 := NB507_541.out
                 have hnc283 := NB541_507.out
                 have hcz284_0 := z4_ BK507.out 0 (.int .i64 a1_0) rfl
                 have hcz284_1 := z4_ BK507.out 1 (.bool false) rfl
                 have hcz284_2 := z4_ BK507.out 2 (.int .i64 a1_2) rfl
                 have hcz284_3 := z4_ BK507.out 3 (.int .u64 a1_3) rfl
                 have hcz284_4 := z4_ BK507.out 4 (.int .u64 a1_4) rfl
                 have hcz284_5 := z4_ BK507.out 5 (.bool a1_5) rfl
                 have hfz284_0 := blk_frozen BK507.out 0
                 have hfz284_1 := blk_frozen BK507.out 1
                 have hfz284_2 := blk_frozen BK507.out 2
                 have hfz284_3 := blk_frozen BK507.out 3
                 have hfz284_4 := blk_frozen BK507.out 4
                 have hfz284_5 := blk_frozen BK507.out 5
                 have hnb285 := NB533_519.out
                 have hnc285 := NB519_533.out
                 have hnb286 := NB533_525.out
                 have hnc286 := NB525_533.out
                 have hnb287 := NB533_541.out
                 have hnc287 := NB541_533.out
                 have hcz288_0 := z4_ BK533.out 0 (.int .i64 t526) rfl
                 have hcz288_1 := z4_ BK533.out 1 (.bool t527) rfl
                 have hcz288_2 := z4_ BK533.out 2 (.int .i64 t528) rfl
                 have hcz288_3 := z4_ BK533.out 3 (.int .u64 t529) rfl
                 have hcz288_4 := z4_ BK533.out 4 (.int .u64 t530) rfl
                 have hcz288_5 := z4_ BK533.out 5 (.bool t531) rfl
                 have hfz288_0 := blk_frozen BK533.out 0
                 have hfz288_1 := blk_frozen BK533.out 1
                 have hfz288_2 := blk_frozen BK533.out 2
                 have hfz288_3 := blk_frozen BK533.out 3
                 have hfz288_4 := blk_frozen BK533.out 4
                 have hfz288_5 := blk_frozen BK533.out 5
                 go_wp2_with (first | ((with_reducible refine gate_callee (f := 18) rfl ?_); refine goesL_ (some 119) rfl rfl Try.func18 (by kernel_rfl) rfl #[.agg #[.int .i64 a1_0, .bool false, .int .i64 a1_2, .int .u64 a1_3, .int .u64 a1_4, .bool a1_5], .agg #[.int .i64 t526, .bool t527, .int .i64 t528, .int .u64 t529, .int .u64 t530, .bool t531]] rfl z5_ ?_; (with_reducible refine (vernierref07_Cmp.calls kj45 a1_0 false a1_2 a1_3 a1_4 a1_5 t526 t527 t528 t529 t530 t531 t546 _ A83.out).mono ?_); rintro e w289 ⟨rfl, hb⟩; refine ⟨_, rfl, ?_⟩; have n0_ := Aside0.mk (blk_below (g := gb507) (z1_ BK507.out) hb); have n1_ := Aside0.mk (blk_below (g := gb519) (z1_ BK519.out) hb); have n2_ := Aside0.mk (blk_below (g := gb525) (z1_ BK525.out) hb); have n3_ := Aside0.mk (blk_below (g := gb533) (z1_ BK533.out) hb); have n4_ := Aside0.mk (blk_below (g := gb541) (z1_ BK541.out) hb); have n5_ := Aside0.mk (below_step (z3_ HB.out) hb); clear BK507; clear BK519; clear BK525; clear BK533; clear BK541; clear HB; have BK507 := n0_; have BK519 := n1_; have BK525 := n2_; have BK533 := n3_; have BK541 := n4_; have HB := n5_; clear n0_ n1_ n2_ n3_ n4_ n5_; (try clear hb); (try clear hb2); (try clear hk); (try clear hi); have hcz290_0 := z4_ BK507.out 0 (.int .i64 a1_0) rfl; have hcz290_1 := z4_ BK507.out 1 (.bool false) rfl; have hcz290_2 := z4_ BK507.out 2 (.int .i64 a1_2) rfl; have hcz290_3 := z4_ BK507.out 3 (.int .u64 a1_3) rfl; have hcz290_4 := z4_ BK507.out 4 (.int .u64 a1_4) rfl; have hcz290_5 := z4_ BK507.out 5 (.bool a1_5) rfl; have hfz290_0 := blk_frozen BK507.out 0; have hfz290_1 := blk_frozen BK507.out 1; have hfz290_2 := blk_frozen BK507.out 2; have hfz290_3 := blk_frozen BK507.out 3; have hfz290_4 := blk_frozen BK507.out 4; have hfz290_5 := blk_frozen BK507.out 5; have hnb291 := NB541_519.out; have hnc291 := NB519_541.out; have hnb292 := NB541_525.out; have hnc292 := NB525_541.out; have hcz293_0 := z4_ BK541.out 0 (.int .i64 t534) rfl; have hcz293_1 := z4_ BK541.out 1 (.bool t535) rfl; have hcz293_2 := z4_ BK541.out 2 (.int .i64 t536) rfl; have hcz293_3 := z4_ BK541.out 3 (.int .u64 t537) rfl; have hcz293_4 := z4_ BK541.out 4 (.int .u64 t538) rfl; have hcz293_5 := z4_ BK541.out 5 (.bool t539) rfl; have hfz293_0 := blk_frozen BK541.out 0; have hfz293_1 := blk_frozen BK541.out 1; have hfz293_2 := blk_frozen BK541.out 2; have hfz293_3 := blk_frozen BK541.out 3; have hfz293_4 := blk_frozen BK541.out 4; have hfz293_5 := blk_frozen BK541.out 5) | ((with_reducible refine gate_callee (f := 18) rfl ?_); refine goesL_ (some 122) rfl rfl Try.func18 (by kernel_rfl) rfl #[.agg #[.int .i64 a1_0, .bool false, .int .i64 a1_2, .int .u64 a1_3, .int .u64 a1_4, .bool a1_5], .agg #[.int .i64 t534, .bool t535, .int .i64 t536, .int .u64 t537, .int .u64 t538, .bool t539]] rfl z5_ ?_; (with_reducible refine (vernierref07_Cmp.calls kj45 a1_0 false a1_2 a1_3 a1_4 a1_5 t534 t535 t536 t537 t538 t539 t547 _ A84.out).mono ?_); rintro e w294 ⟨rfl, hb⟩; refine ⟨_, rfl, ?_⟩; have n0_ := Aside0.mk (blk_below (g := gb507) (z1_ BK507.out) hb); have n1_ := Aside0.mk (blk_below (g := gb519) (z1_ BK519.out) hb); have n2_ := Aside0.mk (blk_below (g := gb525) (z1_ BK525.out) hb); have n3_ := Aside0.mk (blk_below (g := gb533) (z1_ BK533.out) hb); have n4_ := Aside0.mk (blk_below (g := gb541) (z1_ BK541.out) hb); have n5_ := Aside0.mk (below_step (z3_ HB.out) hb); clear BK507; clear BK519; clear BK525; clear BK533; clear BK541; clear HB; have BK507 := n0_; have BK519 := n1_; have BK525 := n2_; have BK533 := n3_; have BK541 := n4_; have HB := n5_; clear n0_ n1_ n2_ n3_ n4_ n5_; (try clear hb); (try clear hb2); (try clear hk); (try clear hi)) | ((with_reducible refine gate_callee (f := 26) rfl ?_); refine goesL_ (some 126) rfl rfl Try.func26 (by kernel_rfl) rfl #[.int .i64 (wrap64 (a0 - 1))] rfl z5_ ?_; (with_reducible refine (vernierref05_Power.calls kj45 (wrap64 (a0 - 1)) t548 _ A85.out).mono ?_); rintro e w' ⟨rfl, ⟨nd, rfl⟩⟩; refine ⟨_, rfl, ?_⟩))
                 go_ret
                 exact ⟨by first | rfl | (simp [errW_none, errW_some] <;> rfl) | (simp only [← hji33, ← hji35, ← hji36, ← hji38, ← hji41]; first | rfl | (simp [errW_none, errW_some] <;> rfl)) | (simp [*, errW_none, errW_some] <;> rfl), by repeat (first | (with_reducible first | exact HB.out | apply below_alloc | apply pw_below_drewN | apply below_drew1 | refine below_set ?_ GE507.out | refine below_set ?_ GE519.out | refine below_set ?_ GE525.out | refine below_set ?_ GE533.out | refine below_set ?_ GE541.out) | exact HB.out)⟩
               ·rw [if_neg c215] at H
                have c215b0 : (t546 == 0) = false := beq_eq_false_iff_ne.mpr c215
                have c215b1 : (t546 != 0) = true := bne_iff_ne.mpr c215
                obtain rfl := Option.some.inj H
                have hnb295 := NB507_519.out
                have hnc295 := NB519_507.out
                have hnb296 := NB507_525.out
                have hnc296 := NB525_507.out
                have hnb297 := NB507_533.out
                have hnc297 := NB533_507.out
                have hnb298 := NB507_541.out
                have hnc298 := NB541_507.out
                have hcz299_0 := z4_ BK507.out 0 (.int .i64 a1_0) rfl
                have hcz299_1 := z4_ BK507.out 1 (.bool false) rfl
                have hcz299_2 := z4_ BK507.out 2 (.int .i64 a1_2) rfl
                have hcz299_3 := z4_ BK507.out 3 (.int .u64 a1_3) rfl
                have hcz299_4 := z4_ BK507.out 4 (.int .u64 a1_4) rfl
                have hcz299_5 := z4_ BK507.out 5 (.bool a1_5) rfl
                have hfz299_0 := blk_frozen BK507.out 0
                have hfz299_1 := blk_frozen BK507.out 1
                have hfz299_2 := blk_frozen BK507.out 2
                have hfz299_3 := blk_frozen BK507.out 3
                have hfz299_4 := blk_frozen BK507.out 4
                have hfz299_5 := blk_frozen BK507.out 5
                have hnb300 := NB533_519.out
                have hnc300 := NB519_533.out
                have hnb301 := NB533_525.out
                have hnc301 := NB525_533.out
                have hnb302 := NB533_541.out
                have hnc302 := NB541_533.out
                have hcz303_0 := z4_ BK533.out 0 (.int .i64 t526) rfl
                have hcz303_1 := z4_ BK533.out 1 (.bool t527) rfl
                have hcz303_2 := z4_ BK533.out 2 (.int .i64 t528) rfl
                have hcz303_3 := z4_ BK533.out 3 (.int .u64 t529) rfl
                have hcz303_4 := z4_ BK533.out 4 (.int .u64 t530) rfl
                have hcz303_5 := z4_ BK533.out 5 (.bool t531) rfl
                have hfz303_0 := blk_frozen BK533.out 0
                have hfz303_1 := blk_frozen BK533.out 1
                have hfz303_2 := blk_frozen BK533.out 2
                have hfz303_3 := blk_frozen BK533.out 3
                have hfz303_4 := blk_frozen BK533.out 4
                have hfz303_5 := blk_frozen BK533.out 5
                go_wp2_with (first | ((with_reducible refine gate_callee (f := 18) rfl ?_); refine goesL_ (some 119) rfl rfl Try.func18 (by kernel_rfl) rfl #[.agg #[.int .i64 a1_0, .bool false, .int .i64 a1_2, .int .u64 a1_3, .int .u64 a1_4, .bool a1_5], .agg #[.int .i64 t526, .bool t527, .int .i64 t528, .int .u64 t529, .int .u64 t530, .bool t531]] rfl z5_ ?_; (with_reducible refine (vernierref07_Cmp.calls kj45 a1_0 false a1_2 a1_3 a1_4 a1_5 t526 t527 t528 t529 t530 t531 t546 _ A83.out).mono ?_); rintro e w304 ⟨rfl, hb⟩; refine ⟨_, rfl, ?_⟩; have n0_ := Aside0.mk (blk_below (g := gb507) (z1_ BK507.out) hb); have n1_ := Aside0.mk (blk_below (g := gb519) (z1_ BK519.out) hb); have n2_ := Aside0.mk (blk_below (g := gb525) (z1_ BK525.out) hb); have n3_ := Aside0.mk (blk_below (g := gb533) (z1_ BK533.out) hb); have n4_ := Aside0.mk (blk_below (g := gb541) (z1_ BK541.out) hb); have n5_ := Aside0.mk (below_step (z3_ HB.out) hb); clear BK507; clear BK519; clear BK525; clear BK533; clear BK541; clear HB; have BK507 := n0_; have BK519 := n1_; have BK525 := n2_; have BK533 := n3_; have BK541 := n4_; have HB := n5_; clear n0_ n1_ n2_ n3_ n4_ n5_; (try clear hb); (try clear hb2); (try clear hk); (try clear hi); have hcz305_0 := z4_ BK507.out 0 (.int .i64 a1_0) rfl; have hcz305_1 := z4_ BK507.out 1 (.bool false) rfl; have hcz305_2 := z4_ BK507.out 2 (.int .i64 a1_2) rfl; have hcz305_3 := z4_ BK507.out 3 (.int .u64 a1_3) rfl; have hcz305_4 := z4_ BK507.out 4 (.int .u64 a1_4) rfl; have hcz305_5 := z4_ BK507.out 5 (.bool a1_5) rfl; have hfz305_0 := blk_frozen BK507.out 0; have hfz305_1 := blk_frozen BK507.out 1; have hfz305_2 := blk_frozen BK507.out 2; have hfz305_3 := blk_frozen BK507.out 3; have hfz305_4 := blk_frozen BK507.out 4; have hfz305_5 := blk_frozen BK507.out 5; have hnb306 := NB541_519.out; have hnc306 := NB519_541.out; have hnb307 := NB541_525.out; have hnc307 := NB525_541.out; have hcz308_0 := z4_ BK541.out 0 (.int .i64 t534) rfl; have hcz308_1 := z4_ BK541.out 1 (.bool t535) rfl; have hcz308_2 := z4_ BK541.out 2 (.int .i64 t536) rfl; have hcz308_3 := z4_ BK541.out 3 (.int .u64 t537) rfl; have hcz308_4 := z4_ BK541.out 4 (.int .u64 t538) rfl; have hcz308_5 := z4_ BK541.out 5 (.bool t539) rfl; have hfz308_0 := blk_frozen BK541.out 0; have hfz308_1 := blk_frozen BK541.out 1; have hfz308_2 := blk_frozen BK541.out 2; have hfz308_3 := blk_frozen BK541.out 3; have hfz308_4 := blk_frozen BK541.out 4; have hfz308_5 := blk_frozen BK541.out 5) | ((with_reducible refine gate_callee (f := 18) rfl ?_); refine goesL_ (some 122) rfl rfl Try.func18 (by kernel_rfl) rfl #[.agg #[.int .i64 a1_0, .bool false, .int .i64 a1_2, .int .u64 a1_3, .int .u64 a1_4, .bool a1_5], .agg #[.int .i64 t534, .bool t535, .int .i64 t536, .int .u64 t537, .int .u64 t538, .bool t539]] rfl z5_ ?_; (with_reducible refine (vernierref07_Cmp.calls kj45 a1_0 false a1_2 a1_3 a1_4 a1_5 t534 t535 t536 t537 t538 t539 t547 _ A84.out).mono ?_); rintro e w309 ⟨rfl, hb⟩; refine ⟨_, rfl, ?_⟩; have n0_ := Aside0.mk (blk_below (g := gb507) (z1_ BK507.out) hb); have n1_ := Aside0.mk (blk_below (g := gb519) (z1_ BK519.out) hb); have n2_ := Aside0.mk (blk_below (g := gb525) (z1_ BK525.out) hb); have n3_ := Aside0.mk (blk_below (g := gb533) (z1_ BK533.out) hb); have n4_ := Aside0.mk (blk_below (g := gb541) (z1_ BK541.out) hb); have n5_ := Aside0.mk (below_step (z3_ HB.out) hb); clear BK507; clear BK519; clear BK525; clear BK533; clear BK541; clear HB; have BK507 := n0_; have BK519 := n1_; have BK525 := n2_; have BK533 := n3_; have BK541 := n4_; have HB := n5_; clear n0_ n1_ n2_ n3_ n4_ n5_; (try clear hb); (try clear hb2); (try clear hk); (try clear hi)) | ((with_reducible refine gate_callee (f := 26) rfl ?_); refine goesL_ (some 126) rfl rfl Try.func26 (by kernel_rfl) rfl #[.int .i64 (wrap64 (a0 - 1))] rfl z5_ ?_; (with_reducible refine (vernierref05_Power.calls kj45 (wrap64 (a0 - 1)) t548 _ A85.out).mono ?_); rintro e w' ⟨rfl, ⟨nd, rfl⟩⟩; refine ⟨_, rfl, ?_⟩))
                go_ret
                exact ⟨by first | rfl | (simp [errW_none, errW_some] <;> rfl) | (simp only [← hji33, ← hji35, ← hji36, ← hji38, ← hji41]; first | rfl | (simp [errW_none, errW_some] <;> rfl)) | (simp [*, errW_none, errW_some] <;> rfl), by repeat (first | (with_reducible first | exact HB.out | apply below_alloc | apply pw_below_drewN | apply below_drew1 | refine below_set ?_ GE507.out | refine below_set ?_ GE519.out | refine below_set ?_ GE525.out | refine below_set ?_ GE533.out | refine below_set ?_ GE541.out) | exact HB.out)⟩
            ·replace c86 := Bool.eq_false_iff.mpr c86
             subst c86
             have H1 : (some false) = some r := by rw [if_neg (show ¬ (false = true) by decide)] at H; exact H
             clear H
             have H := H1
             clear H1
             obtain rfl := Option.some.inj H
             have hnb310 := NB507_519.out
             have hnc310 := NB519_507.out
             have hnb311 := NB507_525.out
             have hnc311 := NB525_507.out
             have hnb312 := NB507_533.out
             have hnc312 := NB533_507.out
             have hnb313 := NB507_541.out
             have hnc313 := NB541_507.out
             have hcz314_0 := z4_ BK507.out 0 (.int .i64 a1_0) rfl
             have hcz314_1 := z4_ BK507.out 1 (.bool false) rfl
             have hcz314_2 := z4_ BK507.out 2 (.int .i64 a1_2) rfl
             have hcz314_3 := z4_ BK507.out 3 (.int .u64 a1_3) rfl
             have hcz314_4 := z4_ BK507.out 4 (.int .u64 a1_4) rfl
             have hcz314_5 := z4_ BK507.out 5 (.bool a1_5) rfl
             have hfz314_0 := blk_frozen BK507.out 0
             have hfz314_1 := blk_frozen BK507.out 1
             have hfz314_2 := blk_frozen BK507.out 2
             have hfz314_3 := blk_frozen BK507.out 3
             have hfz314_4 := blk_frozen BK507.out 4
             have hfz314_5 := blk_frozen BK507.out 5
             have hnb315 := NB533_519.out
             have hnc315 := NB519_533.out
             have hnb316 := NB533_525.out
             have hnc316 := NB525_533.out
             have hnb317 := NB533_541.out
             have hnc317 := NB541_533.out
             have hcz318_0 := z4_ BK533.out 0 (.int .i64 t526) rfl
             have hcz318_1 := z4_ BK533.out 1 (.bool t527) rfl
             have hcz318_2 := z4_ BK533.out 2 (.int .i64 t528) rfl
             have hcz318_3 := z4_ BK533.out 3 (.int .u64 t529) rfl
             have hcz318_4 := z4_ BK533.out 4 (.int .u64 t530) rfl
             have hcz318_5 := z4_ BK533.out 5 (.bool t531) rfl
             have hfz318_0 := blk_frozen BK533.out 0
             have hfz318_1 := blk_frozen BK533.out 1
             have hfz318_2 := blk_frozen BK533.out 2
             have hfz318_3 := blk_frozen BK533.out 3
             have hfz318_4 := blk_frozen BK533.out 4
             have hfz318_5 := blk_frozen BK533.out 5
             go_wp2_with (first | ((with_reducible refine gate_callee (f := 18) rfl ?_); refine goesL_ (some 119) rfl rfl Try.func18 (by kernel_rfl) rfl #[.agg #[.int .i64 a1_0, .bool false, .int .i64 a1_2, .int .u64 a1_3, .int .u64 a1_4, .bool a1_5], .agg #[.int .i64 t526, .bool t527, .int .i64 t528, .int .u64 t529, .int .u64 t530, .bool t531]] rfl z5_ ?_; (with_reducible refine (vernierref07_Cmp.calls kj45 a1_0 false a1_2 a1_3 a1_4 a1_5 t526 t527 t528 t529 t530 t531 t546 _ A83.out).mono ?_); rintro e w319 ⟨rfl, hb⟩; refine ⟨_, rfl, ?_⟩; have n0_ := Aside0.mk (blk_below (g := gb507) (z1_ BK507.out) hb); have n1_ := Aside0.mk (blk_below (g := gb519) (z1_ BK519.out) hb); have n2_ := Aside0.mk (blk_below (g := gb525) (z1_ BK525.out) hb); have n3_ := Aside0.mk (blk_below (g := gb533) (z1_ BK533.out) hb); have n4_ := Aside0.mk (blk_below (g := gb541) (z1_ BK541.out) hb); have n5_ := Aside0.mk (below_step (z3_ HB.out) hb); clear BK507; clear BK519; clear BK525; clear BK533; clear BK541; clear HB; have BK507 := n0_; have BK519 := n1_; have BK525 := n2_; have BK533 := n3_; have BK541 := n4_; have HB := n5_; clear n0_ n1_ n2_ n3_ n4_ n5_; (try clear hb); (try clear hb2); (try clear hk); (try clear hi); have hcz320_0 := z4_ BK507.out 0 (.int .i64 a1_0) rfl; have hcz320_1 := z4_ BK507.out 1 (.bool false) rfl; have hcz320_2 := z4_ BK507.out 2 (.int .i64 a1_2) rfl; have hcz320_3 := z4_ BK507.out 3 (.int .u64 a1_3) rfl; have hcz320_4 := z4_ BK507.out 4 (.int .u64 a1_4) rfl; have hcz320_5 := z4_ BK507.out 5 (.bool a1_5) rfl; have hfz320_0 := blk_frozen BK507.out 0; have hfz320_1 := blk_frozen BK507.out 1; have hfz320_2 := blk_frozen BK507.out 2; have hfz320_3 := blk_frozen BK507.out 3; have hfz320_4 := blk_frozen BK507.out 4; have hfz320_5 := blk_frozen BK507.out 5; have hnb321 := NB541_519.out; have hnc321 := NB519_541.out; have hnb322 := NB541_525.out; have hnc322 := NB525_541.out; have hcz323_0 := z4_ BK541.out 0 (.int .i64 t534) rfl; have hcz323_1 := z4_ BK541.out 1 (.bool t535) rfl; have hcz323_2 := z4_ BK541.out 2 (.int .i64 t536) rfl; have hcz323_3 := z4_ BK541.out 3 (.int .u64 t537) rfl; have hcz323_4 := z4_ BK541.out 4 (.int .u64 t538) rfl; have hcz323_5 := z4_ BK541.out 5 (.bool t539) rfl; have hfz323_0 := blk_frozen BK541.out 0; have hfz323_1 := blk_frozen BK541.out 1; have hfz323_2 := blk_frozen BK541.out 2; have hfz323_3 := blk_frozen BK541.out 3; have hfz323_4 := blk_frozen BK541.out 4; have hfz323_5 := blk_frozen BK541.out 5) | ((with_reducible refine gate_callee (f := 18) rfl ?_); refine goesL_ (some 122) rfl rfl Try.func18 (by kernel_rfl) rfl #[.agg #[.int .i64 a1_0, .bool false, .int .i64 a1_2, .int .u64 a1_3, .int .u64 a1_4, .bool a1_5], .agg #[.int .i64 t534, .bool t535, .int .i64 t536, .int .u64 t537, .int .u64 t538, .bool t539]] rfl z5_ ?_; (with_reducible refine (vernierref07_Cmp.calls kj45 a1_0 false a1_2 a1_3 a1_4 a1_5 t534 t535 t536 t537 t538 t539 t547 _ A84.out).mono ?_); rintro e w324 ⟨rfl, hb⟩; refine ⟨_, rfl, ?_⟩; have n0_ := Aside0.mk (blk_below (g := gb507) (z1_ BK507.out) hb); have n1_ := Aside0.mk (blk_below (g := gb519) (z1_ BK519.out) hb); have n2_ := Aside0.mk (blk_below (g := gb525) (z1_ BK525.out) hb); have n3_ := Aside0.mk (blk_below (g := gb533) (z1_ BK533.out) hb); have n4_ := Aside0.mk (blk_below (g := gb541) (z1_ BK541.out) hb); have n5_ := Aside0.mk (below_step (z3_ HB.out) hb); clear BK507; clear BK519; clear BK525; clear BK533; clear BK541; clear HB; have BK507 := n0_; have BK519 := n1_; have BK525 := n2_; have BK533 := n3_; have BK541 := n4_; have HB := n5_; clear n0_ n1_ n2_ n3_ n4_ n5_; (try clear hb); (try clear hb2); (try clear hk); (try clear hi)) | ((with_reducible refine gate_callee (f := 26) rfl ?_); refine goesL_ (some 126) rfl rfl Try.func26 (by kernel_rfl) rfl #[.int .i64 (wrap64 (a0 - 1))] rfl z5_ ?_; (with_reducible refine (vernierref05_Power.calls kj45 (wrap64 (a0 - 1)) t548 _ A85.out).mono ?_); rintro e w' ⟨rfl, ⟨nd, rfl⟩⟩; refine ⟨_, rfl, ?_⟩))
             go_ret
             exact ⟨by first | rfl | (simp [errW_none, errW_some] <;> rfl) | (simp only [← hji33, ← hji35, ← hji36, ← hji38, ← hji41]; first | rfl | (simp [errW_none, errW_some] <;> rfl)) | (simp [*, errW_none, errW_some] <;> rfl), by repeat (first | (with_reducible first | exact HB.out | apply below_alloc | apply pw_below_drewN | apply below_drew1 | refine below_set ?_ GE507.out | refine below_set ?_ GE519.out | refine below_set ?_ GE525.out | refine below_set ?_ GE533.out | refine below_set ?_ GE541.out) | exact HB.out)⟩
        ·rw [if_neg c37] at H
         exact absurd H (by simp)
       ·rw [if_neg c34] at H
        exact absurd H (by simp)
def vernierlaw07_RoundTies.Pure : Prop := ∀ (a0 : Int) (a1_0 : Int) (a1_1 : Bool) (a1_2 : Int) (a1_3 : Int) (a1_4 : Int) (a1_5 : Bool), (Lit.int .i64 a0).wf = true → (Lit.int .i64 a1_0).wf = true → (Lit.int .i64 a1_2).wf = true → (Lit.int .u64 a1_3).wf = true → (Lit.int .u64 a1_4).wf = true → ∃ k, vernierlaw07_RoundTies.f k a0 a1_0 a1_1 a1_2 a1_3 a1_4 a1_5 = some true
theorem vernierlaw07_RoundTies.walk (P : vernierlaw07_RoundTies.Pure) (a0 : Int) (a1_0 : Int) (a1_1 : Bool) (a1_2 : Int) (a1_3 : Int) (a1_4 : Int) (a1_5 : Bool) (w : World) (w0 : (Lit.int .i64 a0).wf = true) (w1_0 : (Lit.int .i64 a1_0).wf = true) (w1_2 : (Lit.int .i64 a1_2).wf = true) (w1_3 : (Lit.int .u64 a1_3).wf = true) (w1_4 : (Lit.int .u64 a1_4).wf = true) :
  Calls Try.prog 9 #[.int .i64 a0, .agg #[.int .i64 a1_0, .bool a1_1, .int .i64 a1_2, .int .u64 a1_3, .int .u64 a1_4, .bool a1_5]] w fun e w' => e = .returned (.bool true) ∧ Below w.heap.size w w' := by
 obtain ⟨k, h⟩ := P a0 a1_0 a1_1 a1_2 a1_3 a1_4 a1_5 w0 w1_0 w1_2 w1_3 w1_4
 refine (vernierlaw07_RoundTies.calls k a0 a1_0 a1_1 a1_2 a1_3 a1_4 a1_5 true w h).mono ?_
 rintro e w' ⟨rfl, hd⟩
 exact ⟨rfl, hd⟩
end Go.Proofs.Ytfegofnplcmacaa.PAll
namespace Go.Proofs.Ytfegofnplcmacaa.PAll
open Go.RowKit Go.Proofs.YtfegofnplcmacaaW.PrintWords Go.Proofs.YtfegofnplcmacaaW.PrintLast Go.Proofs.YtfegofnplcmacaaW.PrintMore
attribute [local go_sem] max2_int min2_int max_two min_two max_three min_three max_four min_four
set_option linter.unusedVariables false
set_option linter.unusedSimpArgs false
attribute [local go_sem high] eqA64
def twin_Norm.f (a0_0 : Int) (a0_1 : Int) : Option (Int × Int × Int) := if (a0_0 == 0 && (a0_1 == 0)) = true then (some (a0_0, a0_1, 0)) else ((twin_Len.f a0_0 a0_1).bind fun t316 => ((twin_shl.f a0_0 a0_1 (wrap64 (128 - t316))).bind fun bt317 => (some (bt317.1, bt317.2, wrap64 (128 - t316)))))
set_option maxHeartbeats 8000000 in
set_option maxRecDepth 100000 in
theorem twin_Norm.calls (a0_0 : Int) (a0_1 : Int) (r1 : Int) (r2 : Int) (r3 : Int) (w : World) (h : twin_Norm.f a0_0 a0_1 = some (r1, r2, r3)) :
  Calls Try.prog 43 #[.agg #[.int .u64 a0_0, .int .u64 a0_1]] w fun e w' => e = .returned (.tuple #[.agg #[.int .u64 r1, .int .u64 r2], .int .i64 r3]) ∧ Below w.heap.size w w' := by
 have hu64 := Try.underlying64
 have HB := Aside0.mk (Below.refl w.heap.size w)
 have H : (if (a0_0 == 0 && (a0_1 == 0)) = true then (some (a0_0, a0_1, 0)) else ((twin_Len.f a0_0 a0_1).bind fun t316 => ((twin_shl.f a0_0 a0_1 (wrap64 (128 - t316))).bind fun bt317 => (some (bt317.1, bt317.2, wrap64 (128 - t316)))))) = some (r1, r2, r3) := h
 clear h
 by_cases c2 : (a0_0 == 0 && (a0_1 == 0)) = true
 ·rw [if_pos c2] at H
  have c2b0 : (a0_0 == 0 && (a0_1 == 0)) = true := c2
  (try (have c2b1 : decide (a0_0 = 0 && (a0_1 == 0)) = true := by simpa using c2))
  (try (have c2b2 : (a0_0 == 0 && (a0_1 == 0)) = true := by simpa using c2))
  clear c2
  simp only [Option.some.injEq, Prod.mk.injEq] at H
  obtain ⟨rfl, rfl, rfl⟩ := H
  go_enter Try.func43, Try.ntmps43
  go_wp2_with (first | ((with_reducible refine gate_dst (N := 1) rfl ?_); refine box_event ?hg (N := 1) ?hd (cs := #[.int .u64 a0_0, .int .u64 a0_1]) (t := 64) ?hr ?_; (case hd => rfl); (case hg => rfl); (case hr => first | (go_simp; done) | (go_simp; rfl)); intro gb314 hg w3 hbox hb; have n0_ := Aside0.mk (below_step (z3_ HB.out) hb); have n1_ := Aside0.mk (hbox); have n2_ := Aside0.mk ((by rw [hg]; exact (below_size (z3_ HB.out)) : w.heap.size ≤ gb314)); have n3_ := Aside0.mk ((by rw [hg]; exact (below_size (z3_ HB.out)) : w.heap.size ≤ gb314)); clear HB; have HB := n0_; have BK314 := n1_; have GW314 := n2_; have GE314 := n3_; clear n0_ n1_ n2_ n3_; clear hb hbox hg) | ((with_reducible refine gate_dst (N := 2) rfl ?_); refine box_event ?hg (N := 2) ?hd (cs := #[.int .u64 0, .int .u64 0]) (t := 64) ?hr ?_; (case hd => rfl); (case hg => rfl); (case hr => first | (go_simp; done) | (go_simp; rfl)); intro gb315 hg w4 hbox hb; have n0_ := Aside0.mk (blk_below (g := gb314) (z1_ BK314.out) hb); have n1_ := Aside0.mk (below_step (z3_ HB.out) hb); have n2_ := Aside0.mk (hbox); have n3_ := Aside0.mk ((by rw [hg]; exact (below_size (z3_ HB.out)) : w.heap.size ≤ gb315)); have n4_ := Aside0.mk ((by rw [hg]; exact (below_size (z3_ HB.out)) : w.heap.size ≤ gb315)); have n5_ := Aside0.mk ((by rw [hg]; exact Nat.ne_of_lt (blk_lt (g := gb314) (o := .cells #[.int .u64 a0_0, .int .u64 a0_1] 64 (0, 0)) (z1_ BK314.out)) : gb314 ≠ gb315)); have n6_ := Aside0.mk ((by rw [hg]; exact Nat.ne_of_gt (blk_lt (g := gb314) (o := .cells #[.int .u64 a0_0, .int .u64 a0_1] 64 (0, 0)) (z1_ BK314.out)) : gb315 ≠ gb314)); clear BK314; clear HB; have BK314 := n0_; have HB := n1_; have BK315 := n2_; have GW315 := n3_; have GE315 := n4_; have NB314_315 := n5_; have NB315_314 := n6_; clear n0_ n1_ n2_ n3_ n4_ n5_ n6_; clear hb hbox hg; have hnb5 := NB314_315.out; have hnc5 := NB315_314.out; have hcz6_0 := z4_ BK314.out 0 (.int .u64 a0_0) rfl; have hcz6_1 := z4_ BK314.out 1 (.int .u64 a0_1) rfl; have hfz6_0 := blk_frozen BK314.out 0; have hfz6_1 := blk_frozen BK314.out 1; have hcz7_0 := z4_ BK315.out 0 (.int .u64 0) rfl; have hcz7_1 := z4_ BK315.out 1 (.int .u64 0) rfl; have hfz7_0 := blk_frozen BK315.out 0; have hfz7_1 := blk_frozen BK315.out 1))
  refine bodyPost_ret (results_ct rfl _ _ gb315 64 #[.int .u64 a0_0, .int .u64 a0_1] (0, 0) _ rfl (by refine z2_ ?_; refine blk_put (cs := #[.int .u64 a0_0, .int .u64 0]) ?_ 1 _ rfl; refine z2_ ?_; refine blk_put (cs := #[.int .u64 0, .int .u64 0]) ?_ 0 _ rfl; refine z2_ ?_; exact BK315.out) Try.underlying64 rfl (by kernel_rfl)) rfl ?_
  exact ⟨by first | rfl | (simp [errW_none, errW_some] <;> rfl) | (simp [*, errW_none, errW_some] <;> rfl), by repeat (first | (with_reducible first | exact HB.out | apply below_alloc | apply pw_below_drewN | apply below_drew1 | refine below_set ?_ GE314.out | refine below_set ?_ GE315.out) | exact HB.out)⟩
 ·rw [if_neg c2] at H
  have c2b0 : (a0_0 == 0 && (a0_1 == 0)) = false := by simpa using c2
  (try (have c2b1 : decide (a0_0 = 0 && (a0_1 == 0)) = false := by simpa using c2))
  (try (have c2b2 : (a0_0 == 0 && (a0_1 == 0)) = false := by simpa using c2))
  (try (have c2b3 : ¬ (a0_0 = 0 && (a0_1 == 0)) := by simpa using c2))
  clear c2
  replace H := Option.bind_eq_some_iff.mp H
  obtain ⟨t316, A80, H⟩ := H
  replace H : ((twin_shl.f a0_0 a0_1 (wrap64 (128 - t316))).bind fun bt317 => (some (bt317.1, bt317.2, wrap64 (128 - t316)))) = some (r1, r2, r3) := H
  have A8 := Aside0.mk A80
  clear A80
  replace H := Option.bind_eq_some_iff.mp H
  obtain ⟨⟨t317, t318⟩, A90, H⟩ := H
  replace H : (some (t317, t318, wrap64 (128 - t316))) = some (r1, r2, r3) := H
  have A9 := Aside0.mk A90
  clear A90
  simp only [Option.some.injEq, Prod.mk.injEq] at H
  obtain ⟨rfl, rfl, rfl⟩ := H
  go_enter Try.func43, Try.ntmps43
  go_wp2_with (first | ((with_reducible refine gate_dst (N := 1) rfl ?_); refine box_event ?hg (N := 1) ?hd (cs := #[.int .u64 a0_0, .int .u64 a0_1]) (t := 64) ?hr ?_; (case hd => rfl); (case hg => rfl); (case hr => first | (go_simp; done) | (go_simp; rfl)); intro gb314 hg w10 hbox hb; have n0_ := Aside0.mk (below_step (z3_ HB.out) hb); have n1_ := Aside0.mk (hbox); have n2_ := Aside0.mk ((by rw [hg]; exact (below_size (z3_ HB.out)) : w.heap.size ≤ gb314)); have n3_ := Aside0.mk ((by rw [hg]; exact (below_size (z3_ HB.out)) : w.heap.size ≤ gb314)); clear HB; have HB := n0_; have BK314 := n1_; have GW314 := n2_; have GE314 := n3_; clear n0_ n1_ n2_ n3_; clear hb hbox hg) | ((with_reducible refine gate_dst (N := 2) rfl ?_); refine box_event ?hg (N := 2) ?hd (cs := #[.int .u64 0, .int .u64 0]) (t := 64) ?hr ?_; (case hd => rfl); (case hg => rfl); (case hr => first | (go_simp; done) | (go_simp; rfl)); intro gb315 hg w11 hbox hb; have n0_ := Aside0.mk (blk_below (g := gb314) (z1_ BK314.out) hb); have n1_ := Aside0.mk (below_step (z3_ HB.out) hb); have n2_ := Aside0.mk (hbox); have n3_ := Aside0.mk ((by rw [hg]; exact (below_size (z3_ HB.out)) : w.heap.size ≤ gb315)); have n4_ := Aside0.mk ((by rw [hg]; exact (below_size (z3_ HB.out)) : w.heap.size ≤ gb315)); have n5_ := Aside0.mk ((by rw [hg]; exact Nat.ne_of_lt (blk_lt (g := gb314) (o := .cells #[.int .u64 a0_0, .int .u64 a0_1] 64 (0, 0)) (z1_ BK314.out)) : gb314 ≠ gb315)); have n6_ := Aside0.mk ((by rw [hg]; exact Nat.ne_of_gt (blk_lt (g := gb314) (o := .cells #[.int .u64 a0_0, .int .u64 a0_1] 64 (0, 0)) (z1_ BK314.out)) : gb315 ≠ gb314)); clear BK314; clear HB; have BK314 := n0_; have HB := n1_; have BK315 := n2_; have GW315 := n3_; have GE315 := n4_; have NB314_315 := n5_; have NB315_314 := n6_; clear n0_ n1_ n2_ n3_ n4_ n5_ n6_; clear hb hbox hg; have hnb12 := NB314_315.out; have hnc12 := NB315_314.out; have hcz13_0 := z4_ BK314.out 0 (.int .u64 a0_0) rfl; have hcz13_1 := z4_ BK314.out 1 (.int .u64 a0_1) rfl; have hfz13_0 := blk_frozen BK314.out 0; have hfz13_1 := blk_frozen BK314.out 1) | ((with_reducible refine gate_callee (f := 54) rfl ?_); refine goesL_ (some 10) rfl rfl Try.func54 (by kernel_rfl) rfl #[.agg #[.int .u64 a0_0, .int .u64 a0_1]] rfl z5_ ?_; (with_reducible refine (twin_Len.calls a0_0 a0_1 t316 _ A8.out).mono ?_); rintro e w14 ⟨rfl, hb⟩; refine ⟨_, rfl, ?_⟩; have n0_ := Aside0.mk (blk_below (g := gb314) (z1_ BK314.out) hb); have n1_ := Aside0.mk (blk_below (g := gb315) (z1_ BK315.out) hb); have n2_ := Aside0.mk (below_step (z3_ HB.out) hb); clear BK314; clear BK315; clear HB; have BK314 := n0_; have BK315 := n1_; have HB := n2_; clear n0_ n1_ n2_; (try clear hb); (try clear hb2); (try clear hk); (try clear hi); have hcz15_0 := z4_ BK314.out 0 (.int .u64 a0_0) rfl; have hcz15_1 := z4_ BK314.out 1 (.int .u64 a0_1) rfl; have hfz15_0 := blk_frozen BK314.out 0; have hfz15_1 := blk_frozen BK314.out 1) | ((with_reducible refine gate_callee (f := 53) rfl ?_); refine goesL_ (some 14) rfl rfl Try.func53 (by kernel_rfl) rfl #[.agg #[.int .u64 a0_0, .int .u64 a0_1], .int .i64 (wrap64 (128 - t316))] rfl z5_ ?_; (with_reducible refine (twin_shl.calls a0_0 a0_1 (wrap64 (128 - t316)) t317 t318 _ A9.out).mono ?_); rintro e w16 ⟨rfl, hb⟩; refine ⟨_, rfl, ?_⟩; have n0_ := Aside0.mk (blk_below (g := gb314) (z1_ BK314.out) hb); have n1_ := Aside0.mk (blk_below (g := gb315) (z1_ BK315.out) hb); have n2_ := Aside0.mk (below_step (z3_ HB.out) hb); clear BK314; clear BK315; clear HB; have BK314 := n0_; have BK315 := n1_; have HB := n2_; clear n0_ n1_ n2_; (try clear hb); (try clear hb2); (try clear hk); (try clear hi); have hcz17_0 := z4_ BK315.out 0 (.int .u64 0) rfl; have hcz17_1 := z4_ BK315.out 1 (.int .u64 0) rfl; have hfz17_0 := blk_frozen BK315.out 0; have hfz17_1 := blk_frozen BK315.out 1))
  refine bodyPost_ret (results_ct rfl _ _ gb315 64 #[.int .u64 t317, .int .u64 t318] (0, 0) _ rfl (by refine z2_ ?_; refine blk_put (cs := #[.int .u64 t317, .int .u64 0]) ?_ 1 _ rfl; refine z2_ ?_; refine blk_put (cs := #[.int .u64 0, .int .u64 0]) ?_ 0 _ rfl; refine z2_ ?_; exact BK315.out) Try.underlying64 rfl (by kernel_rfl)) rfl ?_
  exact ⟨by first | rfl | (simp [errW_none, errW_some] <;> rfl) | (simp [*, errW_none, errW_some] <;> rfl), by repeat (first | (with_reducible first | exact HB.out | apply below_alloc | apply pw_below_drewN | apply below_drew1 | refine below_set ?_ GE314.out | refine below_set ?_ GE315.out) | exact HB.out)⟩
end Go.Proofs.Ytfegofnplcmacaa.PAll
namespace Go.Proofs.Ytfegofnplcmacaa.V
open Go Go.RowKit Go.Proofs.YtfegofnplcmacaaW.PrintWords Go.Proofs.YtfegofnplcmacaaW.PrintLast Go.Proofs.YtfegofnplcmacaaW.PrintMore Go.Proofs.Ytfegofnplcmacaa.PAll
set_option linter.unusedVariables false
set_option linter.unusedSimpArgs false
theorem shl_hi (V k : Nat) (h : V < 2 ^ 128) (hk : k ≤ 64) :
    V * 2 ^ k % 2 ^ 128 / 2 ^ 64 = V / 2 ^ 64 * 2 ^ k % 2 ^ 64 + V % 2 ^ 64 / 2 ^ (64 - k) := by
  have s := pow_split hk
  have p1 := two_pos k
  have p2 := two_pos (64 - k)
  rw [show (2:Nat)^128 = 2^64 * 2^64 by decide, Nat.mod_mul_right_div_self]
  generalize hq : V / 2 ^ 64 = q
  generalize hr : V % 2 ^ 64 = r
  have hV : V = q * 2 ^ 64 + r := by subst hq hr; have := Nat.div_add_mod V (2^64); omega
  have hr' : r < 2 ^ 64 := by subst hr; exact Nat.mod_lt _ (two_pos 64)
  generalize hb : r / 2 ^ (64 - k) = b
  generalize hc : r % 2 ^ (64 - k) = c
  have hr2 : r = 2 ^ (64 - k) * b + c := by subst hb hc; exact (Nat.div_add_mod _ _).symm
  have hc' : c < 2 ^ (64 - k) := by subst hc; exact Nat.mod_lt _ p2
  have hb' : b < 2 ^ k := by subst hb; rw [Nat.div_lt_iff_lt_mul p2]; rw [s]; exact hr'
  have e : V * 2 ^ k = (q * 2 ^ k + b) * 2 ^ 64 + c * 2 ^ k := by
    rw [hV, hr2, ← s]; grind
  have hc2 : c * 2 ^ k < 2 ^ 64 := by
    rw [← s, Nat.mul_comm]; exact Nat.mul_lt_mul_of_pos_left hc' p1
  have d : V * 2 ^ k / 2 ^ 64 = q * 2 ^ k + b := by
    rw [e, Nat.add_comm, Nat.add_mul_div_right _ _ (two_pos 64), Nat.div_eq_of_lt hc2]; omega
  rw [d]
  have m1 : q * 2 ^ k % 2 ^ 64 = q % 2 ^ (64 - k) * 2 ^ k := by
    rw [← s, Nat.mul_comm (2 ^ k), Nat.mul_mod_mul_right]
  have m2 : q % 2 ^ (64 - k) * 2 ^ k + b < 2 ^ 64 := by
    have : q % 2 ^ (64 - k) + 1 ≤ 2 ^ (64 - k) := Nat.mod_lt _ p2
    have := Nat.mul_le_mul_right (2 ^ k) this
    rw [Nat.mul_comm (2 ^ (64 - k)), s, Nat.add_mul] at this
    omega
  rw [Nat.add_mod, m1, Nat.mod_eq_of_lt (Nat.lt_of_lt_of_le hb' (pow_le hk)), Nat.mod_eq_of_lt m2]
theorem twin_shl_eq (V k : Nat) (h : V < 2 ^ 128) (hk : k ≤ 128) :
    twin_shl.f (TH V) (TL V) (k : Int) = some (TH (V * 2 ^ k % 2 ^ 128), TL (V * 2 ^ k % 2 ^ 128)) := by
  unfold twin_shl.f
  have hT : V / 18446744073709551616 < 18446744073709551616 := by rw [p128] at h; omega
  have hL : V % 18446744073709551616 < 18446744073709551616 := by omega
  by_cases h64 : 64 ≤ k
  · rw [if_pos (by omega), w64 (by omega) (by omega), if_pos (by omega)]
    have e : ((k : Int) - 64) = ((k - 64 : Nat) : Int) := by omega
    rw [e]
    unfold TL TH
    rw [shl_nat _ _ (by omega)]
    have s : (2 : Nat) ^ k = 2 ^ 64 * 2 ^ (k - 64) := by rw [← Nat.pow_add]; congr 1; omega
    have g : V * 2 ^ k = V * 2 ^ (k - 64) * 18446744073709551616 := by rw [s, p64]; grind
    have g1 : V % 18446744073709551616 * 2 ^ (k - 64) % 18446744073709551616 = V * 2 ^ k % 2 ^ 128 / 18446744073709551616 := by
      rw [p128, mod128_hi, g, Nat.mul_div_cancel _ (by decide), Nat.mod_mul_mod]
    have g2 : V * 2 ^ k % 2 ^ 128 % 18446744073709551616 = 0 := by rw [g, p128]; omega
    rw [g1, g2]
    rfl
  · rw [if_neg (by omega), if_pos (by omega), w64 (by omega) (by omega), if_pos (by omega)]
    have e : (64 - (k : Int)) = ((64 - k : Nat) : Int) := by omega
    rw [e]
    unfold TL TH
    rw [shl_nat _ _ (by omega), shl_nat _ _ (by omega), shr_nat _ _ (by omega)]
    have hh := shl_hi V k h (by omega)
    have p2 := two_pos (64 - k)
    have s := pow_split (show k ≤ 64 by omega)
    rw [or_add _ _ k (Nat.mod_lt _ (by decide)) ?_ ?_ ?_]
    · congr 3
      · rw [← p64, hh]
      · rw [Nat.mod_mul_mod, p128]; omega
    · rw [← p64, ← s, Nat.mod_mul_right_mod, Nat.mul_mod_left]
    · rw [Nat.div_lt_iff_lt_mul p2, s, p64]; exact hL
    · exact Nat.lt_of_le_of_lt (Nat.div_le_self _ _) hL
theorem shr_lo (V k : Nat) (hk : k ≤ 64) : V / 2 ^ k % 2 ^ 64 = V % 2 ^ 64 / 2 ^ k + V / 2 ^ 64 * 2 ^ (64 - k) % 2 ^ 64 := by
  have s := pow_split hk
  have p1 := two_pos k
  have p2 := two_pos (64 - k)
  generalize hq : V / 2 ^ 64 = q
  generalize hr : V % 2 ^ 64 = r
  have hV : V = q * 2 ^ 64 + r := by subst hq hr; have := Nat.div_add_mod V (2^64); omega
  have hr' : r < 2 ^ 64 := by subst hr; exact Nat.mod_lt _ (two_pos 64)
  have e : V / 2 ^ k = r / 2 ^ k + q * 2 ^ (64 - k) := by
    rw [hV, ← s, show q * (2 ^ k * 2 ^ (64 - k)) + r = r + q * 2 ^ (64 - k) * 2 ^ k by grind, Nat.add_mul_div_right _ _ p1]
  have hb : r / 2 ^ k < 2 ^ (64 - k) := by rw [Nat.div_lt_iff_lt_mul p1, Nat.mul_comm, s]; exact hr'
  have m1 : q * 2 ^ (64 - k) % 2 ^ 64 = q % 2 ^ k * 2 ^ (64 - k) := by
    rw [← s, Nat.mul_mod_mul_right]
  have m2 : r / 2 ^ k + q % 2 ^ k * 2 ^ (64 - k) < 2 ^ 64 := by
    have : q % 2 ^ k + 1 ≤ 2 ^ k := Nat.mod_lt _ p1
    have := Nat.mul_le_mul_right (2 ^ (64 - k)) this
    rw [s, Nat.add_mul] at this
    omega
  rw [e, Nat.add_mod, m1, Nat.mod_eq_of_lt (Nat.lt_of_lt_of_le hb (pow_le (by omega))), Nat.mod_eq_of_lt m2]
theorem twin_shr_eq (V k : Nat) (h : V < 2 ^ 128) (hk : k ≤ 128) :
    twin_shr.f (TH V) (TL V) (k : Int) = some (TH (V / 2 ^ k), TL (V / 2 ^ k)) := by
  unfold twin_shr.f
  have hT : V / 18446744073709551616 < 18446744073709551616 := by rw [p128] at h; omega
  have hL : V % 18446744073709551616 < 18446744073709551616 := by omega
  by_cases h64 : 64 ≤ k
  · rw [if_pos (by omega), w64 (by omega) (by omega), if_pos (by omega)]
    have e : ((k : Int) - 64) = ((k - 64 : Nat) : Int) := by omega
    rw [e]
    unfold TL TH
    rw [shr_nat _ _ (by omega)]
    have s : (2 : Nat) ^ k = 2 ^ 64 * 2 ^ (k - 64) := by rw [← Nat.pow_add]; congr 1; omega
    have lt : V / 2 ^ k < 2 ^ 64 := by
      rw [s, ← Nat.div_div_eq_div_mul, p64]
      exact Nat.lt_of_le_of_lt (Nat.div_le_self _ _) hT
    rw [Nat.div_eq_of_lt (show V / 2 ^ k < 18446744073709551616 by rw [← p64]; exact lt), Nat.mod_eq_of_lt (show V / 2 ^ k < 18446744073709551616 by rw [← p64]; exact lt), s, ← Nat.div_div_eq_div_mul, p64]
    rfl
  · rw [if_neg (by omega), if_pos (by omega), w64 (by omega) (by omega), if_pos (by omega)]
    have e : (64 - (k : Int)) = ((64 - k : Nat) : Int) := by omega
    rw [e]
    unfold TL TH
    rw [shr_nat _ _ (by omega), shr_nat _ _ (by omega), shl_nat _ _ (by omega)]
    have hh := shr_lo V k (by omega)
    have p1 := two_pos k
    have s := pow_split (show k ≤ 64 by omega)
    have hs : V % 18446744073709551616 / 2 ^ k < 2 ^ (64 - k) := by rw [Nat.div_lt_iff_lt_mul p1, Nat.mul_comm, s, p64]; exact hL
    have oc : Go.bits .or .u64 ((V % 18446744073709551616 / 2 ^ k : Nat) : Int) ((V / 18446744073709551616 * 2 ^ (64 - k) % 18446744073709551616 : Nat) : Int) = ((V % 18446744073709551616 / 2 ^ k + V / 18446744073709551616 * 2 ^ (64 - k) % 18446744073709551616 : Nat) : Int) := by
      rw [or_nat _ _ (Nat.lt_of_le_of_lt (Nat.div_le_self _ _) hL) (Nat.mod_lt _ (by decide)), Nat.or_comm]
      have e2 : V / 18446744073709551616 * 2 ^ (64 - k) % 18446744073709551616 = V / 18446744073709551616 % 2 ^ k * 2 ^ (64 - k) := by
        rw [← p64, ← s, Nat.mul_mod_mul_right]
      rw [e2, or_parts hs, Nat.add_comm]
    have g1 : V / 18446744073709551616 / 2 ^ k = V / 2 ^ k / 18446744073709551616 := by rw [Nat.div_div_eq_div_mul, Nat.div_div_eq_div_mul, Nat.mul_comm]
    rw [oc, g1, ← p64, hh]
theorem twin_Len_eq (V : Nat) (h : V < 2 ^ 128) : twin_Len.f (TH V) (TL V) = some ((bl V : Nat) : Int) := by
  unfold twin_Len.f bits_Len64.f TH TL
  have hT : V / 18446744073709551616 < 18446744073709551616 := by rw [p128] at h; omega
  have hL : V % 18446744073709551616 < 18446744073709551616 := by omega
  have c1 := bl_le_of_lt h
  by_cases h0 : 0 < V / 18446744073709551616
  · rw [if_pos (by omega), if_pos ⟨by omega, by omega⟩]
    simp only [Option.bind_some]
    have e : Lib.bitLen (V / 18446744073709551616) = bl (V / 18446744073709551616) := bitLen_bl (by rw [p64]; exact hT)
    have c2 := bl_le_of_lt (show V / 18446744073709551616 < 2 ^ 64 by rw [p64]; exact hT)
    have a := bl_lt (V / 18446744073709551616)
    have b := bl_le h0
    have c := bl_pos h0
    have l : bl V = 64 + bl (V / 18446744073709551616) := by
      refine bl_unique (by omega) ?_ ?_
      · rw [show 64 + bl (V / 18446744073709551616) - 1 = 64 + (bl (V / 18446744073709551616) - 1) by omega, Nat.pow_add, p64]
        have := Nat.div_mul_le_self V 18446744073709551616
        have := Nat.mul_le_mul_left 18446744073709551616 b
        omega
      · rw [Nat.pow_add, p64]
        have e := Nat.div_add_mod V 18446744073709551616
        have := Nat.mul_le_mul_left 18446744073709551616 a
        omega
    rw [Int.toNat_natCast, e, w64 (by omega) (by omega), l]
    congr 1
  · rw [if_neg (by omega), if_pos ⟨by omega, by omega⟩]
    simp only [Option.bind_some]
    rw [Int.toNat_natCast, bitLen_bl (by rw [p64]; exact hL)]
    have : V % 18446744073709551616 = V := by omega
    rw [this]
theorem twin_Shl_eq (V k : Nat) (h : V < 2 ^ 128) (hk : k ≤ 128) :
    twin_Shl.f (TH V) (TL V) (k : Int) = some (TH (V * 2 ^ k % 2 ^ 128), TL (V * 2 ^ k % 2 ^ 128), decide (128 < bl V + k), none) := by
  unfold twin_Shl.f
  rw [if_neg (by omega)]
  have e : mn (k : Int) 128 = k := by unfold mn; rw [if_neg (by omega)]
  rw [e, twin_shl_eq V k h hk]
  simp only [Option.bind_some]
  rw [twin_Len_eq V h]
  simp only [Option.bind_some]
  have c1 := bl_le_of_lt h
  rw [w64 (by omega) (by omega)]
  congr 4
  rw [decide_eq_decide]
  omega
theorem twin_Shr_eq (V k : Nat) (h : V < 2 ^ 128) (hk : k ≤ 128) :
    twin_Shr.f (TH V) (TL V) (k : Int) = some (TH (V / 2 ^ k), TL (V / 2 ^ k), decide (V % 2 ^ k ≠ 0), none) := by
  unfold twin_Shr.f
  rw [if_neg (by omega)]
  have e : mn (k : Int) 128 = k := by unfold mn; rw [if_neg (by omega)]
  rw [e, twin_shr_eq V k h hk]
  simp only [Option.bind_some]
  have h2 : V / 2 ^ k < 2 ^ 128 := Nat.lt_of_le_of_lt (Nat.div_le_self _ _) h
  rw [twin_shl_eq _ k h2 hk]
  simp only [Option.bind_some]
  have hm : V / 2 ^ k * 2 ^ k % 2 ^ 128 = V / 2 ^ k * 2 ^ k := Nat.mod_eq_of_lt (Nat.lt_of_le_of_lt (Nat.div_mul_le_self _ _) h)
  rw [hm]
  have hd := Nat.div_add_mod V (2 ^ k)
  rw [Nat.mul_comm] at hd
  have key : (!(TH (V / 2 ^ k * 2 ^ k) == TH V) || !(TL (V / 2 ^ k * 2 ^ k) == TL V)) = decide (V % 2 ^ k ≠ 0) := by
    by_cases hz : V % 2 ^ k = 0
    · have : V / 2 ^ k * 2 ^ k = V := by omega
      rw [this]; simp [hz]
    · have : V / 2 ^ k * 2 ^ k ≠ V := by omega
      have hne : ¬ (TH (V / 2 ^ k * 2 ^ k) = TH V ∧ TL (V / 2 ^ k * 2 ^ k) = TL V) := fun ⟨h1, h2⟩ => this (T_eq h1 h2)
      rw [decide_eq_true hz]
      by_cases h1 : TH (V / 2 ^ k * 2 ^ k) = TH V
      · have h2 : TL (V / 2 ^ k * 2 ^ k) ≠ TL V := fun h2 => hne ⟨h1, h2⟩
        simp [h1, h2]
      · simp [h1]
  rw [key]
end Go.Proofs.Ytfegofnplcmacaa.V
