/-
  No cell of these rows narrows 'for every input' (looked for: loops, veiled, ifaces, maps, wideKeys, modest, calm, conditions, laid).
  DERIVED. THE GIVEN ROWS OF THIS SEAT. 5 by the template 'for every input the law returns true; each argument reads behind the call as it read before'; 0 by the template 'total and deterministic' (their statements: YtgcihaapajbdbaaTotals.lean).
  GIVEN WITH THE SEED: the statements are not yours to turn. If you find one false, say at which input.
  Laid BY PROGRAM, IN A SANDBOX (cutbox-rows.mjs): the forced cells as the released guide's own fill.sh prints them over the translation 0ed183c186334f68… (all of the seat's roots in one cut). By AI agents, Wed Nov 11 2026. No macro, syntax, notation, axiom, sorry.
-/
import Derived.Test.YtgcihaapajbdbaaChecked
import GoSem.Claim
import GoSem.ClaimJoined
import GoSem.ClaimMapViews
import Derived.JoinedTies
import Derived.KernelRfl
namespace Go.Proofs.Ytgcihaapajbdbaa
/- THE CELL 'sum', in the pinned program and in every row, IS THE sha256 OF THE DUMP (.gsa) THAT YtgcihaapajbdbaaProg.lean LOADS. Nothing in Lean hashes anything: it is a label: what it is worth is what the hold of that sum in a sandbox is worth. -/
noncomputable def Try.pinned : Pinned := { name := "ytgcihaapajbdbaa", sum := "0ed183c186334f687bf8cffa7cd86923e0bcec567f6a8b40b84fab1407930ec6", checked := Try.checked }
namespace Rows
def none {H : Type} : Left H := { results := [], args := [] }

/-- 'vernierlaw11.QuotExacts': WHATEVER THE INPUT: true; the input reads as it did. -/
def quotExactsSpec : ChangeSpec := { name := "quotExacts", fn := fun _ => fun
  | [d1, d2] => { results := [.lit (.bool true)], args := [d1, d2] }
  | _ => none }
def quotExactsRow : OpenClaim := { program := "ytgcihaapajbdbaa", sum := "0ed183c186334f687bf8cffa7cd86923e0bcec567f6a8b40b84fab1407930ec6", func := "vernier/vernierlaw11.QuotExacts", spec := "quotExacts", named := ["math/bits.divideError", "math/bits.overflowError"], apart := false }
def QuotExactsSaid : Prop := quotExactsRow.holds Try.pinned (OpenSpec.ofChange quotExactsSpec)

/-- ITS FALSE NEIGHBOUR: 'it returns false'. Refute it at one input. -/
def quotExactsWrong : ChangeSpec := { name := "quotExacts", fn := fun _ => fun
  | [d1, d2] => { results := [.lit (.bool false)], args := [d1, d2] }
  | _ => none }
def QuotExactsWrongFalsely : Prop := quotExactsRow.holds Try.pinned (OpenSpec.ofChange quotExactsWrong)

/-- 'vernierlaw11.QuotDivs': WHATEVER THE INPUT: true; the input reads as it did. -/
def quotDivsSpec : ChangeSpec := { name := "quotDivs", fn := fun _ => fun
  | [d1, d2, d3] => { results := [.lit (.bool true)], args := [d1, d2, d3] }
  | _ => none }
def quotDivsRow : OpenClaim := { program := "ytgcihaapajbdbaa", sum := "0ed183c186334f687bf8cffa7cd86923e0bcec567f6a8b40b84fab1407930ec6", func := "vernier/vernierlaw11.QuotDivs", spec := "quotDivs", named := ["math/bits.divideError", "math/bits.overflowError"], apart := false }
def QuotDivsSaid : Prop := quotDivsRow.holds Try.pinned (OpenSpec.ofChange quotDivsSpec)

/-- ITS FALSE NEIGHBOUR: 'it returns false'. Refute it at one input. -/
def quotDivsWrong : ChangeSpec := { name := "quotDivs", fn := fun _ => fun
  | [d1, d2, d3] => { results := [.lit (.bool false)], args := [d1, d2, d3] }
  | _ => none }
def QuotDivsWrongFalsely : Prop := quotDivsRow.holds Try.pinned (OpenSpec.ofChange quotDivsWrong)

/-- 'vernierlaw11.QuotLaws': WHATEVER THE INPUT: true; the input reads as it did. -/
def quotLawsSpec : ChangeSpec := { name := "quotLaws", fn := fun _ => fun
  | [d1, d2, d3] => { results := [.lit (.bool true)], args := [d1, d2, d3] }
  | _ => none }
def quotLawsRow : OpenClaim := { program := "ytgcihaapajbdbaa", sum := "0ed183c186334f687bf8cffa7cd86923e0bcec567f6a8b40b84fab1407930ec6", func := "vernier/vernierlaw11.QuotLaws", spec := "quotLaws", named := ["math/bits.divideError", "math/bits.overflowError"], apart := false }
def QuotLawsSaid : Prop := quotLawsRow.holds Try.pinned (OpenSpec.ofChange quotLawsSpec)

/-- ITS FALSE NEIGHBOUR: 'it returns false'. Refute it at one input. -/
def quotLawsWrong : ChangeSpec := { name := "quotLaws", fn := fun _ => fun
  | [d1, d2, d3] => { results := [.lit (.bool false)], args := [d1, d2, d3] }
  | _ => none }
def QuotLawsWrongFalsely : Prop := quotLawsRow.holds Try.pinned (OpenSpec.ofChange quotLawsWrong)

/-- 'vernierlaw11.QuotInvs': WHATEVER THE INPUT: true; the input reads as it did. -/
def quotInvsSpec : ChangeSpec := { name := "quotInvs", fn := fun _ => fun
  | [d1, d2] => { results := [.lit (.bool true)], args := [d1, d2] }
  | _ => none }
def quotInvsRow : OpenClaim := { program := "ytgcihaapajbdbaa", sum := "0ed183c186334f687bf8cffa7cd86923e0bcec567f6a8b40b84fab1407930ec6", func := "vernier/vernierlaw11.QuotInvs", spec := "quotInvs", named := ["math/bits.divideError", "math/bits.overflowError"], apart := false }
def QuotInvsSaid : Prop := quotInvsRow.holds Try.pinned (OpenSpec.ofChange quotInvsSpec)

/-- ITS FALSE NEIGHBOUR: 'it returns false'. Refute it at one input. -/
def quotInvsWrong : ChangeSpec := { name := "quotInvs", fn := fun _ => fun
  | [d1, d2] => { results := [.lit (.bool false)], args := [d1, d2] }
  | _ => none }
def QuotInvsWrongFalsely : Prop := quotInvsRow.holds Try.pinned (OpenSpec.ofChange quotInvsWrong)

/-- 'vernierlaw11.QuotTwos': WHATEVER THE INPUT: true; the input reads as it did. -/
def quotTwosSpec : ChangeSpec := { name := "quotTwos", fn := fun _ => fun
  | [d1, d2, d3] => { results := [.lit (.bool true)], args := [d1, d2, d3] }
  | _ => none }
def quotTwosRow : OpenClaim := { program := "ytgcihaapajbdbaa", sum := "0ed183c186334f687bf8cffa7cd86923e0bcec567f6a8b40b84fab1407930ec6", func := "vernier/vernierlaw11.QuotTwos", spec := "quotTwos", named := ["math/bits.divideError", "math/bits.overflowError"], apart := false }
def QuotTwosSaid : Prop := quotTwosRow.holds Try.pinned (OpenSpec.ofChange quotTwosSpec)

/-- ITS FALSE NEIGHBOUR: 'it returns false'. Refute it at one input. -/
def quotTwosWrong : ChangeSpec := { name := "quotTwos", fn := fun _ => fun
  | [d1, d2, d3] => { results := [.lit (.bool false)], args := [d1, d2, d3] }
  | _ => none }
def QuotTwosWrongFalsely : Prop := quotTwosRow.holds Try.pinned (OpenSpec.ofChange quotTwosWrong)

/- THE SECOND FORM. 'bulk': how many values and letters a reading holds, each counted each time it is reached (what is shared counts as often as it is met; a slice's spare places count too). A statement '..UptoSaid' is the law's where the arguments, and the package variables that the reading takes, are together of bulk at most 1048576: NARROWER than '..Said'. Prove '..Said' where nothing that the law and all that it calls make is longer than what came in: it says more and counts as full. Else prove '..UptoSaid'. A law counts once. -/
mutual
def uptoBulk {H : Type} : DataW H → Nat
  | .lit (.string bytes) => bytes.length + 1
  | .lit _ => 1
  | .nil => 1
  | .ptr d => uptoBulk d + 1
  | .slice elems spare => uptoBulkAll elems + uptoBulkAll spare + 1
  | .agg parts => uptoBulkAll parts + 1
  | .iface _ d => uptoBulk d + 1
  | .map entries => uptoBulkEntries entries + 1
  | .held _ => 1
def uptoBulkAll {H : Type} : List (DataW H) → Nat
  | [] => 0
  | d :: r => uptoBulk d + uptoBulkAll r
def uptoBulkEntries {H : Type} : List (Lit × DataW H) → Nat
  | [] => 0
  | x :: r => uptoBulkEntry x + uptoBulkEntries r
def uptoBulkEntry {H : Type} : Lit × DataW H → Nat
  | (.string bytes, d) => bytes.length + uptoBulk d + 1
  | (_, d) => uptoBulk d + 1
 end
def uptoSmall : (H : Type) → List (DataW H) → Bool := fun _ ds => decide (uptoBulkAll ds ≤ 1048576)
def OpenSpec.upto (s : _root_.Go.ChangeSpec) : _root_.Go.OpenSpec := { _root_.Go.OpenSpec.ofChange s with cond := some uptoSmall }

/-- 'vernierlaw11.QuotExacts', WHERE WHAT IT READS IS OF BULK AT MOST 1048576: true; the input reads as it did. -/
def quotExactsUptoRow : OpenClaim := { program := "ytgcihaapajbdbaa", sum := "0ed183c186334f687bf8cffa7cd86923e0bcec567f6a8b40b84fab1407930ec6", func := "vernier/vernierlaw11.QuotExacts", spec := "quotExacts", named := ["math/bits.divideError", "math/bits.overflowError"], apart := false, narrowed := true }
def QuotExactsUptoSaid : Prop := quotExactsUptoRow.holds Try.pinned (OpenSpec.upto quotExactsSpec)

/-- 'vernierlaw11.QuotDivs', WHERE WHAT IT READS IS OF BULK AT MOST 1048576: true; the input reads as it did. -/
def quotDivsUptoRow : OpenClaim := { program := "ytgcihaapajbdbaa", sum := "0ed183c186334f687bf8cffa7cd86923e0bcec567f6a8b40b84fab1407930ec6", func := "vernier/vernierlaw11.QuotDivs", spec := "quotDivs", named := ["math/bits.divideError", "math/bits.overflowError"], apart := false, narrowed := true }
def QuotDivsUptoSaid : Prop := quotDivsUptoRow.holds Try.pinned (OpenSpec.upto quotDivsSpec)

/-- 'vernierlaw11.QuotLaws', WHERE WHAT IT READS IS OF BULK AT MOST 1048576: true; the input reads as it did. -/
def quotLawsUptoRow : OpenClaim := { program := "ytgcihaapajbdbaa", sum := "0ed183c186334f687bf8cffa7cd86923e0bcec567f6a8b40b84fab1407930ec6", func := "vernier/vernierlaw11.QuotLaws", spec := "quotLaws", named := ["math/bits.divideError", "math/bits.overflowError"], apart := false, narrowed := true }
def QuotLawsUptoSaid : Prop := quotLawsUptoRow.holds Try.pinned (OpenSpec.upto quotLawsSpec)

/-- 'vernierlaw11.QuotInvs', WHERE WHAT IT READS IS OF BULK AT MOST 1048576: true; the input reads as it did. -/
def quotInvsUptoRow : OpenClaim := { program := "ytgcihaapajbdbaa", sum := "0ed183c186334f687bf8cffa7cd86923e0bcec567f6a8b40b84fab1407930ec6", func := "vernier/vernierlaw11.QuotInvs", spec := "quotInvs", named := ["math/bits.divideError", "math/bits.overflowError"], apart := false, narrowed := true }
def QuotInvsUptoSaid : Prop := quotInvsUptoRow.holds Try.pinned (OpenSpec.upto quotInvsSpec)

/-- 'vernierlaw11.QuotTwos', WHERE WHAT IT READS IS OF BULK AT MOST 1048576: true; the input reads as it did. -/
def quotTwosUptoRow : OpenClaim := { program := "ytgcihaapajbdbaa", sum := "0ed183c186334f687bf8cffa7cd86923e0bcec567f6a8b40b84fab1407930ec6", func := "vernier/vernierlaw11.QuotTwos", spec := "quotTwos", named := ["math/bits.divideError", "math/bits.overflowError"], apart := false, narrowed := true }
def QuotTwosUptoSaid : Prop := quotTwosUptoRow.holds Try.pinned (OpenSpec.upto quotTwosSpec)

end Rows
end Go.Proofs.Ytgcihaapajbdbaa
