/-
  No cell of these rows narrows 'for every input' (looked for: loops, veiled, ifaces, maps, wideKeys, modest, calm, conditions, laid).
  DERIVED. THE GIVEN ROWS OF THIS SEAT. 5 by the template 'for every input the law returns true; each argument reads behind the call as it read before'; 0 by the template 'total and deterministic' (their statements: YtodnfniddkcioaaTotals.lean).
  GIVEN WITH THE SEED: the statements are not yours to turn. If you find one false, say at which input.
  Laid BY PROGRAM, IN A SANDBOX (cutbox-rows.mjs): the forced cells as the released guide's own fill.sh prints them over the translation 3b3563cfce6d4c08… (all of the seat's roots in one cut). By AI agents, Wed Nov 11 2026. No macro, syntax, notation, axiom, sorry.
-/
import Derived.Test.YtodnfniddkcioaaChecked
import GoSem.Claim
import GoSem.ClaimJoined
import GoSem.ClaimMapViews
import Derived.JoinedTies
import Derived.KernelRfl
namespace Go.Proofs.Ytodnfniddkcioaa
/- THE CELL 'sum', in the pinned program and in every row, IS THE sha256 OF THE DUMP (.gsa) THAT YtodnfniddkcioaaProg.lean LOADS. Nothing in Lean hashes anything: it is a label: what it is worth is what the hold of that sum in a sandbox is worth. -/
noncomputable def Try.pinned : Pinned := { name := "ytodnfniddkcioaa", sum := "3b3563cfce6d4c0875abb3cf28ab216a9b30d0dc0dc0575406212758096c0913", checked := Try.checked }
namespace Rows
def none {H : Type} : Left H := { results := [], args := [] }

/-- 'vernierlaw09.SumExacts': WHATEVER THE INPUT: true; the input reads as it did. -/
def sumExactsSpec : ChangeSpec := { name := "sumExacts", fn := fun _ => fun
  | [d1, d2] => { results := [.lit (.bool true)], args := [d1, d2] }
  | _ => none }
def sumExactsRow : OpenClaim := { program := "ytodnfniddkcioaa", sum := "3b3563cfce6d4c0875abb3cf28ab216a9b30d0dc0dc0575406212758096c0913", func := "vernier/vernierlaw09.SumExacts", spec := "sumExacts", inPlace := ["math/bits.Add64", "math/bits.Sub64"], recurses := true, apart := false }
def SumExactsSaid : Prop := sumExactsRow.holds Try.pinned (OpenSpec.ofChange sumExactsSpec)

/-- ITS FALSE NEIGHBOUR: 'it returns false'. Refute it at one input. -/
def sumExactsWrong : ChangeSpec := { name := "sumExacts", fn := fun _ => fun
  | [d1, d2] => { results := [.lit (.bool false)], args := [d1, d2] }
  | _ => none }
def SumExactsWrongFalsely : Prop := sumExactsRow.holds Try.pinned (OpenSpec.ofChange sumExactsWrong)

/-- 'vernierlaw09.SumAdds': WHATEVER THE INPUT: true; the input reads as it did. -/
def sumAddsSpec : ChangeSpec := { name := "sumAdds", fn := fun _ => fun
  | [d1, d2, d3] => { results := [.lit (.bool true)], args := [d1, d2, d3] }
  | _ => none }
def sumAddsRow : OpenClaim := { program := "ytodnfniddkcioaa", sum := "3b3563cfce6d4c0875abb3cf28ab216a9b30d0dc0dc0575406212758096c0913", func := "vernier/vernierlaw09.SumAdds", spec := "sumAdds", inPlace := ["math/bits.Add64", "math/bits.Sub64"], recurses := true, apart := false }
def SumAddsSaid : Prop := sumAddsRow.holds Try.pinned (OpenSpec.ofChange sumAddsSpec)

/-- ITS FALSE NEIGHBOUR: 'it returns false'. Refute it at one input. -/
def sumAddsWrong : ChangeSpec := { name := "sumAdds", fn := fun _ => fun
  | [d1, d2, d3] => { results := [.lit (.bool false)], args := [d1, d2, d3] }
  | _ => none }
def SumAddsWrongFalsely : Prop := sumAddsRow.holds Try.pinned (OpenSpec.ofChange sumAddsWrong)

/-- 'vernierlaw09.SumSubs': WHATEVER THE INPUT: true; the input reads as it did. -/
def sumSubsSpec : ChangeSpec := { name := "sumSubs", fn := fun _ => fun
  | [d1, d2, d3] => { results := [.lit (.bool true)], args := [d1, d2, d3] }
  | _ => none }
def sumSubsRow : OpenClaim := { program := "ytodnfniddkcioaa", sum := "3b3563cfce6d4c0875abb3cf28ab216a9b30d0dc0dc0575406212758096c0913", func := "vernier/vernierlaw09.SumSubs", spec := "sumSubs", inPlace := ["math/bits.Add64", "math/bits.Sub64"], recurses := true, apart := false }
def SumSubsSaid : Prop := sumSubsRow.holds Try.pinned (OpenSpec.ofChange sumSubsSpec)

/-- ITS FALSE NEIGHBOUR: 'it returns false'. Refute it at one input. -/
def sumSubsWrong : ChangeSpec := { name := "sumSubs", fn := fun _ => fun
  | [d1, d2, d3] => { results := [.lit (.bool false)], args := [d1, d2, d3] }
  | _ => none }
def SumSubsWrongFalsely : Prop := sumSubsRow.holds Try.pinned (OpenSpec.ofChange sumSubsWrong)

/-- 'vernierlaw09.SumLaws': WHATEVER THE INPUT: true; the input reads as it did. -/
def sumLawsSpec : ChangeSpec := { name := "sumLaws", fn := fun _ => fun
  | [d1, d2, d3] => { results := [.lit (.bool true)], args := [d1, d2, d3] }
  | _ => none }
def sumLawsRow : OpenClaim := { program := "ytodnfniddkcioaa", sum := "3b3563cfce6d4c0875abb3cf28ab216a9b30d0dc0dc0575406212758096c0913", func := "vernier/vernierlaw09.SumLaws", spec := "sumLaws", inPlace := ["math/bits.Add64", "math/bits.Sub64"], apart := false }
def SumLawsSaid : Prop := sumLawsRow.holds Try.pinned (OpenSpec.ofChange sumLawsSpec)

/-- ITS FALSE NEIGHBOUR: 'it returns false'. Refute it at one input. -/
def sumLawsWrong : ChangeSpec := { name := "sumLaws", fn := fun _ => fun
  | [d1, d2, d3] => { results := [.lit (.bool false)], args := [d1, d2, d3] }
  | _ => none }
def SumLawsWrongFalsely : Prop := sumLawsRow.holds Try.pinned (OpenSpec.ofChange sumLawsWrong)

/-- 'vernierlaw09.SumRises': WHATEVER THE INPUT: true; the input reads as it did. -/
def sumRisesSpec : ChangeSpec := { name := "sumRises", fn := fun _ => fun
  | [d1, d2, d3, d4] => { results := [.lit (.bool true)], args := [d1, d2, d3, d4] }
  | _ => none }
def sumRisesRow : OpenClaim := { program := "ytodnfniddkcioaa", sum := "3b3563cfce6d4c0875abb3cf28ab216a9b30d0dc0dc0575406212758096c0913", func := "vernier/vernierlaw09.SumRises", spec := "sumRises", inPlace := ["math/bits.Add64", "math/bits.Sub64"], apart := false }
def SumRisesSaid : Prop := sumRisesRow.holds Try.pinned (OpenSpec.ofChange sumRisesSpec)

/-- ITS FALSE NEIGHBOUR: 'it returns false'. Refute it at one input. -/
def sumRisesWrong : ChangeSpec := { name := "sumRises", fn := fun _ => fun
  | [d1, d2, d3, d4] => { results := [.lit (.bool false)], args := [d1, d2, d3, d4] }
  | _ => none }
def SumRisesWrongFalsely : Prop := sumRisesRow.holds Try.pinned (OpenSpec.ofChange sumRisesWrong)

/- THE SECOND FORM. 'bulk': how many values and letters a reading holds, each counted each time it is reached (what is shared counts as often as it is met; a slice's spare places count too). A statement '..UptoSaid' is the law's where the arguments, and the package variables that the reading takes, are together of bulk at most 1048576: NARROWER than '..Said'. Prove '..Said' where nothing that the law and all that it calls make is longer than what came in: it says more and counts as full. Else prove '..UptoSaid'. A law counts once. -/
mutual
def uptoBulk {H : Type} : DataW H → Nat
  | .lit (.string bytes) => bytes.length + 1
  | .lit _ => 1
  | .nil => 1
  | .ptr d => uptoBulk d + 1
  | .slice elems spare => uptoBulkAll elems + uptoBulkAll spare + 1
  | .agg parts => uptoBulkAll parts + 1
  | .iface _ d => uptoBulk d + 1
  | .map entries => uptoBulkEntries entries + 1
  | .held _ => 1
def uptoBulkAll {H : Type} : List (DataW H) → Nat
  | [] => 0
  | d :: r => uptoBulk d + uptoBulkAll r
def uptoBulkEntries {H : Type} : List (Lit × DataW H) → Nat
  | [] => 0
  | x :: r => uptoBulkEntry x + uptoBulkEntries r
def uptoBulkEntry {H : Type} : Lit × DataW H → Nat
  | (.string bytes, d) => bytes.length + uptoBulk d + 1
  | (_, d) => uptoBulk d + 1
 end
def uptoSmall : (H : Type) → List (DataW H) → Bool := fun _ ds => decide (uptoBulkAll ds ≤ 1048576)
def OpenSpec.upto (s : _root_.Go.ChangeSpec) : _root_.Go.OpenSpec := { _root_.Go.OpenSpec.ofChange s with cond := some uptoSmall }

/-- 'vernierlaw09.SumExacts', WHERE WHAT IT READS IS OF BULK AT MOST 1048576: true; the input reads as it did. -/
def sumExactsUptoRow : OpenClaim := { program := "ytodnfniddkcioaa", sum := "3b3563cfce6d4c0875abb3cf28ab216a9b30d0dc0dc0575406212758096c0913", func := "vernier/vernierlaw09.SumExacts", spec := "sumExacts", inPlace := ["math/bits.Add64", "math/bits.Sub64"], recurses := true, apart := false, narrowed := true }
def SumExactsUptoSaid : Prop := sumExactsUptoRow.holds Try.pinned (OpenSpec.upto sumExactsSpec)

/-- 'vernierlaw09.SumAdds', WHERE WHAT IT READS IS OF BULK AT MOST 1048576: true; the input reads as it did. -/
def sumAddsUptoRow : OpenClaim := { program := "ytodnfniddkcioaa", sum := "3b3563cfce6d4c0875abb3cf28ab216a9b30d0dc0dc0575406212758096c0913", func := "vernier/vernierlaw09.SumAdds", spec := "sumAdds", inPlace := ["math/bits.Add64", "math/bits.Sub64"], recurses := true, apart := false, narrowed := true }
def SumAddsUptoSaid : Prop := sumAddsUptoRow.holds Try.pinned (OpenSpec.upto sumAddsSpec)

/-- 'vernierlaw09.SumSubs', WHERE WHAT IT READS IS OF BULK AT MOST 1048576: true; the input reads as it did. -/
def sumSubsUptoRow : OpenClaim := { program := "ytodnfniddkcioaa", sum := "3b3563cfce6d4c0875abb3cf28ab216a9b30d0dc0dc0575406212758096c0913", func := "vernier/vernierlaw09.SumSubs", spec := "sumSubs", inPlace := ["math/bits.Add64", "math/bits.Sub64"], recurses := true, apart := false, narrowed := true }
def SumSubsUptoSaid : Prop := sumSubsUptoRow.holds Try.pinned (OpenSpec.upto sumSubsSpec)

/-- 'vernierlaw09.SumLaws', WHERE WHAT IT READS IS OF BULK AT MOST 1048576: true; the input reads as it did. -/
def sumLawsUptoRow : OpenClaim := { program := "ytodnfniddkcioaa", sum := "3b3563cfce6d4c0875abb3cf28ab216a9b30d0dc0dc0575406212758096c0913", func := "vernier/vernierlaw09.SumLaws", spec := "sumLaws", inPlace := ["math/bits.Add64", "math/bits.Sub64"], apart := false, narrowed := true }
def SumLawsUptoSaid : Prop := sumLawsUptoRow.holds Try.pinned (OpenSpec.upto sumLawsSpec)

/-- 'vernierlaw09.SumRises', WHERE WHAT IT READS IS OF BULK AT MOST 1048576: true; the input reads as it did. -/
def sumRisesUptoRow : OpenClaim := { program := "ytodnfniddkcioaa", sum := "3b3563cfce6d4c0875abb3cf28ab216a9b30d0dc0dc0575406212758096c0913", func := "vernier/vernierlaw09.SumRises", spec := "sumRises", inPlace := ["math/bits.Add64", "math/bits.Sub64"], apart := false, narrowed := true }
def SumRisesUptoSaid : Prop := sumRisesUptoRow.holds Try.pinned (OpenSpec.upto sumRisesSpec)

end Rows
end Go.Proofs.Ytodnfniddkcioaa
