/-
  No cell of these rows narrows 'for every input' (looked for: loops, veiled, ifaces, maps, wideKeys, modest, calm, conditions, laid).
  DERIVED. THE GIVEN ROWS OF THIS SEAT. 4 by the template 'for every input the law returns true; each argument reads behind the call as it read before'; 0 by the template 'total and deterministic' (their statements: YtkobihckebiheaaTotals.lean).
  GIVEN WITH THE SEED: the statements are not yours to turn. If you find one false, say at which input.
  Laid BY PROGRAM, IN A SANDBOX (cutbox-rows.mjs): the forced cells as the released guide's own fill.sh prints them over the translation 8907ce160c253c05… (all of the seat's roots in one cut). By AI agents, Wed Nov 11 2026. No macro, syntax, notation, axiom, sorry.
-/
import Derived.Test.YtkobihckebiheaaChecked
import GoSem.Claim
import GoSem.ClaimJoined
import GoSem.ClaimMapViews
import Derived.JoinedTies
import Derived.KernelRfl
namespace Go.Proofs.Ytkobihckebiheaa
/- THE CELL 'sum', in the pinned program and in every row, IS THE sha256 OF THE DUMP (.gsa) THAT YtkobihckebiheaaProg.lean LOADS. Nothing in Lean hashes anything: it is a label: what it is worth is what the hold of that sum in a sandbox is worth. -/
noncomputable def Try.pinned : Pinned := { name := "ytkobihckebiheaa", sum := "8907ce160c253c0503464b337aedee3053582f178cf9e34a30259f9353bce66e", checked := Try.checked }
namespace Rows
def none {H : Type} : Left H := { results := [], args := [] }

/-- 'vernierlaw12.RootExacts': WHATEVER THE INPUT: true; the input reads as it did. -/
def rootExactsSpec : ChangeSpec := { name := "rootExacts", fn := fun _ => fun
  | [d] => { results := [.lit (.bool true)], args := [d] }
  | _ => none }
def rootExactsRow : OpenClaim := { program := "ytkobihckebiheaa", sum := "8907ce160c253c0503464b337aedee3053582f178cf9e34a30259f9353bce66e", func := "vernier/vernierlaw12.RootExacts", spec := "rootExacts", inPlace := ["math/bits.Sub64"], apart := false }
def RootExactsSaid : Prop := rootExactsRow.holds Try.pinned (OpenSpec.ofChange rootExactsSpec)

/-- ITS FALSE NEIGHBOUR: 'it returns false'. Refute it at one input. -/
def rootExactsWrong : ChangeSpec := { name := "rootExacts", fn := fun _ => fun
  | [d] => { results := [.lit (.bool false)], args := [d] }
  | _ => none }
def RootExactsWrongFalsely : Prop := rootExactsRow.holds Try.pinned (OpenSpec.ofChange rootExactsWrong)

/-- 'vernierlaw12.RootSqrts': WHATEVER THE INPUT: true; the input reads as it did. -/
def rootSqrtsSpec : ChangeSpec := { name := "rootSqrts", fn := fun _ => fun
  | [d1, d2] => { results := [.lit (.bool true)], args := [d1, d2] }
  | _ => none }
def rootSqrtsRow : OpenClaim := { program := "ytkobihckebiheaa", sum := "8907ce160c253c0503464b337aedee3053582f178cf9e34a30259f9353bce66e", func := "vernier/vernierlaw12.RootSqrts", spec := "rootSqrts", inPlace := ["math/bits.Sub64"], apart := false }
def RootSqrtsSaid : Prop := rootSqrtsRow.holds Try.pinned (OpenSpec.ofChange rootSqrtsSpec)

/-- ITS FALSE NEIGHBOUR: 'it returns false'. Refute it at one input. -/
def rootSqrtsWrong : ChangeSpec := { name := "rootSqrts", fn := fun _ => fun
  | [d1, d2] => { results := [.lit (.bool false)], args := [d1, d2] }
  | _ => none }
def RootSqrtsWrongFalsely : Prop := rootSqrtsRow.holds Try.pinned (OpenSpec.ofChange rootSqrtsWrong)

/-- 'vernierlaw12.RootRises': WHATEVER THE INPUT: true; the input reads as it did. -/
def rootRisesSpec : ChangeSpec := { name := "rootRises", fn := fun _ => fun
  | [d1, d2, d3] => { results := [.lit (.bool true)], args := [d1, d2, d3] }
  | _ => none }
def rootRisesRow : OpenClaim := { program := "ytkobihckebiheaa", sum := "8907ce160c253c0503464b337aedee3053582f178cf9e34a30259f9353bce66e", func := "vernier/vernierlaw12.RootRises", spec := "rootRises", inPlace := ["math/bits.Sub64"], apart := false }
def RootRisesSaid : Prop := rootRisesRow.holds Try.pinned (OpenSpec.ofChange rootRisesSpec)

/-- ITS FALSE NEIGHBOUR: 'it returns false'. Refute it at one input. -/
def rootRisesWrong : ChangeSpec := { name := "rootRises", fn := fun _ => fun
  | [d1, d2, d3] => { results := [.lit (.bool false)], args := [d1, d2, d3] }
  | _ => none }
def RootRisesWrongFalsely : Prop := rootRisesRow.holds Try.pinned (OpenSpec.ofChange rootRisesWrong)

/-- 'vernierlaw12.RootSquares': WHATEVER THE INPUT: true; the input reads as it did. -/
def rootSquaresSpec : ChangeSpec := { name := "rootSquares", fn := fun _ => fun
  | [d1, d2] => { results := [.lit (.bool true)], args := [d1, d2] }
  | _ => none }
def rootSquaresRow : OpenClaim := { program := "ytkobihckebiheaa", sum := "8907ce160c253c0503464b337aedee3053582f178cf9e34a30259f9353bce66e", func := "vernier/vernierlaw12.RootSquares", spec := "rootSquares", inPlace := ["math/bits.Sub64"], apart := false }
def RootSquaresSaid : Prop := rootSquaresRow.holds Try.pinned (OpenSpec.ofChange rootSquaresSpec)

/-- ITS FALSE NEIGHBOUR: 'it returns false'. Refute it at one input. -/
def rootSquaresWrong : ChangeSpec := { name := "rootSquares", fn := fun _ => fun
  | [d1, d2] => { results := [.lit (.bool false)], args := [d1, d2] }
  | _ => none }
def RootSquaresWrongFalsely : Prop := rootSquaresRow.holds Try.pinned (OpenSpec.ofChange rootSquaresWrong)

/- THE SECOND FORM. 'bulk': how many values and letters a reading holds, each counted each time it is reached (what is shared counts as often as it is met; a slice's spare places count too). A statement '..UptoSaid' is the law's where the arguments, and the package variables that the reading takes, are together of bulk at most 1048576: NARROWER than '..Said'. Prove '..Said' where nothing that the law and all that it calls make is longer than what came in: it says more and counts as full. Else prove '..UptoSaid'. A law counts once. -/
mutual
def uptoBulk {H : Type} : DataW H → Nat
  | .lit (.string bytes) => bytes.length + 1
  | .lit _ => 1
  | .nil => 1
  | .ptr d => uptoBulk d + 1
  | .slice elems spare => uptoBulkAll elems + uptoBulkAll spare + 1
  | .agg parts => uptoBulkAll parts + 1
  | .iface _ d => uptoBulk d + 1
  | .map entries => uptoBulkEntries entries + 1
  | .held _ => 1
def uptoBulkAll {H : Type} : List (DataW H) → Nat
  | [] => 0
  | d :: r => uptoBulk d + uptoBulkAll r
def uptoBulkEntries {H : Type} : List (Lit × DataW H) → Nat
  | [] => 0
  | x :: r => uptoBulkEntry x + uptoBulkEntries r
def uptoBulkEntry {H : Type} : Lit × DataW H → Nat
  | (.string bytes, d) => bytes.length + uptoBulk d + 1
  | (_, d) => uptoBulk d + 1
 end
def uptoSmall : (H : Type) → List (DataW H) → Bool := fun _ ds => decide (uptoBulkAll ds ≤ 1048576)
def OpenSpec.upto (s : _root_.Go.ChangeSpec) : _root_.Go.OpenSpec := { _root_.Go.OpenSpec.ofChange s with cond := some uptoSmall }

/-- 'vernierlaw12.RootExacts', WHERE WHAT IT READS IS OF BULK AT MOST 1048576: true; the input reads as it did. -/
def rootExactsUptoRow : OpenClaim := { program := "ytkobihckebiheaa", sum := "8907ce160c253c0503464b337aedee3053582f178cf9e34a30259f9353bce66e", func := "vernier/vernierlaw12.RootExacts", spec := "rootExacts", inPlace := ["math/bits.Sub64"], apart := false, narrowed := true }
def RootExactsUptoSaid : Prop := rootExactsUptoRow.holds Try.pinned (OpenSpec.upto rootExactsSpec)

/-- 'vernierlaw12.RootSqrts', WHERE WHAT IT READS IS OF BULK AT MOST 1048576: true; the input reads as it did. -/
def rootSqrtsUptoRow : OpenClaim := { program := "ytkobihckebiheaa", sum := "8907ce160c253c0503464b337aedee3053582f178cf9e34a30259f9353bce66e", func := "vernier/vernierlaw12.RootSqrts", spec := "rootSqrts", inPlace := ["math/bits.Sub64"], apart := false, narrowed := true }
def RootSqrtsUptoSaid : Prop := rootSqrtsUptoRow.holds Try.pinned (OpenSpec.upto rootSqrtsSpec)

/-- 'vernierlaw12.RootRises', WHERE WHAT IT READS IS OF BULK AT MOST 1048576: true; the input reads as it did. -/
def rootRisesUptoRow : OpenClaim := { program := "ytkobihckebiheaa", sum := "8907ce160c253c0503464b337aedee3053582f178cf9e34a30259f9353bce66e", func := "vernier/vernierlaw12.RootRises", spec := "rootRises", inPlace := ["math/bits.Sub64"], apart := false, narrowed := true }
def RootRisesUptoSaid : Prop := rootRisesUptoRow.holds Try.pinned (OpenSpec.upto rootRisesSpec)

/-- 'vernierlaw12.RootSquares', WHERE WHAT IT READS IS OF BULK AT MOST 1048576: true; the input reads as it did. -/
def rootSquaresUptoRow : OpenClaim := { program := "ytkobihckebiheaa", sum := "8907ce160c253c0503464b337aedee3053582f178cf9e34a30259f9353bce66e", func := "vernier/vernierlaw12.RootSquares", spec := "rootSquares", inPlace := ["math/bits.Sub64"], apart := false, narrowed := true }
def RootSquaresUptoSaid : Prop := rootSquaresUptoRow.holds Try.pinned (OpenSpec.upto rootSquaresSpec)

end Rows
end Go.Proofs.Ytkobihckebiheaa
