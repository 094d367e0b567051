/-
  No cell of these rows narrows 'for every input' (looked for: loops, veiled, ifaces, maps, wideKeys, modest, calm, conditions, laid).
  DERIVED. THE GIVEN ROWS OF THIS SEAT. 4 by the template 'for every input the law returns true; each argument reads behind the call as it read before'; 0 by the template 'total and deterministic' (their statements: YtbpcfhhcoklinaaTotals.lean).
  GIVEN WITH THE SEED: the statements are not yours to turn. If you find one false, say at which input.
  Laid BY PROGRAM, IN A SANDBOX (cutbox-rows.mjs): the forced cells as the released guide's own fill.sh prints them over the translation 5efd93da8cdc0e5a… (all of the seat's roots in one cut). By AI agents, Wed Nov 11 2026. No macro, syntax, notation, axiom, sorry.
-/
import Derived.Test.YtbpcfhhcoklinaaChecked
import GoSem.Claim
import GoSem.ClaimJoined
import GoSem.ClaimMapViews
import Derived.JoinedTies
import Derived.KernelRfl
namespace Go.Proofs.Ytbpcfhhcoklinaa
/- THE CELL 'sum', in the pinned program and in every row, IS THE sha256 OF THE DUMP (.gsa) THAT YtbpcfhhcoklinaaProg.lean LOADS. Nothing in Lean hashes anything: it is a label: what it is worth is what the hold of that sum in a sandbox is worth. -/
noncomputable def Try.pinned : Pinned := { name := "ytbpcfhhcoklinaa", sum := "5efd93da8cdc0e5a7bd4db6fad6dff592651a7cd698a75c504e0d3bbd419c31a", checked := Try.checked }
namespace Rows
def none {H : Type} : Left H := { results := [], args := [] }

/-- 'vernierlaw20.VecSorts': WHATEVER THE INPUT: true; the input reads as it did. -/
def vecSortsSpec : ChangeSpec := { name := "vecSorts", fn := fun _ => fun
  | [d1, d2] => { results := [.lit (.bool true)], args := [d1, d2] }
  | _ => none }
def vecSortsRow : OpenClaim := { program := "ytbpcfhhcoklinaa", sum := "5efd93da8cdc0e5a7bd4db6fad6dff592651a7cd698a75c504e0d3bbd419c31a", func := "vernier/vernierlaw20.VecSorts", spec := "vecSorts", inPlace := ["math/bits.Sub64", "math/bits.Add64"], unfollowed := true, recurses := true, apart := false }
def VecSortsSaid : Prop := vecSortsRow.holds Try.pinned (OpenSpec.ofChange vecSortsSpec)

/-- ITS FALSE NEIGHBOUR: 'it returns false'. Refute it at one input. -/
def vecSortsWrong : ChangeSpec := { name := "vecSorts", fn := fun _ => fun
  | [d1, d2] => { results := [.lit (.bool false)], args := [d1, d2] }
  | _ => none }
def VecSortsWrongFalsely : Prop := vecSortsRow.holds Try.pinned (OpenSpec.ofChange vecSortsWrong)

/-- 'vernierlaw20.VecOrder': WHATEVER THE INPUT: true; the input reads as it did. -/
def vecOrderSpec : ChangeSpec := { name := "vecOrder", fn := fun _ => fun
  | [d1, d2, d3] => { results := [.lit (.bool true)], args := [d1, d2, d3] }
  | _ => none }
def vecOrderRow : OpenClaim := { program := "ytbpcfhhcoklinaa", sum := "5efd93da8cdc0e5a7bd4db6fad6dff592651a7cd698a75c504e0d3bbd419c31a", func := "vernier/vernierlaw20.VecOrder", spec := "vecOrder", inPlace := ["math/bits.Sub64", "math/bits.Add64"], unfollowed := true, recurses := true, apart := false }
def VecOrderSaid : Prop := vecOrderRow.holds Try.pinned (OpenSpec.ofChange vecOrderSpec)

/-- ITS FALSE NEIGHBOUR: 'it returns false'. Refute it at one input. -/
def vecOrderWrong : ChangeSpec := { name := "vecOrder", fn := fun _ => fun
  | [d1, d2, d3] => { results := [.lit (.bool false)], args := [d1, d2, d3] }
  | _ => none }
def VecOrderWrongFalsely : Prop := vecOrderRow.holds Try.pinned (OpenSpec.ofChange vecOrderWrong)

/-- 'vernierlaw20.VecParts': WHATEVER THE INPUT: true; the input reads as it did. -/
def vecPartsSpec : ChangeSpec := { name := "vecParts", fn := fun _ => fun
  | [d1, d2, d3] => { results := [.lit (.bool true)], args := [d1, d2, d3] }
  | _ => none }
def vecPartsRow : OpenClaim := { program := "ytbpcfhhcoklinaa", sum := "5efd93da8cdc0e5a7bd4db6fad6dff592651a7cd698a75c504e0d3bbd419c31a", func := "vernier/vernierlaw20.VecParts", spec := "vecParts", inPlace := ["math/bits.Sub64", "math/bits.Add64"], unfollowed := true, recurses := true, apart := false }
def VecPartsSaid : Prop := vecPartsRow.holds Try.pinned (OpenSpec.ofChange vecPartsSpec)

/-- ITS FALSE NEIGHBOUR: 'it returns false'. Refute it at one input. -/
def vecPartsWrong : ChangeSpec := { name := "vecParts", fn := fun _ => fun
  | [d1, d2, d3] => { results := [.lit (.bool false)], args := [d1, d2, d3] }
  | _ => none }
def VecPartsWrongFalsely : Prop := vecPartsRow.holds Try.pinned (OpenSpec.ofChange vecPartsWrong)

/-- 'vernierlaw20.VecFull': WHATEVER THE INPUT: true; the input reads as it did. -/
def vecFullSpec : ChangeSpec := { name := "vecFull", fn := fun _ => fun
  | [d1, d2, d3] => { results := [.lit (.bool true)], args := [d1, d2, d3] }
  | _ => none }
def vecFullRow : OpenClaim := { program := "ytbpcfhhcoklinaa", sum := "5efd93da8cdc0e5a7bd4db6fad6dff592651a7cd698a75c504e0d3bbd419c31a", func := "vernier/vernierlaw20.VecFull", spec := "vecFull", inPlace := ["math/bits.Sub64", "math/bits.Add64"], unfollowed := true, recurses := true, apart := false }
def VecFullSaid : Prop := vecFullRow.holds Try.pinned (OpenSpec.ofChange vecFullSpec)

/-- ITS FALSE NEIGHBOUR: 'it returns false'. Refute it at one input. -/
def vecFullWrong : ChangeSpec := { name := "vecFull", fn := fun _ => fun
  | [d1, d2, d3] => { results := [.lit (.bool false)], args := [d1, d2, d3] }
  | _ => none }
def VecFullWrongFalsely : Prop := vecFullRow.holds Try.pinned (OpenSpec.ofChange vecFullWrong)

/- THE SECOND FORM. 'bulk': how many values and letters a reading holds, each counted each time it is reached (what is shared counts as often as it is met; a slice's spare places count too). A statement '..UptoSaid' is the law's where the arguments, and the package variables that the reading takes, are together of bulk at most 1048576: NARROWER than '..Said'. Prove '..Said' where nothing that the law and all that it calls make is longer than what came in: it says more and counts as full. Else prove '..UptoSaid'. A law counts once. -/
mutual
def uptoBulk {H : Type} : DataW H → Nat
  | .lit (.string bytes) => bytes.length + 1
  | .lit _ => 1
  | .nil => 1
  | .ptr d => uptoBulk d + 1
  | .slice elems spare => uptoBulkAll elems + uptoBulkAll spare + 1
  | .agg parts => uptoBulkAll parts + 1
  | .iface _ d => uptoBulk d + 1
  | .map entries => uptoBulkEntries entries + 1
  | .held _ => 1
def uptoBulkAll {H : Type} : List (DataW H) → Nat
  | [] => 0
  | d :: r => uptoBulk d + uptoBulkAll r
def uptoBulkEntries {H : Type} : List (Lit × DataW H) → Nat
  | [] => 0
  | x :: r => uptoBulkEntry x + uptoBulkEntries r
def uptoBulkEntry {H : Type} : Lit × DataW H → Nat
  | (.string bytes, d) => bytes.length + uptoBulk d + 1
  | (_, d) => uptoBulk d + 1
 end
def uptoSmall : (H : Type) → List (DataW H) → Bool := fun _ ds => decide (uptoBulkAll ds ≤ 1048576)
def OpenSpec.upto (s : _root_.Go.ChangeSpec) : _root_.Go.OpenSpec := { _root_.Go.OpenSpec.ofChange s with cond := some uptoSmall }

/-- 'vernierlaw20.VecSorts', WHERE WHAT IT READS IS OF BULK AT MOST 1048576: true; the input reads as it did. -/
def vecSortsUptoRow : OpenClaim := { program := "ytbpcfhhcoklinaa", sum := "5efd93da8cdc0e5a7bd4db6fad6dff592651a7cd698a75c504e0d3bbd419c31a", func := "vernier/vernierlaw20.VecSorts", spec := "vecSorts", inPlace := ["math/bits.Sub64", "math/bits.Add64"], unfollowed := true, recurses := true, apart := false, narrowed := true }
def VecSortsUptoSaid : Prop := vecSortsUptoRow.holds Try.pinned (OpenSpec.upto vecSortsSpec)

/-- 'vernierlaw20.VecOrder', WHERE WHAT IT READS IS OF BULK AT MOST 1048576: true; the input reads as it did. -/
def vecOrderUptoRow : OpenClaim := { program := "ytbpcfhhcoklinaa", sum := "5efd93da8cdc0e5a7bd4db6fad6dff592651a7cd698a75c504e0d3bbd419c31a", func := "vernier/vernierlaw20.VecOrder", spec := "vecOrder", inPlace := ["math/bits.Sub64", "math/bits.Add64"], unfollowed := true, recurses := true, apart := false, narrowed := true }
def VecOrderUptoSaid : Prop := vecOrderUptoRow.holds Try.pinned (OpenSpec.upto vecOrderSpec)

/-- 'vernierlaw20.VecParts', WHERE WHAT IT READS IS OF BULK AT MOST 1048576: true; the input reads as it did. -/
def vecPartsUptoRow : OpenClaim := { program := "ytbpcfhhcoklinaa", sum := "5efd93da8cdc0e5a7bd4db6fad6dff592651a7cd698a75c504e0d3bbd419c31a", func := "vernier/vernierlaw20.VecParts", spec := "vecParts", inPlace := ["math/bits.Sub64", "math/bits.Add64"], unfollowed := true, recurses := true, apart := false, narrowed := true }
def VecPartsUptoSaid : Prop := vecPartsUptoRow.holds Try.pinned (OpenSpec.upto vecPartsSpec)

/-- 'vernierlaw20.VecFull', WHERE WHAT IT READS IS OF BULK AT MOST 1048576: true; the input reads as it did. -/
def vecFullUptoRow : OpenClaim := { program := "ytbpcfhhcoklinaa", sum := "5efd93da8cdc0e5a7bd4db6fad6dff592651a7cd698a75c504e0d3bbd419c31a", func := "vernier/vernierlaw20.VecFull", spec := "vecFull", inPlace := ["math/bits.Sub64", "math/bits.Add64"], unfollowed := true, recurses := true, apart := false, narrowed := true }
def VecFullUptoSaid : Prop := vecFullUptoRow.holds Try.pinned (OpenSpec.upto vecFullSpec)

end Rows
end Go.Proofs.Ytbpcfhhcoklinaa
