/-
  No cell of these rows narrows 'for every input' (looked for: loops, veiled, ifaces, maps, wideKeys, modest, calm, conditions, laid).
  DERIVED. THE GIVEN ROWS OF THIS SEAT. 6 by the template 'for every input the law returns true; each argument reads behind the call as it read before'; 0 by the template 'total and deterministic' (their statements: YtgjhjgacojlbmaaTotals.lean).
  GIVEN WITH THE SEED: the statements are not yours to turn. If you find one false, say at which input.
  Laid BY PROGRAM, IN A SANDBOX (cutbox-rows.mjs): the forced cells as the released guide's own fill.sh prints them over the translation 29e5d2983608b5a1… (all of the seat's roots in one cut). By AI agents, Wed Nov 11 2026. No macro, syntax, notation, axiom, sorry.
-/
import Derived.Test.YtgjhjgacojlbmaaChecked
import GoSem.Claim
import GoSem.ClaimJoined
import GoSem.ClaimMapViews
import Derived.JoinedTies
import Derived.KernelRfl
namespace Go.Proofs.Ytgjhjgacojlbmaa
/- THE CELL 'sum', in the pinned program and in every row, IS THE sha256 OF THE DUMP (.gsa) THAT YtgjhjgacojlbmaaProg.lean LOADS. Nothing in Lean hashes anything: it is a label: what it is worth is what the hold of that sum in a sandbox is worth. -/
noncomputable def Try.pinned : Pinned := { name := "ytgjhjgacojlbmaa", sum := "29e5d2983608b5a1591d9a09a1d86e95e84f35abc4a8c3594c730b92905a2eb3", checked := Try.checked }
namespace Rows
def none {H : Type} : Left H := { results := [], args := [] }

/-- 'vernierlaw15.AccumNew': WHATEVER THE INPUT: true; the input reads as it did. -/
def accumNewSpec : ChangeSpec := { name := "accumNew", fn := fun _ => fun
  | [d] => { results := [.lit (.bool true)], args := [d] }
  | _ => none }
def accumNewRow : OpenClaim := { program := "ytgjhjgacojlbmaa", sum := "29e5d2983608b5a1591d9a09a1d86e95e84f35abc4a8c3594c730b92905a2eb3", func := "vernier/vernierlaw15.AccumNew", spec := "accumNew", inPlace := ["math/bits.Sub64", "math/bits.Add64"], apart := false }
def AccumNewSaid : Prop := accumNewRow.holds Try.pinned (OpenSpec.ofChange accumNewSpec)

/-- ITS FALSE NEIGHBOUR: 'it returns false'. Refute it at one input. -/
def accumNewWrong : ChangeSpec := { name := "accumNew", fn := fun _ => fun
  | [d] => { results := [.lit (.bool false)], args := [d] }
  | _ => none }
def AccumNewWrongFalsely : Prop := accumNewRow.holds Try.pinned (OpenSpec.ofChange accumNewWrong)

/-- 'vernierlaw15.AccumOrder': WHATEVER THE INPUT: true; the input reads as it did. -/
def accumOrderSpec : ChangeSpec := { name := "accumOrder", fn := fun _ => fun
  | [d1, d2, d3] => { results := [.lit (.bool true)], args := [d1, d2, d3] }
  | _ => none }
def accumOrderRow : OpenClaim := { program := "ytgjhjgacojlbmaa", sum := "29e5d2983608b5a1591d9a09a1d86e95e84f35abc4a8c3594c730b92905a2eb3", func := "vernier/vernierlaw15.AccumOrder", spec := "accumOrder", inPlace := ["math/bits.Sub64", "math/bits.Add64"], apart := false }
def AccumOrderSaid : Prop := accumOrderRow.holds Try.pinned (OpenSpec.ofChange accumOrderSpec)

/-- ITS FALSE NEIGHBOUR: 'it returns false'. Refute it at one input. -/
def accumOrderWrong : ChangeSpec := { name := "accumOrder", fn := fun _ => fun
  | [d1, d2, d3] => { results := [.lit (.bool false)], args := [d1, d2, d3] }
  | _ => none }
def AccumOrderWrongFalsely : Prop := accumOrderRow.holds Try.pinned (OpenSpec.ofChange accumOrderWrong)

/-- 'vernierlaw15.AccumBack': WHATEVER THE INPUT: true; the input reads as it did. -/
def accumBackSpec : ChangeSpec := { name := "accumBack", fn := fun _ => fun
  | [d1, d2, d3] => { results := [.lit (.bool true)], args := [d1, d2, d3] }
  | _ => none }
def accumBackRow : OpenClaim := { program := "ytgjhjgacojlbmaa", sum := "29e5d2983608b5a1591d9a09a1d86e95e84f35abc4a8c3594c730b92905a2eb3", func := "vernier/vernierlaw15.AccumBack", spec := "accumBack", inPlace := ["math/bits.Sub64", "math/bits.Add64"], apart := false }
def AccumBackSaid : Prop := accumBackRow.holds Try.pinned (OpenSpec.ofChange accumBackSpec)

/-- ITS FALSE NEIGHBOUR: 'it returns false'. Refute it at one input. -/
def accumBackWrong : ChangeSpec := { name := "accumBack", fn := fun _ => fun
  | [d1, d2, d3] => { results := [.lit (.bool false)], args := [d1, d2, d3] }
  | _ => none }
def AccumBackWrongFalsely : Prop := accumBackRow.holds Try.pinned (OpenSpec.ofChange accumBackWrong)

/-- 'vernierlaw15.AccumNaR': WHATEVER THE INPUT: true; the input reads as it did. -/
def accumNaRSpec : ChangeSpec := { name := "accumNaR", fn := fun _ => fun
  | [d1, d2, d3] => { results := [.lit (.bool true)], args := [d1, d2, d3] }
  | _ => none }
def accumNaRRow : OpenClaim := { program := "ytgjhjgacojlbmaa", sum := "29e5d2983608b5a1591d9a09a1d86e95e84f35abc4a8c3594c730b92905a2eb3", func := "vernier/vernierlaw15.AccumNaR", spec := "accumNaR", inPlace := ["math/bits.Sub64", "math/bits.Add64"], apart := false }
def AccumNaRSaid : Prop := accumNaRRow.holds Try.pinned (OpenSpec.ofChange accumNaRSpec)

/-- ITS FALSE NEIGHBOUR: 'it returns false'. Refute it at one input. -/
def accumNaRWrong : ChangeSpec := { name := "accumNaR", fn := fun _ => fun
  | [d1, d2, d3] => { results := [.lit (.bool false)], args := [d1, d2, d3] }
  | _ => none }
def AccumNaRWrongFalsely : Prop := accumNaRRow.holds Try.pinned (OpenSpec.ofChange accumNaRWrong)

/-- 'vernierlaw15.AccumFull': WHATEVER THE INPUT: true; the input reads as it did. -/
def accumFullSpec : ChangeSpec := { name := "accumFull", fn := fun _ => fun
  | [d1, d2, d3] => { results := [.lit (.bool true)], args := [d1, d2, d3] }
  | _ => none }
def accumFullRow : OpenClaim := { program := "ytgjhjgacojlbmaa", sum := "29e5d2983608b5a1591d9a09a1d86e95e84f35abc4a8c3594c730b92905a2eb3", func := "vernier/vernierlaw15.AccumFull", spec := "accumFull", inPlace := ["math/bits.Sub64", "math/bits.Add64"], apart := false }
def AccumFullSaid : Prop := accumFullRow.holds Try.pinned (OpenSpec.ofChange accumFullSpec)

/-- ITS FALSE NEIGHBOUR: 'it returns false'. Refute it at one input. -/
def accumFullWrong : ChangeSpec := { name := "accumFull", fn := fun _ => fun
  | [d1, d2, d3] => { results := [.lit (.bool false)], args := [d1, d2, d3] }
  | _ => none }
def AccumFullWrongFalsely : Prop := accumFullRow.holds Try.pinned (OpenSpec.ofChange accumFullWrong)

/-- 'vernierlaw15.AccumOnce': WHATEVER THE INPUT: true; the input reads as it did. -/
def accumOnceSpec : ChangeSpec := { name := "accumOnce", fn := fun _ => fun
  | [d1, d2, d3] => { results := [.lit (.bool true)], args := [d1, d2, d3] }
  | _ => none }
def accumOnceRow : OpenClaim := { program := "ytgjhjgacojlbmaa", sum := "29e5d2983608b5a1591d9a09a1d86e95e84f35abc4a8c3594c730b92905a2eb3", func := "vernier/vernierlaw15.AccumOnce", spec := "accumOnce", inPlace := ["math/bits.Sub64", "math/bits.Add64"], apart := false }
def AccumOnceSaid : Prop := accumOnceRow.holds Try.pinned (OpenSpec.ofChange accumOnceSpec)

/-- ITS FALSE NEIGHBOUR: 'it returns false'. Refute it at one input. -/
def accumOnceWrong : ChangeSpec := { name := "accumOnce", fn := fun _ => fun
  | [d1, d2, d3] => { results := [.lit (.bool false)], args := [d1, d2, d3] }
  | _ => none }
def AccumOnceWrongFalsely : Prop := accumOnceRow.holds Try.pinned (OpenSpec.ofChange accumOnceWrong)

/- THE SECOND FORM. 'bulk': how many values and letters a reading holds, each counted each time it is reached (what is shared counts as often as it is met; a slice's spare places count too). A statement '..UptoSaid' is the law's where the arguments, and the package variables that the reading takes, are together of bulk at most 1048576: NARROWER than '..Said'. Prove '..Said' where nothing that the law and all that it calls make is longer than what came in: it says more and counts as full. Else prove '..UptoSaid'. A law counts once. -/
mutual
def uptoBulk {H : Type} : DataW H → Nat
  | .lit (.string bytes) => bytes.length + 1
  | .lit _ => 1
  | .nil => 1
  | .ptr d => uptoBulk d + 1
  | .slice elems spare => uptoBulkAll elems + uptoBulkAll spare + 1
  | .agg parts => uptoBulkAll parts + 1
  | .iface _ d => uptoBulk d + 1
  | .map entries => uptoBulkEntries entries + 1
  | .held _ => 1
def uptoBulkAll {H : Type} : List (DataW H) → Nat
  | [] => 0
  | d :: r => uptoBulk d + uptoBulkAll r
def uptoBulkEntries {H : Type} : List (Lit × DataW H) → Nat
  | [] => 0
  | x :: r => uptoBulkEntry x + uptoBulkEntries r
def uptoBulkEntry {H : Type} : Lit × DataW H → Nat
  | (.string bytes, d) => bytes.length + uptoBulk d + 1
  | (_, d) => uptoBulk d + 1
 end
def uptoSmall : (H : Type) → List (DataW H) → Bool := fun _ ds => decide (uptoBulkAll ds ≤ 1048576)
def OpenSpec.upto (s : _root_.Go.ChangeSpec) : _root_.Go.OpenSpec := { _root_.Go.OpenSpec.ofChange s with cond := some uptoSmall }

/-- 'vernierlaw15.AccumNew', WHERE WHAT IT READS IS OF BULK AT MOST 1048576: true; the input reads as it did. -/
def accumNewUptoRow : OpenClaim := { program := "ytgjhjgacojlbmaa", sum := "29e5d2983608b5a1591d9a09a1d86e95e84f35abc4a8c3594c730b92905a2eb3", func := "vernier/vernierlaw15.AccumNew", spec := "accumNew", inPlace := ["math/bits.Sub64", "math/bits.Add64"], apart := false, narrowed := true }
def AccumNewUptoSaid : Prop := accumNewUptoRow.holds Try.pinned (OpenSpec.upto accumNewSpec)

/-- 'vernierlaw15.AccumOrder', WHERE WHAT IT READS IS OF BULK AT MOST 1048576: true; the input reads as it did. -/
def accumOrderUptoRow : OpenClaim := { program := "ytgjhjgacojlbmaa", sum := "29e5d2983608b5a1591d9a09a1d86e95e84f35abc4a8c3594c730b92905a2eb3", func := "vernier/vernierlaw15.AccumOrder", spec := "accumOrder", inPlace := ["math/bits.Sub64", "math/bits.Add64"], apart := false, narrowed := true }
def AccumOrderUptoSaid : Prop := accumOrderUptoRow.holds Try.pinned (OpenSpec.upto accumOrderSpec)

/-- 'vernierlaw15.AccumBack', WHERE WHAT IT READS IS OF BULK AT MOST 1048576: true; the input reads as it did. -/
def accumBackUptoRow : OpenClaim := { program := "ytgjhjgacojlbmaa", sum := "29e5d2983608b5a1591d9a09a1d86e95e84f35abc4a8c3594c730b92905a2eb3", func := "vernier/vernierlaw15.AccumBack", spec := "accumBack", inPlace := ["math/bits.Sub64", "math/bits.Add64"], apart := false, narrowed := true }
def AccumBackUptoSaid : Prop := accumBackUptoRow.holds Try.pinned (OpenSpec.upto accumBackSpec)

/-- 'vernierlaw15.AccumNaR', WHERE WHAT IT READS IS OF BULK AT MOST 1048576: true; the input reads as it did. -/
def accumNaRUptoRow : OpenClaim := { program := "ytgjhjgacojlbmaa", sum := "29e5d2983608b5a1591d9a09a1d86e95e84f35abc4a8c3594c730b92905a2eb3", func := "vernier/vernierlaw15.AccumNaR", spec := "accumNaR", inPlace := ["math/bits.Sub64", "math/bits.Add64"], apart := false, narrowed := true }
def AccumNaRUptoSaid : Prop := accumNaRUptoRow.holds Try.pinned (OpenSpec.upto accumNaRSpec)

/-- 'vernierlaw15.AccumFull', WHERE WHAT IT READS IS OF BULK AT MOST 1048576: true; the input reads as it did. -/
def accumFullUptoRow : OpenClaim := { program := "ytgjhjgacojlbmaa", sum := "29e5d2983608b5a1591d9a09a1d86e95e84f35abc4a8c3594c730b92905a2eb3", func := "vernier/vernierlaw15.AccumFull", spec := "accumFull", inPlace := ["math/bits.Sub64", "math/bits.Add64"], apart := false, narrowed := true }
def AccumFullUptoSaid : Prop := accumFullUptoRow.holds Try.pinned (OpenSpec.upto accumFullSpec)

/-- 'vernierlaw15.AccumOnce', WHERE WHAT IT READS IS OF BULK AT MOST 1048576: true; the input reads as it did. -/
def accumOnceUptoRow : OpenClaim := { program := "ytgjhjgacojlbmaa", sum := "29e5d2983608b5a1591d9a09a1d86e95e84f35abc4a8c3594c730b92905a2eb3", func := "vernier/vernierlaw15.AccumOnce", spec := "accumOnce", inPlace := ["math/bits.Sub64", "math/bits.Add64"], apart := false, narrowed := true }
def AccumOnceUptoSaid : Prop := accumOnceUptoRow.holds Try.pinned (OpenSpec.upto accumOnceSpec)

end Rows
end Go.Proofs.Ytgjhjgacojlbmaa
