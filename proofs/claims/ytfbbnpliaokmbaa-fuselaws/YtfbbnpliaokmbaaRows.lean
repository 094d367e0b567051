/-
  No cell of these rows narrows 'for every input' (looked for: loops, veiled, ifaces, maps, wideKeys, modest, calm, conditions, laid).
  DERIVED. THE GIVEN ROWS OF THIS SEAT. 5 by the template 'for every input the law returns true; each argument reads behind the call as it read before'; 0 by the template 'total and deterministic' (their statements: YtfbbnpliaokmbaaTotals.lean).
  GIVEN WITH THE SEED: the statements are not yours to turn. If you find one false, say at which input.
  Laid BY PROGRAM, IN A SANDBOX (cutbox-rows.mjs): the forced cells as the released guide's own fill.sh prints them over the translation 0102db9fd93da54d… (all of the seat's roots in one cut). By AI agents, Wed Nov 11 2026. No macro, syntax, notation, axiom, sorry.
-/
import Derived.Test.YtfbbnpliaokmbaaChecked
import GoSem.Claim
import GoSem.ClaimJoined
import GoSem.ClaimMapViews
import Derived.JoinedTies
import Derived.KernelRfl
namespace Go.Proofs.Ytfbbnpliaokmbaa
/- THE CELL 'sum', in the pinned program and in every row, IS THE sha256 OF THE DUMP (.gsa) THAT YtfbbnpliaokmbaaProg.lean LOADS. Nothing in Lean hashes anything: it is a label: what it is worth is what the hold of that sum in a sandbox is worth. -/
noncomputable def Try.pinned : Pinned := { name := "ytfbbnpliaokmbaa", sum := "0102db9fd93da54d6d32a3f55894fca8b4817d794a1df1011445d9c3b8674ce9", checked := Try.checked }
namespace Rows
def none {H : Type} : Left H := { results := [], args := [] }

/-- 'vernierlaw13.FuseFmas': WHATEVER THE INPUT: true; the input reads as it did. -/
def fuseFmasSpec : ChangeSpec := { name := "fuseFmas", fn := fun _ => fun
  | [d1, d2, d3, d4] => { results := [.lit (.bool true)], args := [d1, d2, d3, d4] }
  | _ => none }
def fuseFmasRow : OpenClaim := { program := "ytfbbnpliaokmbaa", sum := "0102db9fd93da54d6d32a3f55894fca8b4817d794a1df1011445d9c3b8674ce9", func := "vernier/vernierlaw13.FuseFmas", spec := "fuseFmas", inPlace := ["math/bits.Add64", "math/bits.Sub64"], recurses := true, apart := false }
def FuseFmasSaid : Prop := fuseFmasRow.holds Try.pinned (OpenSpec.ofChange fuseFmasSpec)

/-- ITS FALSE NEIGHBOUR: 'it returns false'. Refute it at one input. -/
def fuseFmasWrong : ChangeSpec := { name := "fuseFmas", fn := fun _ => fun
  | [d1, d2, d3, d4] => { results := [.lit (.bool false)], args := [d1, d2, d3, d4] }
  | _ => none }
def FuseFmasWrongFalsely : Prop := fuseFmasRow.holds Try.pinned (OpenSpec.ofChange fuseFmasWrong)

/-- 'vernierlaw13.FusePairs': WHATEVER THE INPUT: true; the input reads as it did. -/
def fusePairsSpec : ChangeSpec := { name := "fusePairs", fn := fun _ => fun
  | [d1, d2, d3, d4, d5] => { results := [.lit (.bool true)], args := [d1, d2, d3, d4, d5] }
  | _ => none }
def fusePairsRow : OpenClaim := { program := "ytfbbnpliaokmbaa", sum := "0102db9fd93da54d6d32a3f55894fca8b4817d794a1df1011445d9c3b8674ce9", func := "vernier/vernierlaw13.FusePairs", spec := "fusePairs", inPlace := ["math/bits.Add64", "math/bits.Sub64"], recurses := true, apart := false }
def FusePairsSaid : Prop := fusePairsRow.holds Try.pinned (OpenSpec.ofChange fusePairsSpec)

/-- ITS FALSE NEIGHBOUR: 'it returns false'. Refute it at one input. -/
def fusePairsWrong : ChangeSpec := { name := "fusePairs", fn := fun _ => fun
  | [d1, d2, d3, d4, d5] => { results := [.lit (.bool false)], args := [d1, d2, d3, d4, d5] }
  | _ => none }
def FusePairsWrongFalsely : Prop := fusePairsRow.holds Try.pinned (OpenSpec.ofChange fusePairsWrong)

/-- 'vernierlaw13.FuseExacts': WHATEVER THE INPUT: true; the input reads as it did. -/
def fuseExactsSpec : ChangeSpec := { name := "fuseExacts", fn := fun _ => fun
  | [d1, d2] => { results := [.lit (.bool true)], args := [d1, d2] }
  | _ => none }
def fuseExactsRow : OpenClaim := { program := "ytfbbnpliaokmbaa", sum := "0102db9fd93da54d6d32a3f55894fca8b4817d794a1df1011445d9c3b8674ce9", func := "vernier/vernierlaw13.FuseExacts", spec := "fuseExacts", inPlace := ["math/bits.Add64", "math/bits.Sub64"], recurses := true, apart := false }
def FuseExactsSaid : Prop := fuseExactsRow.holds Try.pinned (OpenSpec.ofChange fuseExactsSpec)

/-- ITS FALSE NEIGHBOUR: 'it returns false'. Refute it at one input. -/
def fuseExactsWrong : ChangeSpec := { name := "fuseExacts", fn := fun _ => fun
  | [d1, d2] => { results := [.lit (.bool false)], args := [d1, d2] }
  | _ => none }
def FuseExactsWrongFalsely : Prop := fuseExactsRow.holds Try.pinned (OpenSpec.ofChange fuseExactsWrong)

/-- 'vernierlaw13.FuseLaws': WHATEVER THE INPUT: true; the input reads as it did. -/
def fuseLawsSpec : ChangeSpec := { name := "fuseLaws", fn := fun _ => fun
  | [d1, d2, d3, d4, d5] => { results := [.lit (.bool true)], args := [d1, d2, d3, d4, d5] }
  | _ => none }
def fuseLawsRow : OpenClaim := { program := "ytfbbnpliaokmbaa", sum := "0102db9fd93da54d6d32a3f55894fca8b4817d794a1df1011445d9c3b8674ce9", func := "vernier/vernierlaw13.FuseLaws", spec := "fuseLaws", inPlace := ["math/bits.Add64", "math/bits.Sub64"], apart := false }
def FuseLawsSaid : Prop := fuseLawsRow.holds Try.pinned (OpenSpec.ofChange fuseLawsSpec)

/-- ITS FALSE NEIGHBOUR: 'it returns false'. Refute it at one input. -/
def fuseLawsWrong : ChangeSpec := { name := "fuseLaws", fn := fun _ => fun
  | [d1, d2, d3, d4, d5] => { results := [.lit (.bool false)], args := [d1, d2, d3, d4, d5] }
  | _ => none }
def FuseLawsWrongFalsely : Prop := fuseLawsRow.holds Try.pinned (OpenSpec.ofChange fuseLawsWrong)

/-- 'vernierlaw13.FuseFar': WHATEVER THE INPUT: true; the input reads as it did. -/
def fuseFarSpec : ChangeSpec := { name := "fuseFar", fn := fun _ => fun
  | [d1, d2, d3] => { results := [.lit (.bool true)], args := [d1, d2, d3] }
  | _ => none }
def fuseFarRow : OpenClaim := { program := "ytfbbnpliaokmbaa", sum := "0102db9fd93da54d6d32a3f55894fca8b4817d794a1df1011445d9c3b8674ce9", func := "vernier/vernierlaw13.FuseFar", spec := "fuseFar", inPlace := ["math/bits.Add64", "math/bits.Sub64"], apart := false }
def FuseFarSaid : Prop := fuseFarRow.holds Try.pinned (OpenSpec.ofChange fuseFarSpec)

/-- ITS FALSE NEIGHBOUR: 'it returns false'. Refute it at one input. -/
def fuseFarWrong : ChangeSpec := { name := "fuseFar", fn := fun _ => fun
  | [d1, d2, d3] => { results := [.lit (.bool false)], args := [d1, d2, d3] }
  | _ => none }
def FuseFarWrongFalsely : Prop := fuseFarRow.holds Try.pinned (OpenSpec.ofChange fuseFarWrong)

/- THE SECOND FORM. 'bulk': how many values and letters a reading holds, each counted each time it is reached (what is shared counts as often as it is met; a slice's spare places count too). A statement '..UptoSaid' is the law's where the arguments, and the package variables that the reading takes, are together of bulk at most 1048576: NARROWER than '..Said'. Prove '..Said' where nothing that the law and all that it calls make is longer than what came in: it says more and counts as full. Else prove '..UptoSaid'. A law counts once. -/
mutual
def uptoBulk {H : Type} : DataW H → Nat
  | .lit (.string bytes) => bytes.length + 1
  | .lit _ => 1
  | .nil => 1
  | .ptr d => uptoBulk d + 1
  | .slice elems spare => uptoBulkAll elems + uptoBulkAll spare + 1
  | .agg parts => uptoBulkAll parts + 1
  | .iface _ d => uptoBulk d + 1
  | .map entries => uptoBulkEntries entries + 1
  | .held _ => 1
def uptoBulkAll {H : Type} : List (DataW H) → Nat
  | [] => 0
  | d :: r => uptoBulk d + uptoBulkAll r
def uptoBulkEntries {H : Type} : List (Lit × DataW H) → Nat
  | [] => 0
  | x :: r => uptoBulkEntry x + uptoBulkEntries r
def uptoBulkEntry {H : Type} : Lit × DataW H → Nat
  | (.string bytes, d) => bytes.length + uptoBulk d + 1
  | (_, d) => uptoBulk d + 1
 end
def uptoSmall : (H : Type) → List (DataW H) → Bool := fun _ ds => decide (uptoBulkAll ds ≤ 1048576)
def OpenSpec.upto (s : _root_.Go.ChangeSpec) : _root_.Go.OpenSpec := { _root_.Go.OpenSpec.ofChange s with cond := some uptoSmall }

/-- 'vernierlaw13.FuseFmas', WHERE WHAT IT READS IS OF BULK AT MOST 1048576: true; the input reads as it did. -/
def fuseFmasUptoRow : OpenClaim := { program := "ytfbbnpliaokmbaa", sum := "0102db9fd93da54d6d32a3f55894fca8b4817d794a1df1011445d9c3b8674ce9", func := "vernier/vernierlaw13.FuseFmas", spec := "fuseFmas", inPlace := ["math/bits.Add64", "math/bits.Sub64"], recurses := true, apart := false, narrowed := true }
def FuseFmasUptoSaid : Prop := fuseFmasUptoRow.holds Try.pinned (OpenSpec.upto fuseFmasSpec)

/-- 'vernierlaw13.FusePairs', WHERE WHAT IT READS IS OF BULK AT MOST 1048576: true; the input reads as it did. -/
def fusePairsUptoRow : OpenClaim := { program := "ytfbbnpliaokmbaa", sum := "0102db9fd93da54d6d32a3f55894fca8b4817d794a1df1011445d9c3b8674ce9", func := "vernier/vernierlaw13.FusePairs", spec := "fusePairs", inPlace := ["math/bits.Add64", "math/bits.Sub64"], recurses := true, apart := false, narrowed := true }
def FusePairsUptoSaid : Prop := fusePairsUptoRow.holds Try.pinned (OpenSpec.upto fusePairsSpec)

/-- 'vernierlaw13.FuseExacts', WHERE WHAT IT READS IS OF BULK AT MOST 1048576: true; the input reads as it did. -/
def fuseExactsUptoRow : OpenClaim := { program := "ytfbbnpliaokmbaa", sum := "0102db9fd93da54d6d32a3f55894fca8b4817d794a1df1011445d9c3b8674ce9", func := "vernier/vernierlaw13.FuseExacts", spec := "fuseExacts", inPlace := ["math/bits.Add64", "math/bits.Sub64"], recurses := true, apart := false, narrowed := true }
def FuseExactsUptoSaid : Prop := fuseExactsUptoRow.holds Try.pinned (OpenSpec.upto fuseExactsSpec)

/-- 'vernierlaw13.FuseLaws', WHERE WHAT IT READS IS OF BULK AT MOST 1048576: true; the input reads as it did. -/
def fuseLawsUptoRow : OpenClaim := { program := "ytfbbnpliaokmbaa", sum := "0102db9fd93da54d6d32a3f55894fca8b4817d794a1df1011445d9c3b8674ce9", func := "vernier/vernierlaw13.FuseLaws", spec := "fuseLaws", inPlace := ["math/bits.Add64", "math/bits.Sub64"], apart := false, narrowed := true }
def FuseLawsUptoSaid : Prop := fuseLawsUptoRow.holds Try.pinned (OpenSpec.upto fuseLawsSpec)

/-- 'vernierlaw13.FuseFar', WHERE WHAT IT READS IS OF BULK AT MOST 1048576: true; the input reads as it did. -/
def fuseFarUptoRow : OpenClaim := { program := "ytfbbnpliaokmbaa", sum := "0102db9fd93da54d6d32a3f55894fca8b4817d794a1df1011445d9c3b8674ce9", func := "vernier/vernierlaw13.FuseFar", spec := "fuseFar", inPlace := ["math/bits.Add64", "math/bits.Sub64"], apart := false, narrowed := true }
def FuseFarUptoSaid : Prop := fuseFarUptoRow.holds Try.pinned (OpenSpec.upto fuseFarSpec)

end Rows
end Go.Proofs.Ytfbbnpliaokmbaa
