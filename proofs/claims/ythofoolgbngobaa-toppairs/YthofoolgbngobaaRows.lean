/-
  No cell of these rows narrows 'for every input' (looked for: loops, veiled, ifaces, maps, wideKeys, modest, calm, conditions, laid).
  DERIVED. THE GIVEN ROWS OF THIS SEAT. 5 by the template 'for every input the law returns true; each argument reads behind the call as it read before'; 0 by the template 'total and deterministic' (their statements: YthofoolgbngobaaTotals.lean).
  GIVEN WITH THE SEED: the statements are not yours to turn. If you find one false, say at which input.
  Laid BY PROGRAM, IN A SANDBOX (cutbox-rows.mjs): the forced cells as the released guide's own fill.sh prints them over the translation 3948417615515828… (all of the seat's roots in one cut). By AI agents, Wed Nov 11 2026. No macro, syntax, notation, axiom, sorry.
-/
import Derived.Test.YthofoolgbngobaaChecked
import GoSem.Claim
import GoSem.ClaimJoined
import GoSem.ClaimMapViews
import Derived.JoinedTies
import Derived.KernelRfl
namespace Go.Proofs.Ythofoolgbngobaa
/- THE CELL 'sum', in the pinned program and in every row, IS THE sha256 OF THE DUMP (.gsa) THAT YthofoolgbngobaaProg.lean LOADS. Nothing in Lean hashes anything: it is a label: what it is worth is what the hold of that sum in a sandbox is worth. -/
noncomputable def Try.pinned : Pinned := { name := "ythofoolgbngobaa", sum := "394841761551582866f8dfa02de75950c1d64480358d93704219a06277e574d3", checked := Try.checked }
namespace Rows
def none {H : Type} : Left H := { results := [], args := [] }

/-- 'verniertop.TopWide': WHATEVER THE INPUT: true; the input reads as it did. -/
def topWideSpec : ChangeSpec := { name := "topWide", fn := fun _ => fun
  | [d1, d2, d3, d4] => { results := [.lit (.bool true)], args := [d1, d2, d3, d4] }
  | _ => none }
def topWideRow : OpenClaim := { program := "ythofoolgbngobaa", sum := "394841761551582866f8dfa02de75950c1d64480358d93704219a06277e574d3", func := "vernier/verniertop.TopWide", spec := "topWide", inPlace := ["math/bits.Add64", "math/bits.Sub64"], unfollowed := true, recurses := true, apart := false }
def TopWideSaid : Prop := topWideRow.holds Try.pinned (OpenSpec.ofChange topWideSpec)

/-- ITS FALSE NEIGHBOUR: 'it returns false'. Refute it at one input. -/
def topWideWrong : ChangeSpec := { name := "topWide", fn := fun _ => fun
  | [d1, d2, d3, d4] => { results := [.lit (.bool false)], args := [d1, d2, d3, d4] }
  | _ => none }
def TopWideWrongFalsely : Prop := topWideRow.holds Try.pinned (OpenSpec.ofChange topWideWrong)

/-- 'verniertop.TopHorners': WHATEVER THE INPUT: true; the input reads as it did. -/
def topHornersSpec : ChangeSpec := { name := "topHorners", fn := fun _ => fun
  | [d1, d2, d3] => { results := [.lit (.bool true)], args := [d1, d2, d3] }
  | _ => none }
def topHornersRow : OpenClaim := { program := "ythofoolgbngobaa", sum := "394841761551582866f8dfa02de75950c1d64480358d93704219a06277e574d3", func := "vernier/verniertop.TopHorners", spec := "topHorners", inPlace := ["math/bits.Add64", "math/bits.Sub64"], unfollowed := true, recurses := true, apart := false }
def TopHornersSaid : Prop := topHornersRow.holds Try.pinned (OpenSpec.ofChange topHornersSpec)

/-- ITS FALSE NEIGHBOUR: 'it returns false'. Refute it at one input. -/
def topHornersWrong : ChangeSpec := { name := "topHorners", fn := fun _ => fun
  | [d1, d2, d3] => { results := [.lit (.bool false)], args := [d1, d2, d3] }
  | _ => none }
def TopHornersWrongFalsely : Prop := topHornersRow.holds Try.pinned (OpenSpec.ofChange topHornersWrong)

/-- 'verniertop.TopRises': WHATEVER THE INPUT: true; the input reads as it did. -/
def topRisesSpec : ChangeSpec := { name := "topRises", fn := fun _ => fun
  | [d1, d2, d3, d4, d5] => { results := [.lit (.bool true)], args := [d1, d2, d3, d4, d5] }
  | _ => none }
def topRisesRow : OpenClaim := { program := "ythofoolgbngobaa", sum := "394841761551582866f8dfa02de75950c1d64480358d93704219a06277e574d3", func := "vernier/verniertop.TopRises", spec := "topRises", inPlace := ["math/bits.Add64", "math/bits.Sub64"], named := ["math/bits.divideError", "math/bits.overflowError"], apart := false }
def TopRisesSaid : Prop := topRisesRow.holds Try.pinned (OpenSpec.ofChange topRisesSpec)

/-- ITS FALSE NEIGHBOUR: 'it returns false'. Refute it at one input. -/
def topRisesWrong : ChangeSpec := { name := "topRises", fn := fun _ => fun
  | [d1, d2, d3, d4, d5] => { results := [.lit (.bool false)], args := [d1, d2, d3, d4, d5] }
  | _ => none }
def TopRisesWrongFalsely : Prop := topRisesRow.holds Try.pinned (OpenSpec.ofChange topRisesWrong)

/-- 'verniertop.TopNearest': WHATEVER THE INPUT: true; the input reads as it did. -/
def topNearestSpec : ChangeSpec := { name := "topNearest", fn := fun _ => fun
  | [d1, d2, d3, d4, d5] => { results := [.lit (.bool true)], args := [d1, d2, d3, d4, d5] }
  | _ => none }
def topNearestRow : OpenClaim := { program := "ythofoolgbngobaa", sum := "394841761551582866f8dfa02de75950c1d64480358d93704219a06277e574d3", func := "vernier/verniertop.TopNearest", spec := "topNearest", inPlace := ["math/bits.Add64", "math/bits.Sub64"], named := ["math/bits.divideError", "math/bits.overflowError"], apart := false }
def TopNearestSaid : Prop := topNearestRow.holds Try.pinned (OpenSpec.ofChange topNearestSpec)

/-- ITS FALSE NEIGHBOUR: 'it returns false'. Refute it at one input. -/
def topNearestWrong : ChangeSpec := { name := "topNearest", fn := fun _ => fun
  | [d1, d2, d3, d4, d5] => { results := [.lit (.bool false)], args := [d1, d2, d3, d4, d5] }
  | _ => none }
def TopNearestWrongFalsely : Prop := topNearestRow.holds Try.pinned (OpenSpec.ofChange topNearestWrong)

/-- 'verniertop.TopPairs': WHATEVER THE INPUT: true; the input reads as it did. -/
def topPairsSpec : ChangeSpec := { name := "topPairs", fn := fun _ => fun
  | [d1, d2] => { results := [.lit (.bool true)], args := [d1, d2] }
  | _ => none }
def topPairsRow : OpenClaim := { program := "ythofoolgbngobaa", sum := "394841761551582866f8dfa02de75950c1d64480358d93704219a06277e574d3", func := "vernier/verniertop.TopPairs", spec := "topPairs", inPlace := ["math/bits.Sub64", "math/bits.Add64"], unfollowed := true, recurses := true, apart := false }
def TopPairsSaid : Prop := topPairsRow.holds Try.pinned (OpenSpec.ofChange topPairsSpec)

/-- ITS FALSE NEIGHBOUR: 'it returns false'. Refute it at one input. -/
def topPairsWrong : ChangeSpec := { name := "topPairs", fn := fun _ => fun
  | [d1, d2] => { results := [.lit (.bool false)], args := [d1, d2] }
  | _ => none }
def TopPairsWrongFalsely : Prop := topPairsRow.holds Try.pinned (OpenSpec.ofChange topPairsWrong)

/- THE SECOND FORM. 'bulk': how many values and letters a reading holds, each counted each time it is reached (what is shared counts as often as it is met; a slice's spare places count too). A statement '..UptoSaid' is the law's where the arguments, and the package variables that the reading takes, are together of bulk at most 1048576: NARROWER than '..Said'. Prove '..Said' where nothing that the law and all that it calls make is longer than what came in: it says more and counts as full. Else prove '..UptoSaid'. A law counts once. -/
mutual
def uptoBulk {H : Type} : DataW H → Nat
  | .lit (.string bytes) => bytes.length + 1
  | .lit _ => 1
  | .nil => 1
  | .ptr d => uptoBulk d + 1
  | .slice elems spare => uptoBulkAll elems + uptoBulkAll spare + 1
  | .agg parts => uptoBulkAll parts + 1
  | .iface _ d => uptoBulk d + 1
  | .map entries => uptoBulkEntries entries + 1
  | .held _ => 1
def uptoBulkAll {H : Type} : List (DataW H) → Nat
  | [] => 0
  | d :: r => uptoBulk d + uptoBulkAll r
def uptoBulkEntries {H : Type} : List (Lit × DataW H) → Nat
  | [] => 0
  | x :: r => uptoBulkEntry x + uptoBulkEntries r
def uptoBulkEntry {H : Type} : Lit × DataW H → Nat
  | (.string bytes, d) => bytes.length + uptoBulk d + 1
  | (_, d) => uptoBulk d + 1
 end
def uptoSmall : (H : Type) → List (DataW H) → Bool := fun _ ds => decide (uptoBulkAll ds ≤ 1048576)
def OpenSpec.upto (s : _root_.Go.ChangeSpec) : _root_.Go.OpenSpec := { _root_.Go.OpenSpec.ofChange s with cond := some uptoSmall }

/-- 'verniertop.TopWide', WHERE WHAT IT READS IS OF BULK AT MOST 1048576: true; the input reads as it did. -/
def topWideUptoRow : OpenClaim := { program := "ythofoolgbngobaa", sum := "394841761551582866f8dfa02de75950c1d64480358d93704219a06277e574d3", func := "vernier/verniertop.TopWide", spec := "topWide", inPlace := ["math/bits.Add64", "math/bits.Sub64"], unfollowed := true, recurses := true, apart := false, narrowed := true }
def TopWideUptoSaid : Prop := topWideUptoRow.holds Try.pinned (OpenSpec.upto topWideSpec)

/-- 'verniertop.TopHorners', WHERE WHAT IT READS IS OF BULK AT MOST 1048576: true; the input reads as it did. -/
def topHornersUptoRow : OpenClaim := { program := "ythofoolgbngobaa", sum := "394841761551582866f8dfa02de75950c1d64480358d93704219a06277e574d3", func := "vernier/verniertop.TopHorners", spec := "topHorners", inPlace := ["math/bits.Add64", "math/bits.Sub64"], unfollowed := true, recurses := true, apart := false, narrowed := true }
def TopHornersUptoSaid : Prop := topHornersUptoRow.holds Try.pinned (OpenSpec.upto topHornersSpec)

/-- 'verniertop.TopRises', WHERE WHAT IT READS IS OF BULK AT MOST 1048576: true; the input reads as it did. -/
def topRisesUptoRow : OpenClaim := { program := "ythofoolgbngobaa", sum := "394841761551582866f8dfa02de75950c1d64480358d93704219a06277e574d3", func := "vernier/verniertop.TopRises", spec := "topRises", inPlace := ["math/bits.Add64", "math/bits.Sub64"], named := ["math/bits.divideError", "math/bits.overflowError"], apart := false, narrowed := true }
def TopRisesUptoSaid : Prop := topRisesUptoRow.holds Try.pinned (OpenSpec.upto topRisesSpec)

/-- 'verniertop.TopNearest', WHERE WHAT IT READS IS OF BULK AT MOST 1048576: true; the input reads as it did. -/
def topNearestUptoRow : OpenClaim := { program := "ythofoolgbngobaa", sum := "394841761551582866f8dfa02de75950c1d64480358d93704219a06277e574d3", func := "vernier/verniertop.TopNearest", spec := "topNearest", inPlace := ["math/bits.Add64", "math/bits.Sub64"], named := ["math/bits.divideError", "math/bits.overflowError"], apart := false, narrowed := true }
def TopNearestUptoSaid : Prop := topNearestUptoRow.holds Try.pinned (OpenSpec.upto topNearestSpec)

/-- 'verniertop.TopPairs', WHERE WHAT IT READS IS OF BULK AT MOST 1048576: true; the input reads as it did. -/
def topPairsUptoRow : OpenClaim := { program := "ythofoolgbngobaa", sum := "394841761551582866f8dfa02de75950c1d64480358d93704219a06277e574d3", func := "vernier/verniertop.TopPairs", spec := "topPairs", inPlace := ["math/bits.Sub64", "math/bits.Add64"], unfollowed := true, recurses := true, apart := false, narrowed := true }
def TopPairsUptoSaid : Prop := topPairsUptoRow.holds Try.pinned (OpenSpec.upto topPairsSpec)

end Rows
end Go.Proofs.Ythofoolgbngobaa
