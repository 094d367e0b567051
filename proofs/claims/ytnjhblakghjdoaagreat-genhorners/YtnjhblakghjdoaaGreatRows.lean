/-
  No cell of these rows narrows 'for every input' (looked for: loops, veiled, ifaces, maps, wideKeys, modest, calm, conditions, laid).
  DERIVED. THE GIVEN ROWS OF THIS SEAT. 5 by the template 'for every input the law returns true; each argument reads behind the call as it read before'; 0 by the template 'total and deterministic' (their statements: YtnjhblakghjdoaaGreatTotals.lean).
  GIVEN WITH THE SEED: the statements are not yours to turn. If you find one false, say at which input.
  Laid BY PROGRAM, IN A SANDBOX (cutbox-rows.mjs): the forced cells as the released guide's own fill.sh prints them over the translation 843ca49b34f16f35… (all of the seat's roots in one cut). By AI agents, Wed Nov 11 2026. No macro, syntax, notation, axiom, sorry.
-/
import Derived.Test.YtnjhblakghjdoaaGreatChecked
import GoSem.Claim
import GoSem.ClaimJoined
import GoSem.ClaimMapViews
import Derived.JoinedTies
import Derived.KernelRfl
namespace Go.Proofs.YtnjhblakghjdoaaGreat
/- THE CELL 'sum', in the pinned program and in every row, IS THE sha256 OF THE DUMP (.gsa) THAT YtnjhblakghjdoaaGreatProg.lean LOADS. Nothing in Lean hashes anything: it is a label: what it is worth is what the hold of that sum in a sandbox is worth. -/
noncomputable def Tryz.pinned : Pinned := { name := "ytnjhblakghjdoaagreat", sum := "843ca49b34f16f35eebe126dd71b5dd8e289271608970479c10d925332ff1974", checked := Tryz.checked }
namespace Rows
def none {H : Type} : Left H := { results := [], args := [] }

/-- 'vernierlaw14.GenHorners': WHATEVER THE INPUT: true; the input reads as it did. -/
def genHornersSpec : ChangeSpec := { name := "genHorners", fn := fun _ => fun
  | [d1, d2] => { results := [.lit (.bool true)], args := [d1, d2] }
  | _ => none }
def genHornersRow : OpenClaim := { program := "ytnjhblakghjdoaagreat", sum := "843ca49b34f16f35eebe126dd71b5dd8e289271608970479c10d925332ff1974", func := "vernier/vernierlaw14.GenHorners", spec := "genHorners", inPlace := ["math/bits.Add64", "math/bits.Sub64"], unfollowed := true, recurses := true, apart := false }
def GenHornersSaid : Prop := genHornersRow.holds Tryz.pinned (OpenSpec.ofChange genHornersSpec)

/-- ITS FALSE NEIGHBOUR: 'it returns false'. Refute it at one input. -/
def genHornersWrong : ChangeSpec := { name := "genHorners", fn := fun _ => fun
  | [d1, d2] => { results := [.lit (.bool false)], args := [d1, d2] }
  | _ => none }
def GenHornersWrongFalsely : Prop := genHornersRow.holds Tryz.pinned (OpenSpec.ofChange genHornersWrong)

/-- 'vernierlaw14.GenEights': WHATEVER THE INPUT: true; the input reads as it did. -/
def genEightsSpec : ChangeSpec := { name := "genEights", fn := fun _ => fun
  | [d1, d2, d3] => { results := [.lit (.bool true)], args := [d1, d2, d3] }
  | _ => none }
def genEightsRow : OpenClaim := { program := "ytnjhblakghjdoaagreat", sum := "843ca49b34f16f35eebe126dd71b5dd8e289271608970479c10d925332ff1974", func := "vernier/vernierlaw14.GenEights", spec := "genEights", inPlace := ["math/bits.Add64", "math/bits.Sub64"], unfollowed := true, recurses := true, named := ["math/bits.divideError", "math/bits.overflowError"], apart := false }
def GenEightsSaid : Prop := genEightsRow.holds Tryz.pinned (OpenSpec.ofChange genEightsSpec)

/-- ITS FALSE NEIGHBOUR: 'it returns false'. Refute it at one input. -/
def genEightsWrong : ChangeSpec := { name := "genEights", fn := fun _ => fun
  | [d1, d2, d3] => { results := [.lit (.bool false)], args := [d1, d2, d3] }
  | _ => none }
def GenEightsWrongFalsely : Prop := genEightsRow.holds Tryz.pinned (OpenSpec.ofChange genEightsWrong)

/-- 'vernierlaw14.GenSixteens': WHATEVER THE INPUT: true; the input reads as it did. -/
def genSixteensSpec : ChangeSpec := { name := "genSixteens", fn := fun _ => fun
  | [d1, d2, d3] => { results := [.lit (.bool true)], args := [d1, d2, d3] }
  | _ => none }
def genSixteensRow : OpenClaim := { program := "ytnjhblakghjdoaagreat", sum := "843ca49b34f16f35eebe126dd71b5dd8e289271608970479c10d925332ff1974", func := "vernier/vernierlaw14.GenSixteens", spec := "genSixteens", inPlace := ["math/bits.Add64", "math/bits.Sub64"], unfollowed := true, recurses := true, named := ["math/bits.divideError", "math/bits.overflowError"], apart := false }
def GenSixteensSaid : Prop := genSixteensRow.holds Tryz.pinned (OpenSpec.ofChange genSixteensSpec)

/-- ITS FALSE NEIGHBOUR: 'it returns false'. Refute it at one input. -/
def genSixteensWrong : ChangeSpec := { name := "genSixteens", fn := fun _ => fun
  | [d1, d2, d3] => { results := [.lit (.bool false)], args := [d1, d2, d3] }
  | _ => none }
def GenSixteensWrongFalsely : Prop := genSixteensRow.holds Tryz.pinned (OpenSpec.ofChange genSixteensWrong)

/-- 'vernierlaw14.GenThirties': WHATEVER THE INPUT: true; the input reads as it did. -/
def genThirtiesSpec : ChangeSpec := { name := "genThirties", fn := fun _ => fun
  | [d1, d2, d3] => { results := [.lit (.bool true)], args := [d1, d2, d3] }
  | _ => none }
def genThirtiesRow : OpenClaim := { program := "ytnjhblakghjdoaagreat", sum := "843ca49b34f16f35eebe126dd71b5dd8e289271608970479c10d925332ff1974", func := "vernier/vernierlaw14.GenThirties", spec := "genThirties", inPlace := ["math/bits.Add64", "math/bits.Sub64"], unfollowed := true, recurses := true, named := ["math/bits.divideError", "math/bits.overflowError"], apart := false }
def GenThirtiesSaid : Prop := genThirtiesRow.holds Tryz.pinned (OpenSpec.ofChange genThirtiesSpec)

/-- ITS FALSE NEIGHBOUR: 'it returns false'. Refute it at one input. -/
def genThirtiesWrong : ChangeSpec := { name := "genThirties", fn := fun _ => fun
  | [d1, d2, d3] => { results := [.lit (.bool false)], args := [d1, d2, d3] }
  | _ => none }
def GenThirtiesWrongFalsely : Prop := genThirtiesRow.holds Tryz.pinned (OpenSpec.ofChange genThirtiesWrong)

/-- 'vernierlaw14.GenSixties': WHATEVER THE INPUT: true; the input reads as it did. -/
def genSixtiesSpec : ChangeSpec := { name := "genSixties", fn := fun _ => fun
  | [d1, d2, d3] => { results := [.lit (.bool true)], args := [d1, d2, d3] }
  | _ => none }
def genSixtiesRow : OpenClaim := { program := "ytnjhblakghjdoaagreat", sum := "843ca49b34f16f35eebe126dd71b5dd8e289271608970479c10d925332ff1974", func := "vernier/vernierlaw14.GenSixties", spec := "genSixties", inPlace := ["math/bits.Add64", "math/bits.Sub64"], unfollowed := true, recurses := true, named := ["math/bits.divideError", "math/bits.overflowError"], apart := false }
def GenSixtiesSaid : Prop := genSixtiesRow.holds Tryz.pinned (OpenSpec.ofChange genSixtiesSpec)

/-- ITS FALSE NEIGHBOUR: 'it returns false'. Refute it at one input. -/
def genSixtiesWrong : ChangeSpec := { name := "genSixties", fn := fun _ => fun
  | [d1, d2, d3] => { results := [.lit (.bool false)], args := [d1, d2, d3] }
  | _ => none }
def GenSixtiesWrongFalsely : Prop := genSixtiesRow.holds Tryz.pinned (OpenSpec.ofChange genSixtiesWrong)

/- THE SECOND FORM. 'bulk': how many values and letters a reading holds, each counted each time it is reached (what is shared counts as often as it is met; a slice's spare places count too). A statement '..UptoSaid' is the law's where the arguments, and the package variables that the reading takes, are together of bulk at most 1048576: NARROWER than '..Said'. Prove '..Said' where nothing that the law and all that it calls make is longer than what came in: it says more and counts as full. Else prove '..UptoSaid'. A law counts once. -/
mutual
def uptoBulk {H : Type} : DataW H → Nat
  | .lit (.string bytes) => bytes.length + 1
  | .lit _ => 1
  | .nil => 1
  | .ptr d => uptoBulk d + 1
  | .slice elems spare => uptoBulkAll elems + uptoBulkAll spare + 1
  | .agg parts => uptoBulkAll parts + 1
  | .iface _ d => uptoBulk d + 1
  | .map entries => uptoBulkEntries entries + 1
  | .held _ => 1
def uptoBulkAll {H : Type} : List (DataW H) → Nat
  | [] => 0
  | d :: r => uptoBulk d + uptoBulkAll r
def uptoBulkEntries {H : Type} : List (Lit × DataW H) → Nat
  | [] => 0
  | x :: r => uptoBulkEntry x + uptoBulkEntries r
def uptoBulkEntry {H : Type} : Lit × DataW H → Nat
  | (.string bytes, d) => bytes.length + uptoBulk d + 1
  | (_, d) => uptoBulk d + 1
 end
def uptoSmall : (H : Type) → List (DataW H) → Bool := fun _ ds => decide (uptoBulkAll ds ≤ 1048576)
def OpenSpec.upto (s : _root_.Go.ChangeSpec) : _root_.Go.OpenSpec := { _root_.Go.OpenSpec.ofChange s with cond := some uptoSmall }

/-- 'vernierlaw14.GenHorners', WHERE WHAT IT READS IS OF BULK AT MOST 1048576: true; the input reads as it did. -/
def genHornersUptoRow : OpenClaim := { program := "ytnjhblakghjdoaagreat", sum := "843ca49b34f16f35eebe126dd71b5dd8e289271608970479c10d925332ff1974", func := "vernier/vernierlaw14.GenHorners", spec := "genHorners", inPlace := ["math/bits.Add64", "math/bits.Sub64"], unfollowed := true, recurses := true, apart := false, narrowed := true }
def GenHornersUptoSaid : Prop := genHornersUptoRow.holds Tryz.pinned (OpenSpec.upto genHornersSpec)

/-- 'vernierlaw14.GenEights', WHERE WHAT IT READS IS OF BULK AT MOST 1048576: true; the input reads as it did. -/
def genEightsUptoRow : OpenClaim := { program := "ytnjhblakghjdoaagreat", sum := "843ca49b34f16f35eebe126dd71b5dd8e289271608970479c10d925332ff1974", func := "vernier/vernierlaw14.GenEights", spec := "genEights", inPlace := ["math/bits.Add64", "math/bits.Sub64"], unfollowed := true, recurses := true, named := ["math/bits.divideError", "math/bits.overflowError"], apart := false, narrowed := true }
def GenEightsUptoSaid : Prop := genEightsUptoRow.holds Tryz.pinned (OpenSpec.upto genEightsSpec)

/-- 'vernierlaw14.GenSixteens', WHERE WHAT IT READS IS OF BULK AT MOST 1048576: true; the input reads as it did. -/
def genSixteensUptoRow : OpenClaim := { program := "ytnjhblakghjdoaagreat", sum := "843ca49b34f16f35eebe126dd71b5dd8e289271608970479c10d925332ff1974", func := "vernier/vernierlaw14.GenSixteens", spec := "genSixteens", inPlace := ["math/bits.Add64", "math/bits.Sub64"], unfollowed := true, recurses := true, named := ["math/bits.divideError", "math/bits.overflowError"], apart := false, narrowed := true }
def GenSixteensUptoSaid : Prop := genSixteensUptoRow.holds Tryz.pinned (OpenSpec.upto genSixteensSpec)

/-- 'vernierlaw14.GenThirties', WHERE WHAT IT READS IS OF BULK AT MOST 1048576: true; the input reads as it did. -/
def genThirtiesUptoRow : OpenClaim := { program := "ytnjhblakghjdoaagreat", sum := "843ca49b34f16f35eebe126dd71b5dd8e289271608970479c10d925332ff1974", func := "vernier/vernierlaw14.GenThirties", spec := "genThirties", inPlace := ["math/bits.Add64", "math/bits.Sub64"], unfollowed := true, recurses := true, named := ["math/bits.divideError", "math/bits.overflowError"], apart := false, narrowed := true }
def GenThirtiesUptoSaid : Prop := genThirtiesUptoRow.holds Tryz.pinned (OpenSpec.upto genThirtiesSpec)

/-- 'vernierlaw14.GenSixties', WHERE WHAT IT READS IS OF BULK AT MOST 1048576: true; the input reads as it did. -/
def genSixtiesUptoRow : OpenClaim := { program := "ytnjhblakghjdoaagreat", sum := "843ca49b34f16f35eebe126dd71b5dd8e289271608970479c10d925332ff1974", func := "vernier/vernierlaw14.GenSixties", spec := "genSixties", inPlace := ["math/bits.Add64", "math/bits.Sub64"], unfollowed := true, recurses := true, named := ["math/bits.divideError", "math/bits.overflowError"], apart := false, narrowed := true }
def GenSixtiesUptoSaid : Prop := genSixtiesUptoRow.holds Tryz.pinned (OpenSpec.upto genSixtiesSpec)

end Rows
end Go.Proofs.YtnjhblakghjdoaaGreat
