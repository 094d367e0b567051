/-
  No cell of these rows narrows 'for every input' (looked for: loops, veiled, ifaces, maps, wideKeys, modest, calm, conditions, laid).
  DERIVED. THE GIVEN ROWS OF THIS SEAT. 7 by the template 'for every input the law returns true; each argument reads behind the call as it read before'; 0 by the template 'total and deterministic' (their statements: YtbpcfhhcoklinaaGreatTotals.lean).
  GIVEN WITH THE SEED: the statements are not yours to turn. If you find one false, say at which input.
  Laid BY PROGRAM, IN A SANDBOX (cutbox-rows.mjs): the forced cells as the released guide's own fill.sh prints them over the translation e58b77ab2d7925b2… (all of the seat's roots in one cut). By AI agents, Wed Nov 11 2026. No macro, syntax, notation, axiom, sorry.
-/
import Derived.Test.YtbpcfhhcoklinaaGreatChecked
import GoSem.Claim
import GoSem.ClaimJoined
import GoSem.ClaimMapViews
import Derived.JoinedTies
import Derived.KernelRfl
namespace Go.Proofs.YtbpcfhhcoklinaaGreat
/- THE CELL 'sum', in the pinned program and in every row, IS THE sha256 OF THE DUMP (.gsa) THAT YtbpcfhhcoklinaaGreatProg.lean LOADS. Nothing in Lean hashes anything: it is a label: what it is worth is what the hold of that sum in a sandbox is worth. -/
noncomputable def Tryz.pinned : Pinned := { name := "ytbpcfhhcoklinaagreat", sum := "e58b77ab2d7925b20585ef48bd31a070eda9c3981d3af6503f8d17d9d7677182", checked := Tryz.checked }
namespace Rows
def none {H : Type} : Left H := { results := [], args := [] }

/-- 'vernierlaw20.VecPolys': WHATEVER THE INPUT: true; the input reads as it did. -/
def vecPolysSpec : ChangeSpec := { name := "vecPolys", fn := fun _ => fun
  | [d1, d2, d3] => { results := [.lit (.bool true)], args := [d1, d2, d3] }
  | _ => none }
def vecPolysRow : OpenClaim := { program := "ytbpcfhhcoklinaagreat", sum := "e58b77ab2d7925b20585ef48bd31a070eda9c3981d3af6503f8d17d9d7677182", func := "vernier/vernierlaw20.VecPolys", spec := "vecPolys", inPlace := ["math/bits.Sub64", "math/bits.Add64"], unfollowed := true, recurses := true, apart := false }
def VecPolysSaid : Prop := vecPolysRow.holds Tryz.pinned (OpenSpec.ofChange vecPolysSpec)

/-- ITS FALSE NEIGHBOUR: 'it returns false'. Refute it at one input. -/
def vecPolysWrong : ChangeSpec := { name := "vecPolys", fn := fun _ => fun
  | [d1, d2, d3] => { results := [.lit (.bool false)], args := [d1, d2, d3] }
  | _ => none }
def VecPolysWrongFalsely : Prop := vecPolysRow.holds Tryz.pinned (OpenSpec.ofChange vecPolysWrong)

/-- 'vernierlaw20.VecScales': WHATEVER THE INPUT: true; the input reads as it did. -/
def vecScalesSpec : ChangeSpec := { name := "vecScales", fn := fun _ => fun
  | [d1, d2, d3] => { results := [.lit (.bool true)], args := [d1, d2, d3] }
  | _ => none }
def vecScalesRow : OpenClaim := { program := "ytbpcfhhcoklinaagreat", sum := "e58b77ab2d7925b20585ef48bd31a070eda9c3981d3af6503f8d17d9d7677182", func := "vernier/vernierlaw20.VecScales", spec := "vecScales", inPlace := ["math/bits.Sub64", "math/bits.Add64"], unfollowed := true, recurses := true, apart := false }
def VecScalesSaid : Prop := vecScalesRow.holds Tryz.pinned (OpenSpec.ofChange vecScalesSpec)

/-- ITS FALSE NEIGHBOUR: 'it returns false'. Refute it at one input. -/
def vecScalesWrong : ChangeSpec := { name := "vecScales", fn := fun _ => fun
  | [d1, d2, d3] => { results := [.lit (.bool false)], args := [d1, d2, d3] }
  | _ => none }
def VecScalesWrongFalsely : Prop := vecScalesRow.holds Tryz.pinned (OpenSpec.ofChange vecScalesWrong)

/-- 'vernierlaw20.VecRuns': WHATEVER THE INPUT: true; the input reads as it did. -/
def vecRunsSpec : ChangeSpec := { name := "vecRuns", fn := fun _ => fun
  | [d1, d2, d3] => { results := [.lit (.bool true)], args := [d1, d2, d3] }
  | _ => none }
def vecRunsRow : OpenClaim := { program := "ytbpcfhhcoklinaagreat", sum := "e58b77ab2d7925b20585ef48bd31a070eda9c3981d3af6503f8d17d9d7677182", func := "vernier/vernierlaw20.VecRuns", spec := "vecRuns", inPlace := ["math/bits.Sub64", "math/bits.Add64"], unfollowed := true, recurses := true, apart := false }
def VecRunsSaid : Prop := vecRunsRow.holds Tryz.pinned (OpenSpec.ofChange vecRunsSpec)

/-- ITS FALSE NEIGHBOUR: 'it returns false'. Refute it at one input. -/
def vecRunsWrong : ChangeSpec := { name := "vecRuns", fn := fun _ => fun
  | [d1, d2, d3] => { results := [.lit (.bool false)], args := [d1, d2, d3] }
  | _ => none }
def VecRunsWrongFalsely : Prop := vecRunsRow.holds Tryz.pinned (OpenSpec.ofChange vecRunsWrong)

/-- 'vernierlaw20.VecInto': WHATEVER THE INPUT: true; the input reads as it did. -/
def vecIntoSpec : ChangeSpec := { name := "vecInto", fn := fun _ => fun
  | [d1, d2, d3] => { results := [.lit (.bool true)], args := [d1, d2, d3] }
  | _ => none }
def vecIntoRow : OpenClaim := { program := "ytbpcfhhcoklinaagreat", sum := "e58b77ab2d7925b20585ef48bd31a070eda9c3981d3af6503f8d17d9d7677182", func := "vernier/vernierlaw20.VecInto", spec := "vecInto", inPlace := ["math/bits.Sub64", "math/bits.Add64"], unfollowed := true, recurses := true, apart := false }
def VecIntoSaid : Prop := vecIntoRow.holds Tryz.pinned (OpenSpec.ofChange vecIntoSpec)

/-- ITS FALSE NEIGHBOUR: 'it returns false'. Refute it at one input. -/
def vecIntoWrong : ChangeSpec := { name := "vecInto", fn := fun _ => fun
  | [d1, d2, d3] => { results := [.lit (.bool false)], args := [d1, d2, d3] }
  | _ => none }
def VecIntoWrongFalsely : Prop := vecIntoRow.holds Tryz.pinned (OpenSpec.ofChange vecIntoWrong)

/-- 'vernierlaw20.VecDots': WHATEVER THE INPUT: true; the input reads as it did. -/
def vecDotsSpec : ChangeSpec := { name := "vecDots", fn := fun _ => fun
  | [d1, d2, d3] => { results := [.lit (.bool true)], args := [d1, d2, d3] }
  | _ => none }
def vecDotsRow : OpenClaim := { program := "ytbpcfhhcoklinaagreat", sum := "e58b77ab2d7925b20585ef48bd31a070eda9c3981d3af6503f8d17d9d7677182", func := "vernier/vernierlaw20.VecDots", spec := "vecDots", inPlace := ["math/bits.Sub64", "math/bits.Add64"], unfollowed := true, recurses := true, apart := false }
def VecDotsSaid : Prop := vecDotsRow.holds Tryz.pinned (OpenSpec.ofChange vecDotsSpec)

/-- ITS FALSE NEIGHBOUR: 'it returns false'. Refute it at one input. -/
def vecDotsWrong : ChangeSpec := { name := "vecDots", fn := fun _ => fun
  | [d1, d2, d3] => { results := [.lit (.bool false)], args := [d1, d2, d3] }
  | _ => none }
def VecDotsWrongFalsely : Prop := vecDotsRow.holds Tryz.pinned (OpenSpec.ofChange vecDotsWrong)

/-- 'vernierlaw20.VecEach': WHATEVER THE INPUT: true; the input reads as it did. -/
def vecEachSpec : ChangeSpec := { name := "vecEach", fn := fun _ => fun
  | [d1, d2] => { results := [.lit (.bool true)], args := [d1, d2] }
  | _ => none }
def vecEachRow : OpenClaim := { program := "ytbpcfhhcoklinaagreat", sum := "e58b77ab2d7925b20585ef48bd31a070eda9c3981d3af6503f8d17d9d7677182", func := "vernier/vernierlaw20.VecEach", spec := "vecEach", inPlace := ["math/bits.Sub64", "math/bits.Add64"], unfollowed := true, recurses := true, named := ["math/bits.divideError", "math/bits.overflowError"], apart := false }
def VecEachSaid : Prop := vecEachRow.holds Tryz.pinned (OpenSpec.ofChange vecEachSpec)

/-- ITS FALSE NEIGHBOUR: 'it returns false'. Refute it at one input. -/
def vecEachWrong : ChangeSpec := { name := "vecEach", fn := fun _ => fun
  | [d1, d2] => { results := [.lit (.bool false)], args := [d1, d2] }
  | _ => none }
def VecEachWrongFalsely : Prop := vecEachRow.holds Tryz.pinned (OpenSpec.ofChange vecEachWrong)

/-- 'vernierlaw20.VecOwns': WHATEVER THE INPUT: true; the input reads as it did. -/
def vecOwnsSpec : ChangeSpec := { name := "vecOwns", fn := fun _ => fun
  | [d1, d2, d3] => { results := [.lit (.bool true)], args := [d1, d2, d3] }
  | _ => none }
def vecOwnsRow : OpenClaim := { program := "ytbpcfhhcoklinaagreat", sum := "e58b77ab2d7925b20585ef48bd31a070eda9c3981d3af6503f8d17d9d7677182", func := "vernier/vernierlaw20.VecOwns", spec := "vecOwns", inPlace := ["math/bits.Sub64", "math/bits.Add64"], unfollowed := true, recurses := true, named := ["math/bits.divideError", "math/bits.overflowError"], apart := false }
def VecOwnsSaid : Prop := vecOwnsRow.holds Tryz.pinned (OpenSpec.ofChange vecOwnsSpec)

/-- ITS FALSE NEIGHBOUR: 'it returns false'. Refute it at one input. -/
def vecOwnsWrong : ChangeSpec := { name := "vecOwns", fn := fun _ => fun
  | [d1, d2, d3] => { results := [.lit (.bool false)], args := [d1, d2, d3] }
  | _ => none }
def VecOwnsWrongFalsely : Prop := vecOwnsRow.holds Tryz.pinned (OpenSpec.ofChange vecOwnsWrong)

/- THE SECOND FORM. 'bulk': how many values and letters a reading holds, each counted each time it is reached (what is shared counts as often as it is met; a slice's spare places count too). A statement '..UptoSaid' is the law's where the arguments, and the package variables that the reading takes, are together of bulk at most 1048576: NARROWER than '..Said'. Prove '..Said' where nothing that the law and all that it calls make is longer than what came in: it says more and counts as full. Else prove '..UptoSaid'. A law counts once. -/
mutual
def uptoBulk {H : Type} : DataW H → Nat
  | .lit (.string bytes) => bytes.length + 1
  | .lit _ => 1
  | .nil => 1
  | .ptr d => uptoBulk d + 1
  | .slice elems spare => uptoBulkAll elems + uptoBulkAll spare + 1
  | .agg parts => uptoBulkAll parts + 1
  | .iface _ d => uptoBulk d + 1
  | .map entries => uptoBulkEntries entries + 1
  | .held _ => 1
def uptoBulkAll {H : Type} : List (DataW H) → Nat
  | [] => 0
  | d :: r => uptoBulk d + uptoBulkAll r
def uptoBulkEntries {H : Type} : List (Lit × DataW H) → Nat
  | [] => 0
  | x :: r => uptoBulkEntry x + uptoBulkEntries r
def uptoBulkEntry {H : Type} : Lit × DataW H → Nat
  | (.string bytes, d) => bytes.length + uptoBulk d + 1
  | (_, d) => uptoBulk d + 1
 end
def uptoSmall : (H : Type) → List (DataW H) → Bool := fun _ ds => decide (uptoBulkAll ds ≤ 1048576)
def OpenSpec.upto (s : _root_.Go.ChangeSpec) : _root_.Go.OpenSpec := { _root_.Go.OpenSpec.ofChange s with cond := some uptoSmall }

/-- 'vernierlaw20.VecPolys', WHERE WHAT IT READS IS OF BULK AT MOST 1048576: true; the input reads as it did. -/
def vecPolysUptoRow : OpenClaim := { program := "ytbpcfhhcoklinaagreat", sum := "e58b77ab2d7925b20585ef48bd31a070eda9c3981d3af6503f8d17d9d7677182", func := "vernier/vernierlaw20.VecPolys", spec := "vecPolys", inPlace := ["math/bits.Sub64", "math/bits.Add64"], unfollowed := true, recurses := true, apart := false, narrowed := true }
def VecPolysUptoSaid : Prop := vecPolysUptoRow.holds Tryz.pinned (OpenSpec.upto vecPolysSpec)

/-- 'vernierlaw20.VecScales', WHERE WHAT IT READS IS OF BULK AT MOST 1048576: true; the input reads as it did. -/
def vecScalesUptoRow : OpenClaim := { program := "ytbpcfhhcoklinaagreat", sum := "e58b77ab2d7925b20585ef48bd31a070eda9c3981d3af6503f8d17d9d7677182", func := "vernier/vernierlaw20.VecScales", spec := "vecScales", inPlace := ["math/bits.Sub64", "math/bits.Add64"], unfollowed := true, recurses := true, apart := false, narrowed := true }
def VecScalesUptoSaid : Prop := vecScalesUptoRow.holds Tryz.pinned (OpenSpec.upto vecScalesSpec)

/-- 'vernierlaw20.VecRuns', WHERE WHAT IT READS IS OF BULK AT MOST 1048576: true; the input reads as it did. -/
def vecRunsUptoRow : OpenClaim := { program := "ytbpcfhhcoklinaagreat", sum := "e58b77ab2d7925b20585ef48bd31a070eda9c3981d3af6503f8d17d9d7677182", func := "vernier/vernierlaw20.VecRuns", spec := "vecRuns", inPlace := ["math/bits.Sub64", "math/bits.Add64"], unfollowed := true, recurses := true, apart := false, narrowed := true }
def VecRunsUptoSaid : Prop := vecRunsUptoRow.holds Tryz.pinned (OpenSpec.upto vecRunsSpec)

/-- 'vernierlaw20.VecInto', WHERE WHAT IT READS IS OF BULK AT MOST 1048576: true; the input reads as it did. -/
def vecIntoUptoRow : OpenClaim := { program := "ytbpcfhhcoklinaagreat", sum := "e58b77ab2d7925b20585ef48bd31a070eda9c3981d3af6503f8d17d9d7677182", func := "vernier/vernierlaw20.VecInto", spec := "vecInto", inPlace := ["math/bits.Sub64", "math/bits.Add64"], unfollowed := true, recurses := true, apart := false, narrowed := true }
def VecIntoUptoSaid : Prop := vecIntoUptoRow.holds Tryz.pinned (OpenSpec.upto vecIntoSpec)

/-- 'vernierlaw20.VecDots', WHERE WHAT IT READS IS OF BULK AT MOST 1048576: true; the input reads as it did. -/
def vecDotsUptoRow : OpenClaim := { program := "ytbpcfhhcoklinaagreat", sum := "e58b77ab2d7925b20585ef48bd31a070eda9c3981d3af6503f8d17d9d7677182", func := "vernier/vernierlaw20.VecDots", spec := "vecDots", inPlace := ["math/bits.Sub64", "math/bits.Add64"], unfollowed := true, recurses := true, apart := false, narrowed := true }
def VecDotsUptoSaid : Prop := vecDotsUptoRow.holds Tryz.pinned (OpenSpec.upto vecDotsSpec)

/-- 'vernierlaw20.VecEach', WHERE WHAT IT READS IS OF BULK AT MOST 1048576: true; the input reads as it did. -/
def vecEachUptoRow : OpenClaim := { program := "ytbpcfhhcoklinaagreat", sum := "e58b77ab2d7925b20585ef48bd31a070eda9c3981d3af6503f8d17d9d7677182", func := "vernier/vernierlaw20.VecEach", spec := "vecEach", inPlace := ["math/bits.Sub64", "math/bits.Add64"], unfollowed := true, recurses := true, named := ["math/bits.divideError", "math/bits.overflowError"], apart := false, narrowed := true }
def VecEachUptoSaid : Prop := vecEachUptoRow.holds Tryz.pinned (OpenSpec.upto vecEachSpec)

/-- 'vernierlaw20.VecOwns', WHERE WHAT IT READS IS OF BULK AT MOST 1048576: true; the input reads as it did. -/
def vecOwnsUptoRow : OpenClaim := { program := "ytbpcfhhcoklinaagreat", sum := "e58b77ab2d7925b20585ef48bd31a070eda9c3981d3af6503f8d17d9d7677182", func := "vernier/vernierlaw20.VecOwns", spec := "vecOwns", inPlace := ["math/bits.Sub64", "math/bits.Add64"], unfollowed := true, recurses := true, named := ["math/bits.divideError", "math/bits.overflowError"], apart := false, narrowed := true }
def VecOwnsUptoSaid : Prop := vecOwnsUptoRow.holds Tryz.pinned (OpenSpec.upto vecOwnsSpec)

end Rows
end Go.Proofs.YtbpcfhhcoklinaaGreat
