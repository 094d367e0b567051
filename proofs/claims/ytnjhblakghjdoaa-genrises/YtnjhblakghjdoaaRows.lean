/-
  No cell of these rows narrows 'for every input' (looked for: loops, veiled, ifaces, maps, wideKeys, modest, calm, conditions, laid).
  DERIVED. THE GIVEN ROWS OF THIS SEAT. 4 by the template 'for every input the law returns true; each argument reads behind the call as it read before'; 0 by the template 'total and deterministic' (their statements: YtnjhblakghjdoaaTotals.lean).
  GIVEN WITH THE SEED: the statements are not yours to turn. If you find one false, say at which input.
  Laid BY PROGRAM, IN A SANDBOX (cutbox-rows.mjs): the forced cells as the released guide's own fill.sh prints them over the translation c1dc2906d8e917da… (all of the seat's roots in one cut). By AI agents, Wed Nov 11 2026. No macro, syntax, notation, axiom, sorry.
-/
import Derived.Test.YtnjhblakghjdoaaChecked
import GoSem.Claim
import GoSem.ClaimJoined
import GoSem.ClaimMapViews
import Derived.JoinedTies
import Derived.KernelRfl
namespace Go.Proofs.Ytnjhblakghjdoaa
/- THE CELL 'sum', in the pinned program and in every row, IS THE sha256 OF THE DUMP (.gsa) THAT YtnjhblakghjdoaaProg.lean LOADS. Nothing in Lean hashes anything: it is a label: what it is worth is what the hold of that sum in a sandbox is worth. -/
noncomputable def Try.pinned : Pinned := { name := "ytnjhblakghjdoaa", sum := "c1dc2906d8e917da76f17389623b375402ef0d570e9f91bea897dc5cf0bf741d", checked := Try.checked }
namespace Rows
def none {H : Type} : Left H := { results := [], args := [] }

/-- 'vernierlaw14.GenTos': WHATEVER THE INPUT: true; the input reads as it did. -/
def genTosSpec : ChangeSpec := { name := "genTos", fn := fun _ => fun
  | [d] => { results := [.lit (.bool true)], args := [d] }
  | _ => none }
def genTosRow : OpenClaim := { program := "ytnjhblakghjdoaa", sum := "c1dc2906d8e917da76f17389623b375402ef0d570e9f91bea897dc5cf0bf741d", func := "vernier/vernierlaw14.GenTos", spec := "genTos", inPlace := ["math/bits.Add64", "math/bits.Sub64"], unfollowed := true, recurses := true, apart := false }
def GenTosSaid : Prop := genTosRow.holds Try.pinned (OpenSpec.ofChange genTosSpec)

/-- ITS FALSE NEIGHBOUR: 'it returns false'. Refute it at one input. -/
def genTosWrong : ChangeSpec := { name := "genTos", fn := fun _ => fun
  | [d] => { results := [.lit (.bool false)], args := [d] }
  | _ => none }
def GenTosWrongFalsely : Prop := genTosRow.holds Try.pinned (OpenSpec.ofChange genTosWrong)

/-- 'vernierlaw14.GenConverts': WHATEVER THE INPUT: true; the input reads as it did. -/
def genConvertsSpec : ChangeSpec := { name := "genConverts", fn := fun _ => fun
  | [d1, d2, d3] => { results := [.lit (.bool true)], args := [d1, d2, d3] }
  | _ => none }
def genConvertsRow : OpenClaim := { program := "ytnjhblakghjdoaa", sum := "c1dc2906d8e917da76f17389623b375402ef0d570e9f91bea897dc5cf0bf741d", func := "vernier/vernierlaw14.GenConverts", spec := "genConverts", inPlace := ["math/bits.Add64", "math/bits.Sub64"], unfollowed := true, recurses := true, apart := false }
def GenConvertsSaid : Prop := genConvertsRow.holds Try.pinned (OpenSpec.ofChange genConvertsSpec)

/-- ITS FALSE NEIGHBOUR: 'it returns false'. Refute it at one input. -/
def genConvertsWrong : ChangeSpec := { name := "genConverts", fn := fun _ => fun
  | [d1, d2, d3] => { results := [.lit (.bool false)], args := [d1, d2, d3] }
  | _ => none }
def GenConvertsWrongFalsely : Prop := genConvertsRow.holds Try.pinned (OpenSpec.ofChange genConvertsWrong)

/-- 'vernierlaw14.GenBack': WHATEVER THE INPUT: true; the input reads as it did. -/
def genBackSpec : ChangeSpec := { name := "genBack", fn := fun _ => fun
  | [d1, d2, d3] => { results := [.lit (.bool true)], args := [d1, d2, d3] }
  | _ => none }
def genBackRow : OpenClaim := { program := "ytnjhblakghjdoaa", sum := "c1dc2906d8e917da76f17389623b375402ef0d570e9f91bea897dc5cf0bf741d", func := "vernier/vernierlaw14.GenBack", spec := "genBack", inPlace := ["math/bits.Add64", "math/bits.Sub64"], unfollowed := true, recurses := true, apart := false }
def GenBackSaid : Prop := genBackRow.holds Try.pinned (OpenSpec.ofChange genBackSpec)

/-- ITS FALSE NEIGHBOUR: 'it returns false'. Refute it at one input. -/
def genBackWrong : ChangeSpec := { name := "genBack", fn := fun _ => fun
  | [d1, d2, d3] => { results := [.lit (.bool false)], args := [d1, d2, d3] }
  | _ => none }
def GenBackWrongFalsely : Prop := genBackRow.holds Try.pinned (OpenSpec.ofChange genBackWrong)

/-- 'vernierlaw14.GenRises': WHATEVER THE INPUT: true; the input reads as it did. -/
def genRisesSpec : ChangeSpec := { name := "genRises", fn := fun _ => fun
  | [d1, d2, d3, d4] => { results := [.lit (.bool true)], args := [d1, d2, d3, d4] }
  | _ => none }
def genRisesRow : OpenClaim := { program := "ytnjhblakghjdoaa", sum := "c1dc2906d8e917da76f17389623b375402ef0d570e9f91bea897dc5cf0bf741d", func := "vernier/vernierlaw14.GenRises", spec := "genRises", inPlace := ["math/bits.Add64", "math/bits.Sub64"], unfollowed := true, recurses := true, apart := false }
def GenRisesSaid : Prop := genRisesRow.holds Try.pinned (OpenSpec.ofChange genRisesSpec)

/-- ITS FALSE NEIGHBOUR: 'it returns false'. Refute it at one input. -/
def genRisesWrong : ChangeSpec := { name := "genRises", fn := fun _ => fun
  | [d1, d2, d3, d4] => { results := [.lit (.bool false)], args := [d1, d2, d3, d4] }
  | _ => none }
def GenRisesWrongFalsely : Prop := genRisesRow.holds Try.pinned (OpenSpec.ofChange genRisesWrong)

/- THE SECOND FORM. 'bulk': how many values and letters a reading holds, each counted each time it is reached (what is shared counts as often as it is met; a slice's spare places count too). A statement '..UptoSaid' is the law's where the arguments, and the package variables that the reading takes, are together of bulk at most 1048576: NARROWER than '..Said'. Prove '..Said' where nothing that the law and all that it calls make is longer than what came in: it says more and counts as full. Else prove '..UptoSaid'. A law counts once. -/
mutual
def uptoBulk {H : Type} : DataW H → Nat
  | .lit (.string bytes) => bytes.length + 1
  | .lit _ => 1
  | .nil => 1
  | .ptr d => uptoBulk d + 1
  | .slice elems spare => uptoBulkAll elems + uptoBulkAll spare + 1
  | .agg parts => uptoBulkAll parts + 1
  | .iface _ d => uptoBulk d + 1
  | .map entries => uptoBulkEntries entries + 1
  | .held _ => 1
def uptoBulkAll {H : Type} : List (DataW H) → Nat
  | [] => 0
  | d :: r => uptoBulk d + uptoBulkAll r
def uptoBulkEntries {H : Type} : List (Lit × DataW H) → Nat
  | [] => 0
  | x :: r => uptoBulkEntry x + uptoBulkEntries r
def uptoBulkEntry {H : Type} : Lit × DataW H → Nat
  | (.string bytes, d) => bytes.length + uptoBulk d + 1
  | (_, d) => uptoBulk d + 1
 end
def uptoSmall : (H : Type) → List (DataW H) → Bool := fun _ ds => decide (uptoBulkAll ds ≤ 1048576)
def OpenSpec.upto (s : _root_.Go.ChangeSpec) : _root_.Go.OpenSpec := { _root_.Go.OpenSpec.ofChange s with cond := some uptoSmall }

/-- 'vernierlaw14.GenTos', WHERE WHAT IT READS IS OF BULK AT MOST 1048576: true; the input reads as it did. -/
def genTosUptoRow : OpenClaim := { program := "ytnjhblakghjdoaa", sum := "c1dc2906d8e917da76f17389623b375402ef0d570e9f91bea897dc5cf0bf741d", func := "vernier/vernierlaw14.GenTos", spec := "genTos", inPlace := ["math/bits.Add64", "math/bits.Sub64"], unfollowed := true, recurses := true, apart := false, narrowed := true }
def GenTosUptoSaid : Prop := genTosUptoRow.holds Try.pinned (OpenSpec.upto genTosSpec)

/-- 'vernierlaw14.GenConverts', WHERE WHAT IT READS IS OF BULK AT MOST 1048576: true; the input reads as it did. -/
def genConvertsUptoRow : OpenClaim := { program := "ytnjhblakghjdoaa", sum := "c1dc2906d8e917da76f17389623b375402ef0d570e9f91bea897dc5cf0bf741d", func := "vernier/vernierlaw14.GenConverts", spec := "genConverts", inPlace := ["math/bits.Add64", "math/bits.Sub64"], unfollowed := true, recurses := true, apart := false, narrowed := true }
def GenConvertsUptoSaid : Prop := genConvertsUptoRow.holds Try.pinned (OpenSpec.upto genConvertsSpec)

/-- 'vernierlaw14.GenBack', WHERE WHAT IT READS IS OF BULK AT MOST 1048576: true; the input reads as it did. -/
def genBackUptoRow : OpenClaim := { program := "ytnjhblakghjdoaa", sum := "c1dc2906d8e917da76f17389623b375402ef0d570e9f91bea897dc5cf0bf741d", func := "vernier/vernierlaw14.GenBack", spec := "genBack", inPlace := ["math/bits.Add64", "math/bits.Sub64"], unfollowed := true, recurses := true, apart := false, narrowed := true }
def GenBackUptoSaid : Prop := genBackUptoRow.holds Try.pinned (OpenSpec.upto genBackSpec)

/-- 'vernierlaw14.GenRises', WHERE WHAT IT READS IS OF BULK AT MOST 1048576: true; the input reads as it did. -/
def genRisesUptoRow : OpenClaim := { program := "ytnjhblakghjdoaa", sum := "c1dc2906d8e917da76f17389623b375402ef0d570e9f91bea897dc5cf0bf741d", func := "vernier/vernierlaw14.GenRises", spec := "genRises", inPlace := ["math/bits.Add64", "math/bits.Sub64"], unfollowed := true, recurses := true, apart := false, narrowed := true }
def GenRisesUptoSaid : Prop := genRisesUptoRow.holds Try.pinned (OpenSpec.upto genRisesSpec)

end Rows
end Go.Proofs.Ytnjhblakghjdoaa
