/-
  No cell of these rows narrows 'for every input' (looked for: loops, veiled, ifaces, maps, wideKeys, modest, calm, conditions, laid).
  DERIVED. THE GIVEN ROWS OF THIS SEAT. 7 by the template 'for every input the law returns true; each argument reads behind the call as it read before'; 0 by the template 'total and deterministic' (their statements: YtfegofnplcmacaaTotals.lean).
  GIVEN WITH THE SEED: the statements are not yours to turn. If you find one false, say at which input.
  Laid BY PROGRAM, IN A SANDBOX (cutbox-rows.mjs): the forced cells as the released guide's own fill.sh prints them over the translation 0a4d754682e6d1ad… (all of the seat's roots in one cut). By AI agents, Wed Nov 11 2026. No macro, syntax, notation, axiom, sorry.
-/
import Derived.Test.YtfegofnplcmacaaChecked
import GoSem.Claim
import GoSem.ClaimJoined
import GoSem.ClaimMapViews
import Derived.JoinedTies
import Derived.KernelRfl
namespace Go.Proofs.Ytfegofnplcmacaa
/- THE CELL 'sum', in the pinned program and in every row, IS THE sha256 OF THE DUMP (.gsa) THAT YtfegofnplcmacaaProg.lean LOADS. Nothing in Lean hashes anything: it is a label: what it is worth is what the hold of that sum in a sandbox is worth. -/
noncomputable def Try.pinned : Pinned := { name := "ytfegofnplcmacaa", sum := "0a4d754682e6d1adb4b49c3f9069ab302501af7892de9398c4a3b4e1554e26a6", checked := Try.checked }
namespace Rows
def none {H : Type} : Left H := { results := [], args := [] }

/-- 'vernierlaw07.RoundCuts': WHATEVER THE INPUT: true; the input reads as it did. -/
def roundCutsSpec : ChangeSpec := { name := "roundCuts", fn := fun _ => fun
  | [d1, d2] => { results := [.lit (.bool true)], args := [d1, d2] }
  | _ => none }
def roundCutsRow : OpenClaim := { program := "ytfegofnplcmacaa", sum := "0a4d754682e6d1adb4b49c3f9069ab302501af7892de9398c4a3b4e1554e26a6", func := "vernier/vernierlaw07.RoundCuts", spec := "roundCuts", apart := false }
def RoundCutsSaid : Prop := roundCutsRow.holds Try.pinned (OpenSpec.ofChange roundCutsSpec)

/-- ITS FALSE NEIGHBOUR: 'it returns false'. Refute it at one input. -/
def roundCutsWrong : ChangeSpec := { name := "roundCuts", fn := fun _ => fun
  | [d1, d2] => { results := [.lit (.bool false)], args := [d1, d2] }
  | _ => none }
def RoundCutsWrongFalsely : Prop := roundCutsRow.holds Try.pinned (OpenSpec.ofChange roundCutsWrong)

/-- 'vernierlaw07.RoundRounds': WHATEVER THE INPUT: true; the input reads as it did. -/
def roundRoundsSpec : ChangeSpec := { name := "roundRounds", fn := fun _ => fun
  | [d1, d2] => { results := [.lit (.bool true)], args := [d1, d2] }
  | _ => none }
def roundRoundsRow : OpenClaim := { program := "ytfegofnplcmacaa", sum := "0a4d754682e6d1adb4b49c3f9069ab302501af7892de9398c4a3b4e1554e26a6", func := "vernier/vernierlaw07.RoundRounds", spec := "roundRounds", apart := false }
def RoundRoundsSaid : Prop := roundRoundsRow.holds Try.pinned (OpenSpec.ofChange roundRoundsSpec)

/-- ITS FALSE NEIGHBOUR: 'it returns false'. Refute it at one input. -/
def roundRoundsWrong : ChangeSpec := { name := "roundRounds", fn := fun _ => fun
  | [d1, d2] => { results := [.lit (.bool false)], args := [d1, d2] }
  | _ => none }
def RoundRoundsWrongFalsely : Prop := roundRoundsRow.holds Try.pinned (OpenSpec.ofChange roundRoundsWrong)

/-- 'vernierlaw07.RoundRises': WHATEVER THE INPUT: true; the input reads as it did. -/
def roundRisesSpec : ChangeSpec := { name := "roundRises", fn := fun _ => fun
  | [d1, d2, d3] => { results := [.lit (.bool true)], args := [d1, d2, d3] }
  | _ => none }
def roundRisesRow : OpenClaim := { program := "ytfegofnplcmacaa", sum := "0a4d754682e6d1adb4b49c3f9069ab302501af7892de9398c4a3b4e1554e26a6", func := "vernier/vernierlaw07.RoundRises", spec := "roundRises", apart := false }
def RoundRisesSaid : Prop := roundRisesRow.holds Try.pinned (OpenSpec.ofChange roundRisesSpec)

/-- ITS FALSE NEIGHBOUR: 'it returns false'. Refute it at one input. -/
def roundRisesWrong : ChangeSpec := { name := "roundRises", fn := fun _ => fun
  | [d1, d2, d3] => { results := [.lit (.bool false)], args := [d1, d2, d3] }
  | _ => none }
def RoundRisesWrongFalsely : Prop := roundRisesRow.holds Try.pinned (OpenSpec.ofChange roundRisesWrong)

/-- 'vernierlaw07.RoundOfs': WHATEVER THE INPUT: true; the input reads as it did. -/
def roundOfsSpec : ChangeSpec := { name := "roundOfs", fn := fun _ => fun
  | [d] => { results := [.lit (.bool true)], args := [d] }
  | _ => none }
def roundOfsRow : OpenClaim := { program := "ytfegofnplcmacaa", sum := "0a4d754682e6d1adb4b49c3f9069ab302501af7892de9398c4a3b4e1554e26a6", func := "vernier/vernierlaw07.RoundOfs", spec := "roundOfs", apart := false }
def RoundOfsSaid : Prop := roundOfsRow.holds Try.pinned (OpenSpec.ofChange roundOfsSpec)

/-- ITS FALSE NEIGHBOUR: 'it returns false'. Refute it at one input. -/
def roundOfsWrong : ChangeSpec := { name := "roundOfs", fn := fun _ => fun
  | [d] => { results := [.lit (.bool false)], args := [d] }
  | _ => none }
def RoundOfsWrongFalsely : Prop := roundOfsRow.holds Try.pinned (OpenSpec.ofChange roundOfsWrong)

/-- 'vernierlaw07.RoundMakes': WHATEVER THE INPUT: true; the input reads as it did. -/
def roundMakesSpec : ChangeSpec := { name := "roundMakes", fn := fun _ => fun
  | [d1, d2, d3, d4, d5] => { results := [.lit (.bool true)], args := [d1, d2, d3, d4, d5] }
  | _ => none }
def roundMakesRow : OpenClaim := { program := "ytfegofnplcmacaa", sum := "0a4d754682e6d1adb4b49c3f9069ab302501af7892de9398c4a3b4e1554e26a6", func := "vernier/vernierlaw07.RoundMakes", spec := "roundMakes", apart := false }
def RoundMakesSaid : Prop := roundMakesRow.holds Try.pinned (OpenSpec.ofChange roundMakesSpec)

/-- ITS FALSE NEIGHBOUR: 'it returns false'. Refute it at one input. -/
def roundMakesWrong : ChangeSpec := { name := "roundMakes", fn := fun _ => fun
  | [d1, d2, d3, d4, d5] => { results := [.lit (.bool false)], args := [d1, d2, d3, d4, d5] }
  | _ => none }
def RoundMakesWrongFalsely : Prop := roundMakesRow.holds Try.pinned (OpenSpec.ofChange roundMakesWrong)

/-- 'vernierlaw07.RoundBack': WHATEVER THE INPUT: true; the input reads as it did. -/
def roundBackSpec : ChangeSpec := { name := "roundBack", fn := fun _ => fun
  | [d1, d2] => { results := [.lit (.bool true)], args := [d1, d2] }
  | _ => none }
def roundBackRow : OpenClaim := { program := "ytfegofnplcmacaa", sum := "0a4d754682e6d1adb4b49c3f9069ab302501af7892de9398c4a3b4e1554e26a6", func := "vernier/vernierlaw07.RoundBack", spec := "roundBack", apart := false }
def RoundBackSaid : Prop := roundBackRow.holds Try.pinned (OpenSpec.ofChange roundBackSpec)

/-- ITS FALSE NEIGHBOUR: 'it returns false'. Refute it at one input. -/
def roundBackWrong : ChangeSpec := { name := "roundBack", fn := fun _ => fun
  | [d1, d2] => { results := [.lit (.bool false)], args := [d1, d2] }
  | _ => none }
def RoundBackWrongFalsely : Prop := roundBackRow.holds Try.pinned (OpenSpec.ofChange roundBackWrong)

/-- 'vernierlaw07.RoundTies': WHATEVER THE INPUT: true; the input reads as it did. -/
def roundTiesSpec : ChangeSpec := { name := "roundTies", fn := fun _ => fun
  | [d1, d2] => { results := [.lit (.bool true)], args := [d1, d2] }
  | _ => none }
def roundTiesRow : OpenClaim := { program := "ytfegofnplcmacaa", sum := "0a4d754682e6d1adb4b49c3f9069ab302501af7892de9398c4a3b4e1554e26a6", func := "vernier/vernierlaw07.RoundTies", spec := "roundTies", apart := false }
def RoundTiesSaid : Prop := roundTiesRow.holds Try.pinned (OpenSpec.ofChange roundTiesSpec)

/-- ITS FALSE NEIGHBOUR: 'it returns false'. Refute it at one input. -/
def roundTiesWrong : ChangeSpec := { name := "roundTies", fn := fun _ => fun
  | [d1, d2] => { results := [.lit (.bool false)], args := [d1, d2] }
  | _ => none }
def RoundTiesWrongFalsely : Prop := roundTiesRow.holds Try.pinned (OpenSpec.ofChange roundTiesWrong)

/- THE SECOND FORM. 'bulk': how many values and letters a reading holds, each counted each time it is reached (what is shared counts as often as it is met; a slice's spare places count too). A statement '..UptoSaid' is the law's where the arguments, and the package variables that the reading takes, are together of bulk at most 1048576: NARROWER than '..Said'. Prove '..Said' where nothing that the law and all that it calls make is longer than what came in: it says more and counts as full. Else prove '..UptoSaid'. A law counts once. -/
mutual
def uptoBulk {H : Type} : DataW H → Nat
  | .lit (.string bytes) => bytes.length + 1
  | .lit _ => 1
  | .nil => 1
  | .ptr d => uptoBulk d + 1
  | .slice elems spare => uptoBulkAll elems + uptoBulkAll spare + 1
  | .agg parts => uptoBulkAll parts + 1
  | .iface _ d => uptoBulk d + 1
  | .map entries => uptoBulkEntries entries + 1
  | .held _ => 1
def uptoBulkAll {H : Type} : List (DataW H) → Nat
  | [] => 0
  | d :: r => uptoBulk d + uptoBulkAll r
def uptoBulkEntries {H : Type} : List (Lit × DataW H) → Nat
  | [] => 0
  | x :: r => uptoBulkEntry x + uptoBulkEntries r
def uptoBulkEntry {H : Type} : Lit × DataW H → Nat
  | (.string bytes, d) => bytes.length + uptoBulk d + 1
  | (_, d) => uptoBulk d + 1
 end
def uptoSmall : (H : Type) → List (DataW H) → Bool := fun _ ds => decide (uptoBulkAll ds ≤ 1048576)
def OpenSpec.upto (s : _root_.Go.ChangeSpec) : _root_.Go.OpenSpec := { _root_.Go.OpenSpec.ofChange s with cond := some uptoSmall }

/-- 'vernierlaw07.RoundCuts', WHERE WHAT IT READS IS OF BULK AT MOST 1048576: true; the input reads as it did. -/
def roundCutsUptoRow : OpenClaim := { program := "ytfegofnplcmacaa", sum := "0a4d754682e6d1adb4b49c3f9069ab302501af7892de9398c4a3b4e1554e26a6", func := "vernier/vernierlaw07.RoundCuts", spec := "roundCuts", apart := false, narrowed := true }
def RoundCutsUptoSaid : Prop := roundCutsUptoRow.holds Try.pinned (OpenSpec.upto roundCutsSpec)

/-- 'vernierlaw07.RoundRounds', WHERE WHAT IT READS IS OF BULK AT MOST 1048576: true; the input reads as it did. -/
def roundRoundsUptoRow : OpenClaim := { program := "ytfegofnplcmacaa", sum := "0a4d754682e6d1adb4b49c3f9069ab302501af7892de9398c4a3b4e1554e26a6", func := "vernier/vernierlaw07.RoundRounds", spec := "roundRounds", apart := false, narrowed := true }
def RoundRoundsUptoSaid : Prop := roundRoundsUptoRow.holds Try.pinned (OpenSpec.upto roundRoundsSpec)

/-- 'vernierlaw07.RoundRises', WHERE WHAT IT READS IS OF BULK AT MOST 1048576: true; the input reads as it did. -/
def roundRisesUptoRow : OpenClaim := { program := "ytfegofnplcmacaa", sum := "0a4d754682e6d1adb4b49c3f9069ab302501af7892de9398c4a3b4e1554e26a6", func := "vernier/vernierlaw07.RoundRises", spec := "roundRises", apart := false, narrowed := true }
def RoundRisesUptoSaid : Prop := roundRisesUptoRow.holds Try.pinned (OpenSpec.upto roundRisesSpec)

/-- 'vernierlaw07.RoundOfs', WHERE WHAT IT READS IS OF BULK AT MOST 1048576: true; the input reads as it did. -/
def roundOfsUptoRow : OpenClaim := { program := "ytfegofnplcmacaa", sum := "0a4d754682e6d1adb4b49c3f9069ab302501af7892de9398c4a3b4e1554e26a6", func := "vernier/vernierlaw07.RoundOfs", spec := "roundOfs", apart := false, narrowed := true }
def RoundOfsUptoSaid : Prop := roundOfsUptoRow.holds Try.pinned (OpenSpec.upto roundOfsSpec)

/-- 'vernierlaw07.RoundMakes', WHERE WHAT IT READS IS OF BULK AT MOST 1048576: true; the input reads as it did. -/
def roundMakesUptoRow : OpenClaim := { program := "ytfegofnplcmacaa", sum := "0a4d754682e6d1adb4b49c3f9069ab302501af7892de9398c4a3b4e1554e26a6", func := "vernier/vernierlaw07.RoundMakes", spec := "roundMakes", apart := false, narrowed := true }
def RoundMakesUptoSaid : Prop := roundMakesUptoRow.holds Try.pinned (OpenSpec.upto roundMakesSpec)

/-- 'vernierlaw07.RoundBack', WHERE WHAT IT READS IS OF BULK AT MOST 1048576: true; the input reads as it did. -/
def roundBackUptoRow : OpenClaim := { program := "ytfegofnplcmacaa", sum := "0a4d754682e6d1adb4b49c3f9069ab302501af7892de9398c4a3b4e1554e26a6", func := "vernier/vernierlaw07.RoundBack", spec := "roundBack", apart := false, narrowed := true }
def RoundBackUptoSaid : Prop := roundBackUptoRow.holds Try.pinned (OpenSpec.upto roundBackSpec)

/-- 'vernierlaw07.RoundTies', WHERE WHAT IT READS IS OF BULK AT MOST 1048576: true; the input reads as it did. -/
def roundTiesUptoRow : OpenClaim := { program := "ytfegofnplcmacaa", sum := "0a4d754682e6d1adb4b49c3f9069ab302501af7892de9398c4a3b4e1554e26a6", func := "vernier/vernierlaw07.RoundTies", spec := "roundTies", apart := false, narrowed := true }
def RoundTiesUptoSaid : Prop := roundTiesUptoRow.holds Try.pinned (OpenSpec.upto roundTiesSpec)

end Rows
end Go.Proofs.Ytfegofnplcmacaa
