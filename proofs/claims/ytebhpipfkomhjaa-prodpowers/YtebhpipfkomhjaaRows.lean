/-
  No cell of these rows narrows 'for every input' (looked for: loops, veiled, ifaces, maps, wideKeys, modest, calm, conditions, laid).
  DERIVED. THE GIVEN ROWS OF THIS SEAT. 5 by the template 'for every input the law returns true; each argument reads behind the call as it read before'; 0 by the template 'total and deterministic' (their statements: YtebhpipfkomhjaaTotals.lean).
  GIVEN WITH THE SEED: the statements are not yours to turn. If you find one false, say at which input.
  Laid BY PROGRAM, IN A SANDBOX (cutbox-rows.mjs): the forced cells as the released guide's own fill.sh prints them over the translation 342fb52a33b769f3… (all of the seat's roots in one cut). By AI agents, Wed Nov 11 2026. No macro, syntax, notation, axiom, sorry.
-/
import Derived.Test.YtebhpipfkomhjaaChecked
import GoSem.Claim
import GoSem.ClaimJoined
import GoSem.ClaimMapViews
import Derived.JoinedTies
import Derived.KernelRfl
namespace Go.Proofs.Ytebhpipfkomhjaa
/- THE CELL 'sum', in the pinned program and in every row, IS THE sha256 OF THE DUMP (.gsa) THAT YtebhpipfkomhjaaProg.lean LOADS. Nothing in Lean hashes anything: it is a label: what it is worth is what the hold of that sum in a sandbox is worth. -/
noncomputable def Try.pinned : Pinned := { name := "ytebhpipfkomhjaa", sum := "342fb52a33b769f35a030678448e4cb4b41eb4b01bf5f7fe11d9cb426edfd1c6", checked := Try.checked }
namespace Rows
def none {H : Type} : Left H := { results := [], args := [] }

/-- 'vernierlaw10.ProdExacts': WHATEVER THE INPUT: true; the input reads as it did. -/
def prodExactsSpec : ChangeSpec := { name := "prodExacts", fn := fun _ => fun
  | [d1, d2] => { results := [.lit (.bool true)], args := [d1, d2] }
  | _ => none }
def prodExactsRow : OpenClaim := { program := "ytebhpipfkomhjaa", sum := "342fb52a33b769f35a030678448e4cb4b41eb4b01bf5f7fe11d9cb426edfd1c6", func := "vernier/vernierlaw10.ProdExacts", spec := "prodExacts", apart := false }
def ProdExactsSaid : Prop := prodExactsRow.holds Try.pinned (OpenSpec.ofChange prodExactsSpec)

/-- ITS FALSE NEIGHBOUR: 'it returns false'. Refute it at one input. -/
def prodExactsWrong : ChangeSpec := { name := "prodExacts", fn := fun _ => fun
  | [d1, d2] => { results := [.lit (.bool false)], args := [d1, d2] }
  | _ => none }
def ProdExactsWrongFalsely : Prop := prodExactsRow.holds Try.pinned (OpenSpec.ofChange prodExactsWrong)

/-- 'vernierlaw10.ProdMuls': WHATEVER THE INPUT: true; the input reads as it did. -/
def prodMulsSpec : ChangeSpec := { name := "prodMuls", fn := fun _ => fun
  | [d1, d2, d3] => { results := [.lit (.bool true)], args := [d1, d2, d3] }
  | _ => none }
def prodMulsRow : OpenClaim := { program := "ytebhpipfkomhjaa", sum := "342fb52a33b769f35a030678448e4cb4b41eb4b01bf5f7fe11d9cb426edfd1c6", func := "vernier/vernierlaw10.ProdMuls", spec := "prodMuls", apart := false }
def ProdMulsSaid : Prop := prodMulsRow.holds Try.pinned (OpenSpec.ofChange prodMulsSpec)

/-- ITS FALSE NEIGHBOUR: 'it returns false'. Refute it at one input. -/
def prodMulsWrong : ChangeSpec := { name := "prodMuls", fn := fun _ => fun
  | [d1, d2, d3] => { results := [.lit (.bool false)], args := [d1, d2, d3] }
  | _ => none }
def ProdMulsWrongFalsely : Prop := prodMulsRow.holds Try.pinned (OpenSpec.ofChange prodMulsWrong)

/-- 'vernierlaw10.ProdLaws': WHATEVER THE INPUT: true; the input reads as it did. -/
def prodLawsSpec : ChangeSpec := { name := "prodLaws", fn := fun _ => fun
  | [d1, d2, d3] => { results := [.lit (.bool true)], args := [d1, d2, d3] }
  | _ => none }
def prodLawsRow : OpenClaim := { program := "ytebhpipfkomhjaa", sum := "342fb52a33b769f35a030678448e4cb4b41eb4b01bf5f7fe11d9cb426edfd1c6", func := "vernier/vernierlaw10.ProdLaws", spec := "prodLaws", apart := false }
def ProdLawsSaid : Prop := prodLawsRow.holds Try.pinned (OpenSpec.ofChange prodLawsSpec)

/-- ITS FALSE NEIGHBOUR: 'it returns false'. Refute it at one input. -/
def prodLawsWrong : ChangeSpec := { name := "prodLaws", fn := fun _ => fun
  | [d1, d2, d3] => { results := [.lit (.bool false)], args := [d1, d2, d3] }
  | _ => none }
def ProdLawsWrongFalsely : Prop := prodLawsRow.holds Try.pinned (OpenSpec.ofChange prodLawsWrong)

/-- 'vernierlaw10.ProdTwos': WHATEVER THE INPUT: true; the input reads as it did. -/
def prodTwosSpec : ChangeSpec := { name := "prodTwos", fn := fun _ => fun
  | [d1, d2, d3] => { results := [.lit (.bool true)], args := [d1, d2, d3] }
  | _ => none }
def prodTwosRow : OpenClaim := { program := "ytebhpipfkomhjaa", sum := "342fb52a33b769f35a030678448e4cb4b41eb4b01bf5f7fe11d9cb426edfd1c6", func := "vernier/vernierlaw10.ProdTwos", spec := "prodTwos", apart := false }
def ProdTwosSaid : Prop := prodTwosRow.holds Try.pinned (OpenSpec.ofChange prodTwosSpec)

/-- ITS FALSE NEIGHBOUR: 'it returns false'. Refute it at one input. -/
def prodTwosWrong : ChangeSpec := { name := "prodTwos", fn := fun _ => fun
  | [d1, d2, d3] => { results := [.lit (.bool false)], args := [d1, d2, d3] }
  | _ => none }
def ProdTwosWrongFalsely : Prop := prodTwosRow.holds Try.pinned (OpenSpec.ofChange prodTwosWrong)

/-- 'vernierlaw10.ProdPowers': WHATEVER THE INPUT: true; the input reads as it did. -/
def prodPowersSpec : ChangeSpec := { name := "prodPowers", fn := fun _ => fun
  | [d1, d2, d3] => { results := [.lit (.bool true)], args := [d1, d2, d3] }
  | _ => none }
def prodPowersRow : OpenClaim := { program := "ytebhpipfkomhjaa", sum := "342fb52a33b769f35a030678448e4cb4b41eb4b01bf5f7fe11d9cb426edfd1c6", func := "vernier/vernierlaw10.ProdPowers", spec := "prodPowers", apart := false }
def ProdPowersSaid : Prop := prodPowersRow.holds Try.pinned (OpenSpec.ofChange prodPowersSpec)

/-- ITS FALSE NEIGHBOUR: 'it returns false'. Refute it at one input. -/
def prodPowersWrong : ChangeSpec := { name := "prodPowers", fn := fun _ => fun
  | [d1, d2, d3] => { results := [.lit (.bool false)], args := [d1, d2, d3] }
  | _ => none }
def ProdPowersWrongFalsely : Prop := prodPowersRow.holds Try.pinned (OpenSpec.ofChange prodPowersWrong)

/- THE SECOND FORM. 'bulk': how many values and letters a reading holds, each counted each time it is reached (what is shared counts as often as it is met; a slice's spare places count too). A statement '..UptoSaid' is the law's where the arguments, and the package variables that the reading takes, are together of bulk at most 1048576: NARROWER than '..Said'. Prove '..Said' where nothing that the law and all that it calls make is longer than what came in: it says more and counts as full. Else prove '..UptoSaid'. A law counts once. -/
mutual
def uptoBulk {H : Type} : DataW H → Nat
  | .lit (.string bytes) => bytes.length + 1
  | .lit _ => 1
  | .nil => 1
  | .ptr d => uptoBulk d + 1
  | .slice elems spare => uptoBulkAll elems + uptoBulkAll spare + 1
  | .agg parts => uptoBulkAll parts + 1
  | .iface _ d => uptoBulk d + 1
  | .map entries => uptoBulkEntries entries + 1
  | .held _ => 1
def uptoBulkAll {H : Type} : List (DataW H) → Nat
  | [] => 0
  | d :: r => uptoBulk d + uptoBulkAll r
def uptoBulkEntries {H : Type} : List (Lit × DataW H) → Nat
  | [] => 0
  | x :: r => uptoBulkEntry x + uptoBulkEntries r
def uptoBulkEntry {H : Type} : Lit × DataW H → Nat
  | (.string bytes, d) => bytes.length + uptoBulk d + 1
  | (_, d) => uptoBulk d + 1
 end
def uptoSmall : (H : Type) → List (DataW H) → Bool := fun _ ds => decide (uptoBulkAll ds ≤ 1048576)
def OpenSpec.upto (s : _root_.Go.ChangeSpec) : _root_.Go.OpenSpec := { _root_.Go.OpenSpec.ofChange s with cond := some uptoSmall }

/-- 'vernierlaw10.ProdExacts', WHERE WHAT IT READS IS OF BULK AT MOST 1048576: true; the input reads as it did. -/
def prodExactsUptoRow : OpenClaim := { program := "ytebhpipfkomhjaa", sum := "342fb52a33b769f35a030678448e4cb4b41eb4b01bf5f7fe11d9cb426edfd1c6", func := "vernier/vernierlaw10.ProdExacts", spec := "prodExacts", apart := false, narrowed := true }
def ProdExactsUptoSaid : Prop := prodExactsUptoRow.holds Try.pinned (OpenSpec.upto prodExactsSpec)

/-- 'vernierlaw10.ProdMuls', WHERE WHAT IT READS IS OF BULK AT MOST 1048576: true; the input reads as it did. -/
def prodMulsUptoRow : OpenClaim := { program := "ytebhpipfkomhjaa", sum := "342fb52a33b769f35a030678448e4cb4b41eb4b01bf5f7fe11d9cb426edfd1c6", func := "vernier/vernierlaw10.ProdMuls", spec := "prodMuls", apart := false, narrowed := true }
def ProdMulsUptoSaid : Prop := prodMulsUptoRow.holds Try.pinned (OpenSpec.upto prodMulsSpec)

/-- 'vernierlaw10.ProdLaws', WHERE WHAT IT READS IS OF BULK AT MOST 1048576: true; the input reads as it did. -/
def prodLawsUptoRow : OpenClaim := { program := "ytebhpipfkomhjaa", sum := "342fb52a33b769f35a030678448e4cb4b41eb4b01bf5f7fe11d9cb426edfd1c6", func := "vernier/vernierlaw10.ProdLaws", spec := "prodLaws", apart := false, narrowed := true }
def ProdLawsUptoSaid : Prop := prodLawsUptoRow.holds Try.pinned (OpenSpec.upto prodLawsSpec)

/-- 'vernierlaw10.ProdTwos', WHERE WHAT IT READS IS OF BULK AT MOST 1048576: true; the input reads as it did. -/
def prodTwosUptoRow : OpenClaim := { program := "ytebhpipfkomhjaa", sum := "342fb52a33b769f35a030678448e4cb4b41eb4b01bf5f7fe11d9cb426edfd1c6", func := "vernier/vernierlaw10.ProdTwos", spec := "prodTwos", apart := false, narrowed := true }
def ProdTwosUptoSaid : Prop := prodTwosUptoRow.holds Try.pinned (OpenSpec.upto prodTwosSpec)

/-- 'vernierlaw10.ProdPowers', WHERE WHAT IT READS IS OF BULK AT MOST 1048576: true; the input reads as it did. -/
def prodPowersUptoRow : OpenClaim := { program := "ytebhpipfkomhjaa", sum := "342fb52a33b769f35a030678448e4cb4b41eb4b01bf5f7fe11d9cb426edfd1c6", func := "vernier/vernierlaw10.ProdPowers", spec := "prodPowers", apart := false, narrowed := true }
def ProdPowersUptoSaid : Prop := prodPowersUptoRow.holds Try.pinned (OpenSpec.upto prodPowersSpec)

end Rows
end Go.Proofs.Ytebhpipfkomhjaa
