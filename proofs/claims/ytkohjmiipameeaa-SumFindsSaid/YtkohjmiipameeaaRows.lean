/-
  No cell of these rows narrows 'for every input' (looked for: loops, veiled, ifaces, maps, wideKeys, modest, calm, conditions, laid).
  DERIVED. THE GIVEN ROWS OF THIS SEAT. 4 by the template 'for every input the law returns true; each argument reads behind the call as it read before'; 0 by the template 'total and deterministic' (their statements: YtkohjmiipameeaaTotals.lean).
  GIVEN WITH THE SEED: the statements are not yours to turn. If you find one false, say at which input.
  Laid BY PROGRAM, IN A SANDBOX (cutbox-rows.mjs): the forced cells as the released guide's own fill.sh prints them over the translation ede2ae2b9733dc1a… (all of the seat's roots in one cut). By AI agents, Wed Nov 11 2026. No macro, syntax, notation, axiom, sorry.
-/
import Derived.Test.YtkohjmiipameeaaChecked
import GoSem.Claim
import GoSem.ClaimJoined
import GoSem.ClaimMapViews
import Derived.JoinedTies
import Derived.KernelRfl
namespace Go.Proofs.Ytkohjmiipameeaa
/- THE CELL 'sum', in the pinned program and in every row, IS THE sha256 OF THE DUMP (.gsa) THAT YtkohjmiipameeaaProg.lean LOADS. Nothing in Lean hashes anything: it is a label: what it is worth is what the hold of that sum in a sandbox is worth. -/
noncomputable def Try.pinned : Pinned := { name := "ytkohjmiipameeaa", sum := "ede2ae2b9733dc1a19ea1fdab1045e0a4978346fad8b17c8f1ff1f377d994999", checked := Try.checked }
namespace Rows
def none {H : Type} : Left H := { results := [], args := [] }

/-- 'bywaylaw05.SumRight': WHATEVER THE INPUT: true; the input reads as it did. -/
def sumRightSpec : ChangeSpec := { name := "sumRight", fn := fun _ => fun
  | [d1, d2, d3, d4] => { results := [.lit (.bool true)], args := [d1, d2, d3, d4] }
  | _ => none }
def sumRightRow : OpenClaim := { program := "ytkohjmiipameeaa", sum := "ede2ae2b9733dc1a19ea1fdab1045e0a4978346fad8b17c8f1ff1f377d994999", func := "byway/bywaylaw05.SumRight", spec := "sumRight", apart := false }
def SumRightSaid : Prop := sumRightRow.holds Try.pinned (OpenSpec.ofChange sumRightSpec)

/-- ITS FALSE NEIGHBOUR: 'it returns false'. Refute it at one input. -/
def sumRightWrong : ChangeSpec := { name := "sumRight", fn := fun _ => fun
  | [d1, d2, d3, d4] => { results := [.lit (.bool false)], args := [d1, d2, d3, d4] }
  | _ => none }
def SumRightWrongFalsely : Prop := sumRightRow.holds Try.pinned (OpenSpec.ofChange sumRightWrong)

/-- 'bywaylaw05.SumFinds': WHATEVER THE INPUT: true; the input reads as it did. -/
def sumFindsSpec : ChangeSpec := { name := "sumFinds", fn := fun _ => fun
  | [d1, d2, d3] => { results := [.lit (.bool true)], args := [d1, d2, d3] }
  | _ => none }
def sumFindsRow : OpenClaim := { program := "ytkohjmiipameeaa", sum := "ede2ae2b9733dc1a19ea1fdab1045e0a4978346fad8b17c8f1ff1f377d994999", func := "byway/bywaylaw05.SumFinds", spec := "sumFinds", apart := false }
def SumFindsSaid : Prop := sumFindsRow.holds Try.pinned (OpenSpec.ofChange sumFindsSpec)

/-- ITS FALSE NEIGHBOUR: 'it returns false'. Refute it at one input. -/
def sumFindsWrong : ChangeSpec := { name := "sumFinds", fn := fun _ => fun
  | [d1, d2, d3] => { results := [.lit (.bool false)], args := [d1, d2, d3] }
  | _ => none }
def SumFindsWrongFalsely : Prop := sumFindsRow.holds Try.pinned (OpenSpec.ofChange sumFindsWrong)

/-- 'bywaylaw05.SumNumbers': WHATEVER THE INPUT: true; the input reads as it did. -/
def sumNumbersSpec : ChangeSpec := { name := "sumNumbers", fn := fun _ => fun
  | [d1, d2, d3] => { results := [.lit (.bool true)], args := [d1, d2, d3] }
  | _ => none }
def sumNumbersRow : OpenClaim := { program := "ytkohjmiipameeaa", sum := "ede2ae2b9733dc1a19ea1fdab1045e0a4978346fad8b17c8f1ff1f377d994999", func := "byway/bywaylaw05.SumNumbers", spec := "sumNumbers", apart := false }
def SumNumbersSaid : Prop := sumNumbersRow.holds Try.pinned (OpenSpec.ofChange sumNumbersSpec)

/-- ITS FALSE NEIGHBOUR: 'it returns false'. Refute it at one input. -/
def sumNumbersWrong : ChangeSpec := { name := "sumNumbers", fn := fun _ => fun
  | [d1, d2, d3] => { results := [.lit (.bool false)], args := [d1, d2, d3] }
  | _ => none }
def SumNumbersWrongFalsely : Prop := sumNumbersRow.holds Try.pinned (OpenSpec.ofChange sumNumbersWrong)

/-- 'bywaylaw05.SumParts': WHATEVER THE INPUT: true; the input reads as it did. -/
def sumPartsSpec : ChangeSpec := { name := "sumParts", fn := fun _ => fun
  | [d1, d2, d3, d4] => { results := [.lit (.bool true)], args := [d1, d2, d3, d4] }
  | _ => none }
def sumPartsRow : OpenClaim := { program := "ytkohjmiipameeaa", sum := "ede2ae2b9733dc1a19ea1fdab1045e0a4978346fad8b17c8f1ff1f377d994999", func := "byway/bywaylaw05.SumParts", spec := "sumParts", apart := false }
def SumPartsSaid : Prop := sumPartsRow.holds Try.pinned (OpenSpec.ofChange sumPartsSpec)

/-- ITS FALSE NEIGHBOUR: 'it returns false'. Refute it at one input. -/
def sumPartsWrong : ChangeSpec := { name := "sumParts", fn := fun _ => fun
  | [d1, d2, d3, d4] => { results := [.lit (.bool false)], args := [d1, d2, d3, d4] }
  | _ => none }
def SumPartsWrongFalsely : Prop := sumPartsRow.holds Try.pinned (OpenSpec.ofChange sumPartsWrong)

/- THE SECOND FORM. 'bulk': how many values and letters a reading holds, each counted each time it is reached (what is shared counts as often as it is met; a slice's spare places count too). A statement '..UptoSaid' is the law's where the arguments, and the package variables that the reading takes, are together of bulk at most 1048576: NARROWER than '..Said'. Prove '..Said' where nothing that the law and all that it calls make is longer than what came in: it says more and counts as full. Else prove '..UptoSaid'. A law counts once. -/
mutual
def uptoBulk {H : Type} : DataW H → Nat
  | .lit (.string bytes) => bytes.length + 1
  | .lit _ => 1
  | .nil => 1
  | .ptr d => uptoBulk d + 1
  | .slice elems spare => uptoBulkAll elems + uptoBulkAll spare + 1
  | .agg parts => uptoBulkAll parts + 1
  | .iface _ d => uptoBulk d + 1
  | .map entries => uptoBulkEntries entries + 1
  | .held _ => 1
def uptoBulkAll {H : Type} : List (DataW H) → Nat
  | [] => 0
  | d :: r => uptoBulk d + uptoBulkAll r
def uptoBulkEntries {H : Type} : List (Lit × DataW H) → Nat
  | [] => 0
  | x :: r => uptoBulkEntry x + uptoBulkEntries r
def uptoBulkEntry {H : Type} : Lit × DataW H → Nat
  | (.string bytes, d) => bytes.length + uptoBulk d + 1
  | (_, d) => uptoBulk d + 1
 end
def uptoSmall : (H : Type) → List (DataW H) → Bool := fun _ ds => decide (uptoBulkAll ds ≤ 1048576)
def OpenSpec.upto (s : _root_.Go.ChangeSpec) : _root_.Go.OpenSpec := { _root_.Go.OpenSpec.ofChange s with cond := some uptoSmall }

/-- 'bywaylaw05.SumRight', WHERE WHAT IT READS IS OF BULK AT MOST 1048576: true; the input reads as it did. -/
def sumRightUptoRow : OpenClaim := { program := "ytkohjmiipameeaa", sum := "ede2ae2b9733dc1a19ea1fdab1045e0a4978346fad8b17c8f1ff1f377d994999", func := "byway/bywaylaw05.SumRight", spec := "sumRight", apart := false, narrowed := true }
def SumRightUptoSaid : Prop := sumRightUptoRow.holds Try.pinned (OpenSpec.upto sumRightSpec)

/-- 'bywaylaw05.SumFinds', WHERE WHAT IT READS IS OF BULK AT MOST 1048576: true; the input reads as it did. -/
def sumFindsUptoRow : OpenClaim := { program := "ytkohjmiipameeaa", sum := "ede2ae2b9733dc1a19ea1fdab1045e0a4978346fad8b17c8f1ff1f377d994999", func := "byway/bywaylaw05.SumFinds", spec := "sumFinds", apart := false, narrowed := true }
def SumFindsUptoSaid : Prop := sumFindsUptoRow.holds Try.pinned (OpenSpec.upto sumFindsSpec)

/-- 'bywaylaw05.SumNumbers', WHERE WHAT IT READS IS OF BULK AT MOST 1048576: true; the input reads as it did. -/
def sumNumbersUptoRow : OpenClaim := { program := "ytkohjmiipameeaa", sum := "ede2ae2b9733dc1a19ea1fdab1045e0a4978346fad8b17c8f1ff1f377d994999", func := "byway/bywaylaw05.SumNumbers", spec := "sumNumbers", apart := false, narrowed := true }
def SumNumbersUptoSaid : Prop := sumNumbersUptoRow.holds Try.pinned (OpenSpec.upto sumNumbersSpec)

/-- 'bywaylaw05.SumParts', WHERE WHAT IT READS IS OF BULK AT MOST 1048576: true; the input reads as it did. -/
def sumPartsUptoRow : OpenClaim := { program := "ytkohjmiipameeaa", sum := "ede2ae2b9733dc1a19ea1fdab1045e0a4978346fad8b17c8f1ff1f377d994999", func := "byway/bywaylaw05.SumParts", spec := "sumParts", apart := false, narrowed := true }
def SumPartsUptoSaid : Prop := sumPartsUptoRow.holds Try.pinned (OpenSpec.upto sumPartsSpec)

end Rows
end Go.Proofs.Ytkohjmiipameeaa
