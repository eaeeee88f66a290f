/-
  No cell of these rows narrows 'for every input' (looked for: loops, veiled, ifaces, maps, wideKeys, modest, calm, conditions, laid).
  DERIVED. THE GIVEN ROWS OF THIS SEAT. 6 by the template 'for every input the law returns true; each argument reads behind the call as it read before'; 0 by the template 'total and deterministic' (their statements: YtjnlpphnaldjeaaTotals.lean).
  GIVEN WITH THE SEED: the statements are not yours to turn. If you find one false, say at which input.
  Laid BY PROGRAM, IN A SANDBOX (cutbox-rows.mjs): the forced cells as the released guide's own fill.sh prints them over the translation 87d4e828d158367b… (all of the seat's roots in one cut). By AI agents, Wed Nov 11 2026. No macro, syntax, notation, axiom, sorry.
-/
import Derived.Test.YtjnlpphnaldjeaaChecked
import GoSem.Claim
import GoSem.ClaimJoined
import GoSem.ClaimMapViews
import Derived.JoinedTies
import Derived.KernelRfl
namespace Go.Proofs.Ytjnlpphnaldjeaa
/- THE CELL 'sum', in the pinned program and in every row, IS THE sha256 OF THE DUMP (.gsa) THAT YtjnlpphnaldjeaaProg.lean LOADS. Nothing in Lean hashes anything: it is a label: what it is worth is what the hold of that sum in a sandbox is worth. -/
noncomputable def Try.pinned : Pinned := { name := "ytjnlpphnaldjeaa", sum := "87d4e828d158367ba6218e3429d106b24acebead0143a023a434cc7cd889586d", checked := Try.checked }
namespace Rows
def none {H : Type} : Left H := { results := [], args := [] }

/-- 'bywaylaw13.CacheRight': WHATEVER THE INPUT: true; the input reads as it did. -/
def cacheRightSpec : ChangeSpec := { name := "cacheRight", fn := fun _ => fun
  | [d1, d2, d3, d4] => { results := [.lit (.bool true)], args := [d1, d2, d3, d4] }
  | _ => none }
def cacheRightRow : OpenClaim := { program := "ytjnlpphnaldjeaa", sum := "87d4e828d158367ba6218e3429d106b24acebead0143a023a434cc7cd889586d", func := "byway/bywaylaw13.CacheRight", spec := "cacheRight", unfollowed := true, recurses := true, apart := false }
def CacheRightSaid : Prop := cacheRightRow.holds Try.pinned (OpenSpec.ofChange cacheRightSpec)

/-- ITS FALSE NEIGHBOUR: 'it returns false'. Refute it at one input. -/
def cacheRightWrong : ChangeSpec := { name := "cacheRight", fn := fun _ => fun
  | [d1, d2, d3, d4] => { results := [.lit (.bool false)], args := [d1, d2, d3, d4] }
  | _ => none }
def CacheRightWrongFalsely : Prop := cacheRightRow.holds Try.pinned (OpenSpec.ofChange cacheRightWrong)

/-- 'bywaylaw13.CacheModel': WHATEVER THE INPUT: true; the input reads as it did. -/
def cacheModelSpec : ChangeSpec := { name := "cacheModel", fn := fun _ => fun
  | [d1, d2] => { results := [.lit (.bool true)], args := [d1, d2] }
  | _ => none }
def cacheModelRow : OpenClaim := { program := "ytjnlpphnaldjeaa", sum := "87d4e828d158367ba6218e3429d106b24acebead0143a023a434cc7cd889586d", func := "byway/bywaylaw13.CacheModel", spec := "cacheModel", unfollowed := true, recurses := true, apart := false }
def CacheModelSaid : Prop := cacheModelRow.holds Try.pinned (OpenSpec.ofChange cacheModelSpec)

/-- ITS FALSE NEIGHBOUR: 'it returns false'. Refute it at one input. -/
def cacheModelWrong : ChangeSpec := { name := "cacheModel", fn := fun _ => fun
  | [d1, d2] => { results := [.lit (.bool false)], args := [d1, d2] }
  | _ => none }
def CacheModelWrongFalsely : Prop := cacheModelRow.holds Try.pinned (OpenSpec.ofChange cacheModelWrong)

/-- 'bywaylaw13.CacheLast': WHATEVER THE INPUT: true; the input reads as it did. -/
def cacheLastSpec : ChangeSpec := { name := "cacheLast", fn := fun _ => fun
  | [d1, d2] => { results := [.lit (.bool true)], args := [d1, d2] }
  | _ => none }
def cacheLastRow : OpenClaim := { program := "ytjnlpphnaldjeaa", sum := "87d4e828d158367ba6218e3429d106b24acebead0143a023a434cc7cd889586d", func := "byway/bywaylaw13.CacheLast", spec := "cacheLast", unfollowed := true, recurses := true, apart := false }
def CacheLastSaid : Prop := cacheLastRow.holds Try.pinned (OpenSpec.ofChange cacheLastSpec)

/-- ITS FALSE NEIGHBOUR: 'it returns false'. Refute it at one input. -/
def cacheLastWrong : ChangeSpec := { name := "cacheLast", fn := fun _ => fun
  | [d1, d2] => { results := [.lit (.bool false)], args := [d1, d2] }
  | _ => none }
def CacheLastWrongFalsely : Prop := cacheLastRow.holds Try.pinned (OpenSpec.ofChange cacheLastWrong)

/-- 'bywaylaw09.WearRight': WHATEVER THE INPUT: true; the input reads as it did. -/
def wearRightSpec : ChangeSpec := { name := "wearRight", fn := fun _ => fun
  | [d1, d2] => { results := [.lit (.bool true)], args := [d1, d2] }
  | _ => none }
def wearRightRow : OpenClaim := { program := "ytjnlpphnaldjeaa", sum := "87d4e828d158367ba6218e3429d106b24acebead0143a023a434cc7cd889586d", func := "byway/bywaylaw09.WearRight", spec := "wearRight", unfollowed := true, recurses := true, apart := false }
def WearRightSaid : Prop := wearRightRow.holds Try.pinned (OpenSpec.ofChange wearRightSpec)

/-- ITS FALSE NEIGHBOUR: 'it returns false'. Refute it at one input. -/
def wearRightWrong : ChangeSpec := { name := "wearRight", fn := fun _ => fun
  | [d1, d2] => { results := [.lit (.bool false)], args := [d1, d2] }
  | _ => none }
def WearRightWrongFalsely : Prop := wearRightRow.holds Try.pinned (OpenSpec.ofChange wearRightWrong)

/-- 'bywaylaw09.WearLeast': WHATEVER THE INPUT: true; the input reads as it did. -/
def wearLeastSpec : ChangeSpec := { name := "wearLeast", fn := fun _ => fun
  | [d1, d2] => { results := [.lit (.bool true)], args := [d1, d2] }
  | _ => none }
def wearLeastRow : OpenClaim := { program := "ytjnlpphnaldjeaa", sum := "87d4e828d158367ba6218e3429d106b24acebead0143a023a434cc7cd889586d", func := "byway/bywaylaw09.WearLeast", spec := "wearLeast", unfollowed := true, recurses := true, apart := false }
def WearLeastSaid : Prop := wearLeastRow.holds Try.pinned (OpenSpec.ofChange wearLeastSpec)

/-- ITS FALSE NEIGHBOUR: 'it returns false'. Refute it at one input. -/
def wearLeastWrong : ChangeSpec := { name := "wearLeast", fn := fun _ => fun
  | [d1, d2] => { results := [.lit (.bool false)], args := [d1, d2] }
  | _ => none }
def WearLeastWrongFalsely : Prop := wearLeastRow.holds Try.pinned (OpenSpec.ofChange wearLeastWrong)

/-- 'bywaylaw09.WearMore': WHATEVER THE INPUT: true; the input reads as it did. -/
def wearMoreSpec : ChangeSpec := { name := "wearMore", fn := fun _ => fun
  | [d1, d2, d3] => { results := [.lit (.bool true)], args := [d1, d2, d3] }
  | _ => none }
def wearMoreRow : OpenClaim := { program := "ytjnlpphnaldjeaa", sum := "87d4e828d158367ba6218e3429d106b24acebead0143a023a434cc7cd889586d", func := "byway/bywaylaw09.WearMore", spec := "wearMore", unfollowed := true, recurses := true, apart := false }
def WearMoreSaid : Prop := wearMoreRow.holds Try.pinned (OpenSpec.ofChange wearMoreSpec)

/-- ITS FALSE NEIGHBOUR: 'it returns false'. Refute it at one input. -/
def wearMoreWrong : ChangeSpec := { name := "wearMore", fn := fun _ => fun
  | [d1, d2, d3] => { results := [.lit (.bool false)], args := [d1, d2, d3] }
  | _ => none }
def WearMoreWrongFalsely : Prop := wearMoreRow.holds Try.pinned (OpenSpec.ofChange wearMoreWrong)

/- THE SECOND FORM. 'bulk': how many values and letters a reading holds, each counted each time it is reached (what is shared counts as often as it is met; a slice's spare places count too). A statement '..UptoSaid' is the law's where the arguments, and the package variables that the reading takes, are together of bulk at most 1048576: NARROWER than '..Said'. Prove '..Said' where nothing that the law and all that it calls make is longer than what came in: it says more and counts as full. Else prove '..UptoSaid'. A law counts once. -/
mutual
def uptoBulk {H : Type} : DataW H → Nat
  | .lit (.string bytes) => bytes.length + 1
  | .lit _ => 1
  | .nil => 1
  | .ptr d => uptoBulk d + 1
  | .slice elems spare => uptoBulkAll elems + uptoBulkAll spare + 1
  | .agg parts => uptoBulkAll parts + 1
  | .iface _ d => uptoBulk d + 1
  | .map entries => uptoBulkEntries entries + 1
  | .held _ => 1
def uptoBulkAll {H : Type} : List (DataW H) → Nat
  | [] => 0
  | d :: r => uptoBulk d + uptoBulkAll r
def uptoBulkEntries {H : Type} : List (Lit × DataW H) → Nat
  | [] => 0
  | x :: r => uptoBulkEntry x + uptoBulkEntries r
def uptoBulkEntry {H : Type} : Lit × DataW H → Nat
  | (.string bytes, d) => bytes.length + uptoBulk d + 1
  | (_, d) => uptoBulk d + 1
 end
def uptoSmall : (H : Type) → List (DataW H) → Bool := fun _ ds => decide (uptoBulkAll ds ≤ 1048576)
def OpenSpec.upto (s : _root_.Go.ChangeSpec) : _root_.Go.OpenSpec := { _root_.Go.OpenSpec.ofChange s with cond := some uptoSmall }

/-- 'bywaylaw13.CacheRight', WHERE WHAT IT READS IS OF BULK AT MOST 1048576: true; the input reads as it did. -/
def cacheRightUptoRow : OpenClaim := { program := "ytjnlpphnaldjeaa", sum := "87d4e828d158367ba6218e3429d106b24acebead0143a023a434cc7cd889586d", func := "byway/bywaylaw13.CacheRight", spec := "cacheRight", unfollowed := true, recurses := true, apart := false, narrowed := true }
def CacheRightUptoSaid : Prop := cacheRightUptoRow.holds Try.pinned (OpenSpec.upto cacheRightSpec)

/-- 'bywaylaw13.CacheModel', WHERE WHAT IT READS IS OF BULK AT MOST 1048576: true; the input reads as it did. -/
def cacheModelUptoRow : OpenClaim := { program := "ytjnlpphnaldjeaa", sum := "87d4e828d158367ba6218e3429d106b24acebead0143a023a434cc7cd889586d", func := "byway/bywaylaw13.CacheModel", spec := "cacheModel", unfollowed := true, recurses := true, apart := false, narrowed := true }
def CacheModelUptoSaid : Prop := cacheModelUptoRow.holds Try.pinned (OpenSpec.upto cacheModelSpec)

/-- 'bywaylaw13.CacheLast', WHERE WHAT IT READS IS OF BULK AT MOST 1048576: true; the input reads as it did. -/
def cacheLastUptoRow : OpenClaim := { program := "ytjnlpphnaldjeaa", sum := "87d4e828d158367ba6218e3429d106b24acebead0143a023a434cc7cd889586d", func := "byway/bywaylaw13.CacheLast", spec := "cacheLast", unfollowed := true, recurses := true, apart := false, narrowed := true }
def CacheLastUptoSaid : Prop := cacheLastUptoRow.holds Try.pinned (OpenSpec.upto cacheLastSpec)

/-- 'bywaylaw09.WearRight', WHERE WHAT IT READS IS OF BULK AT MOST 1048576: true; the input reads as it did. -/
def wearRightUptoRow : OpenClaim := { program := "ytjnlpphnaldjeaa", sum := "87d4e828d158367ba6218e3429d106b24acebead0143a023a434cc7cd889586d", func := "byway/bywaylaw09.WearRight", spec := "wearRight", unfollowed := true, recurses := true, apart := false, narrowed := true }
def WearRightUptoSaid : Prop := wearRightUptoRow.holds Try.pinned (OpenSpec.upto wearRightSpec)

/-- 'bywaylaw09.WearLeast', WHERE WHAT IT READS IS OF BULK AT MOST 1048576: true; the input reads as it did. -/
def wearLeastUptoRow : OpenClaim := { program := "ytjnlpphnaldjeaa", sum := "87d4e828d158367ba6218e3429d106b24acebead0143a023a434cc7cd889586d", func := "byway/bywaylaw09.WearLeast", spec := "wearLeast", unfollowed := true, recurses := true, apart := false, narrowed := true }
def WearLeastUptoSaid : Prop := wearLeastUptoRow.holds Try.pinned (OpenSpec.upto wearLeastSpec)

/-- 'bywaylaw09.WearMore', WHERE WHAT IT READS IS OF BULK AT MOST 1048576: true; the input reads as it did. -/
def wearMoreUptoRow : OpenClaim := { program := "ytjnlpphnaldjeaa", sum := "87d4e828d158367ba6218e3429d106b24acebead0143a023a434cc7cd889586d", func := "byway/bywaylaw09.WearMore", spec := "wearMore", unfollowed := true, recurses := true, apart := false, narrowed := true }
def WearMoreUptoSaid : Prop := wearMoreUptoRow.holds Try.pinned (OpenSpec.upto wearMoreSpec)

end Rows
end Go.Proofs.Ytjnlpphnaldjeaa
