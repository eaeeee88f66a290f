/-
  No cell of these rows narrows 'for every input' (looked for: loops, veiled, ifaces, maps, wideKeys, modest, calm, conditions, laid).
  DERIVED. THE GIVEN ROWS OF THIS SEAT. 4 by the template 'for every input the law returns true; each argument reads behind the call as it read before'; 0 by the template 'total and deterministic' (their statements: YtpknphecmahkaaaTotals.lean).
  GIVEN WITH THE SEED: the statements are not yours to turn. If you find one false, say at which input.
  Laid BY PROGRAM, IN A SANDBOX (cutbox-rows.mjs): the forced cells as the released guide's own fill.sh prints them over the translation 0cc52636bb78217d… (all of the seat's roots in one cut). By AI agents, Wed Nov 11 2026. No macro, syntax, notation, axiom, sorry.
-/
import Derived.Test.YtpknphecmahkaaaChecked
import GoSem.Claim
import GoSem.ClaimJoined
import GoSem.ClaimMapViews
import Derived.JoinedTies
import Derived.KernelRfl
namespace Go.Proofs.Ytpknphecmahkaaa
/- THE CELL 'sum', in the pinned program and in every row, IS THE sha256 OF THE DUMP (.gsa) THAT YtpknphecmahkaaaProg.lean LOADS. Nothing in Lean hashes anything: it is a label: what it is worth is what the hold of that sum in a sandbox is worth. -/
noncomputable def Try.pinned : Pinned := { name := "ytpknphecmahkaaa", sum := "0cc52636bb78217d26f38edd37e081ee501cfed1258770a4b476a87b9a426e56", checked := Try.checked }
namespace Rows
def none {H : Type} : Left H := { results := [], args := [] }

/-- 'bywaylaw17.SplitRight': WHATEVER THE INPUT: true; the input reads as it did. -/
def splitRightSpec : ChangeSpec := { name := "splitRight", fn := fun _ => fun
  | [d1, d2, d3, d4] => { results := [.lit (.bool true)], args := [d1, d2, d3, d4] }
  | _ => none }
def splitRightRow : OpenClaim := { program := "ytpknphecmahkaaa", sum := "0cc52636bb78217d26f38edd37e081ee501cfed1258770a4b476a87b9a426e56", func := "byway/bywaylaw17.SplitRight", spec := "splitRight", inPlace := ["internal/bytealg.Compare"], unfollowed := true, recurses := true, apart := false }
def SplitRightSaid : Prop := splitRightRow.holds Try.pinned (OpenSpec.ofChange splitRightSpec)

/-- ITS FALSE NEIGHBOUR: 'it returns false'. Refute it at one input. -/
def splitRightWrong : ChangeSpec := { name := "splitRight", fn := fun _ => fun
  | [d1, d2, d3, d4] => { results := [.lit (.bool false)], args := [d1, d2, d3, d4] }
  | _ => none }
def SplitRightWrongFalsely : Prop := splitRightRow.holds Try.pinned (OpenSpec.ofChange splitRightWrong)

/-- 'bywaylaw17.SplitSame': WHATEVER THE INPUT: true; the input reads as it did. -/
def splitSameSpec : ChangeSpec := { name := "splitSame", fn := fun _ => fun
  | [d1, d2, d3, d4, d5] => { results := [.lit (.bool true)], args := [d1, d2, d3, d4, d5] }
  | _ => none }
def splitSameRow : OpenClaim := { program := "ytpknphecmahkaaa", sum := "0cc52636bb78217d26f38edd37e081ee501cfed1258770a4b476a87b9a426e56", func := "byway/bywaylaw17.SplitSame", spec := "splitSame", inPlace := ["internal/bytealg.Compare"], unfollowed := true, recurses := true, apart := false }
def SplitSameSaid : Prop := splitSameRow.holds Try.pinned (OpenSpec.ofChange splitSameSpec)

/-- ITS FALSE NEIGHBOUR: 'it returns false'. Refute it at one input. -/
def splitSameWrong : ChangeSpec := { name := "splitSame", fn := fun _ => fun
  | [d1, d2, d3, d4, d5] => { results := [.lit (.bool false)], args := [d1, d2, d3, d4, d5] }
  | _ => none }
def SplitSameWrongFalsely : Prop := splitSameRow.holds Try.pinned (OpenSpec.ofChange splitSameWrong)

/-- 'bywaylaw17.SplitRange': WHATEVER THE INPUT: true; the input reads as it did. -/
def splitRangeSpec : ChangeSpec := { name := "splitRange", fn := fun _ => fun
  | [d1, d2, d3, d4] => { results := [.lit (.bool true)], args := [d1, d2, d3, d4] }
  | _ => none }
def splitRangeRow : OpenClaim := { program := "ytpknphecmahkaaa", sum := "0cc52636bb78217d26f38edd37e081ee501cfed1258770a4b476a87b9a426e56", func := "byway/bywaylaw17.SplitRange", spec := "splitRange", inPlace := ["internal/bytealg.Compare"], unfollowed := true, recurses := true, apart := false }
def SplitRangeSaid : Prop := splitRangeRow.holds Try.pinned (OpenSpec.ofChange splitRangeSpec)

/-- ITS FALSE NEIGHBOUR: 'it returns false'. Refute it at one input. -/
def splitRangeWrong : ChangeSpec := { name := "splitRange", fn := fun _ => fun
  | [d1, d2, d3, d4] => { results := [.lit (.bool false)], args := [d1, d2, d3, d4] }
  | _ => none }
def SplitRangeWrongFalsely : Prop := splitRangeRow.holds Try.pinned (OpenSpec.ofChange splitRangeWrong)

/-- 'bywaylaw17.SplitBack': WHATEVER THE INPUT: true; the input reads as it did. -/
def splitBackSpec : ChangeSpec := { name := "splitBack", fn := fun _ => fun
  | [d1, d2, d3] => { results := [.lit (.bool true)], args := [d1, d2, d3] }
  | _ => none }
def splitBackRow : OpenClaim := { program := "ytpknphecmahkaaa", sum := "0cc52636bb78217d26f38edd37e081ee501cfed1258770a4b476a87b9a426e56", func := "byway/bywaylaw17.SplitBack", spec := "splitBack", inPlace := ["internal/bytealg.Compare"], unfollowed := true, recurses := true, apart := false }
def SplitBackSaid : Prop := splitBackRow.holds Try.pinned (OpenSpec.ofChange splitBackSpec)

/-- ITS FALSE NEIGHBOUR: 'it returns false'. Refute it at one input. -/
def splitBackWrong : ChangeSpec := { name := "splitBack", fn := fun _ => fun
  | [d1, d2, d3] => { results := [.lit (.bool false)], args := [d1, d2, d3] }
  | _ => none }
def SplitBackWrongFalsely : Prop := splitBackRow.holds Try.pinned (OpenSpec.ofChange splitBackWrong)

/- THE SECOND FORM. 'bulk': how many values and letters a reading holds, each counted each time it is reached (what is shared counts as often as it is met; a slice's spare places count too). A statement '..UptoSaid' is the law's where the arguments, and the package variables that the reading takes, are together of bulk at most 1048576: NARROWER than '..Said'. Prove '..Said' where nothing that the law and all that it calls make is longer than what came in: it says more and counts as full. Else prove '..UptoSaid'. A law counts once. -/
mutual
def uptoBulk {H : Type} : DataW H → Nat
  | .lit (.string bytes) => bytes.length + 1
  | .lit _ => 1
  | .nil => 1
  | .ptr d => uptoBulk d + 1
  | .slice elems spare => uptoBulkAll elems + uptoBulkAll spare + 1
  | .agg parts => uptoBulkAll parts + 1
  | .iface _ d => uptoBulk d + 1
  | .map entries => uptoBulkEntries entries + 1
  | .held _ => 1
def uptoBulkAll {H : Type} : List (DataW H) → Nat
  | [] => 0
  | d :: r => uptoBulk d + uptoBulkAll r
def uptoBulkEntries {H : Type} : List (Lit × DataW H) → Nat
  | [] => 0
  | x :: r => uptoBulkEntry x + uptoBulkEntries r
def uptoBulkEntry {H : Type} : Lit × DataW H → Nat
  | (.string bytes, d) => bytes.length + uptoBulk d + 1
  | (_, d) => uptoBulk d + 1
 end
def uptoSmall : (H : Type) → List (DataW H) → Bool := fun _ ds => decide (uptoBulkAll ds ≤ 1048576)
def OpenSpec.upto (s : _root_.Go.ChangeSpec) : _root_.Go.OpenSpec := { _root_.Go.OpenSpec.ofChange s with cond := some uptoSmall }

/-- 'bywaylaw17.SplitRight', WHERE WHAT IT READS IS OF BULK AT MOST 1048576: true; the input reads as it did. -/
def splitRightUptoRow : OpenClaim := { program := "ytpknphecmahkaaa", sum := "0cc52636bb78217d26f38edd37e081ee501cfed1258770a4b476a87b9a426e56", func := "byway/bywaylaw17.SplitRight", spec := "splitRight", inPlace := ["internal/bytealg.Compare"], unfollowed := true, recurses := true, apart := false, narrowed := true }
def SplitRightUptoSaid : Prop := splitRightUptoRow.holds Try.pinned (OpenSpec.upto splitRightSpec)

/-- 'bywaylaw17.SplitSame', WHERE WHAT IT READS IS OF BULK AT MOST 1048576: true; the input reads as it did. -/
def splitSameUptoRow : OpenClaim := { program := "ytpknphecmahkaaa", sum := "0cc52636bb78217d26f38edd37e081ee501cfed1258770a4b476a87b9a426e56", func := "byway/bywaylaw17.SplitSame", spec := "splitSame", inPlace := ["internal/bytealg.Compare"], unfollowed := true, recurses := true, apart := false, narrowed := true }
def SplitSameUptoSaid : Prop := splitSameUptoRow.holds Try.pinned (OpenSpec.upto splitSameSpec)

/-- 'bywaylaw17.SplitRange', WHERE WHAT IT READS IS OF BULK AT MOST 1048576: true; the input reads as it did. -/
def splitRangeUptoRow : OpenClaim := { program := "ytpknphecmahkaaa", sum := "0cc52636bb78217d26f38edd37e081ee501cfed1258770a4b476a87b9a426e56", func := "byway/bywaylaw17.SplitRange", spec := "splitRange", inPlace := ["internal/bytealg.Compare"], unfollowed := true, recurses := true, apart := false, narrowed := true }
def SplitRangeUptoSaid : Prop := splitRangeUptoRow.holds Try.pinned (OpenSpec.upto splitRangeSpec)

/-- 'bywaylaw17.SplitBack', WHERE WHAT IT READS IS OF BULK AT MOST 1048576: true; the input reads as it did. -/
def splitBackUptoRow : OpenClaim := { program := "ytpknphecmahkaaa", sum := "0cc52636bb78217d26f38edd37e081ee501cfed1258770a4b476a87b9a426e56", func := "byway/bywaylaw17.SplitBack", spec := "splitBack", inPlace := ["internal/bytealg.Compare"], unfollowed := true, recurses := true, apart := false, narrowed := true }
def SplitBackUptoSaid : Prop := splitBackUptoRow.holds Try.pinned (OpenSpec.upto splitBackSpec)

end Rows
end Go.Proofs.Ytpknphecmahkaaa
