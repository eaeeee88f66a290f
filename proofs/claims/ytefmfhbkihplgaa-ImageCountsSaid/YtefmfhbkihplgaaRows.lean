/-
  No cell of these rows narrows 'for every input' (looked for: loops, veiled, ifaces, maps, wideKeys, modest, calm, conditions, laid).
  DERIVED. THE GIVEN ROWS OF THIS SEAT. 11 by the template 'for every input the law returns true; each argument reads behind the call as it read before'; 0 by the template 'total and deterministic' (their statements: YtefmfhbkihplgaaTotals.lean).
  GIVEN WITH THE SEED: the statements are not yours to turn. If you find one false, say at which input.
  Laid BY PROGRAM, IN A SANDBOX (cutbox-rows.mjs): the forced cells as the released guide's own fill.sh prints them over the translation 322f094f777de66c… (all of the seat's roots in one cut). By AI agents, Wed Nov 11 2026. No macro, syntax, notation, axiom, sorry.
-/
import Derived.Test.YtefmfhbkihplgaaChecked
import GoSem.Claim
import GoSem.ClaimJoined
import GoSem.ClaimMapViews
import Derived.JoinedTies
import Derived.KernelRfl
namespace Go.Proofs.Ytefmfhbkihplgaa
/- THE CELL 'sum', in the pinned program and in every row, IS THE sha256 OF THE DUMP (.gsa) THAT YtefmfhbkihplgaaProg.lean LOADS. Nothing in Lean hashes anything: it is a label: what it is worth is what the hold of that sum in a sandbox is worth. -/
noncomputable def Try.pinned : Pinned := { name := "ytefmfhbkihplgaa", sum := "322f094f777de66c164620a96438a038ca32ee8168a6e2f4837f273fc295e301", checked := Try.checked }
namespace Rows
def none {H : Type} : Left H := { results := [], args := [] }

/-- 'bywaylaw06.ChipKeeps': WHATEVER THE INPUT: true; the input reads as it did. -/
def chipKeepsSpec : ChangeSpec := { name := "chipKeeps", fn := fun _ => fun
  | [d1, d2] => { results := [.lit (.bool true)], args := [d1, d2] }
  | _ => none }
def chipKeepsRow : OpenClaim := { program := "ytefmfhbkihplgaa", sum := "322f094f777de66c164620a96438a038ca32ee8168a6e2f4837f273fc295e301", func := "byway/bywaylaw06.ChipKeeps", spec := "chipKeeps", apart := false }
def ChipKeepsSaid : Prop := chipKeepsRow.holds Try.pinned (OpenSpec.ofChange chipKeepsSpec)

/-- ITS FALSE NEIGHBOUR: 'it returns false'. Refute it at one input. -/
def chipKeepsWrong : ChangeSpec := { name := "chipKeeps", fn := fun _ => fun
  | [d1, d2] => { results := [.lit (.bool false)], args := [d1, d2] }
  | _ => none }
def ChipKeepsWrongFalsely : Prop := chipKeepsRow.holds Try.pinned (OpenSpec.ofChange chipKeepsWrong)

/-- 'bywaylaw06.ChipStill': WHATEVER THE INPUT: true; the input reads as it did. -/
def chipStillSpec : ChangeSpec := { name := "chipStill", fn := fun _ => fun
  | [d1, d2, d3, d4] => { results := [.lit (.bool true)], args := [d1, d2, d3, d4] }
  | _ => none }
def chipStillRow : OpenClaim := { program := "ytefmfhbkihplgaa", sum := "322f094f777de66c164620a96438a038ca32ee8168a6e2f4837f273fc295e301", func := "byway/bywaylaw06.ChipStill", spec := "chipStill", apart := false }
def ChipStillSaid : Prop := chipStillRow.holds Try.pinned (OpenSpec.ofChange chipStillSpec)

/-- ITS FALSE NEIGHBOUR: 'it returns false'. Refute it at one input. -/
def chipStillWrong : ChangeSpec := { name := "chipStill", fn := fun _ => fun
  | [d1, d2, d3, d4] => { results := [.lit (.bool false)], args := [d1, d2, d3, d4] }
  | _ => none }
def ChipStillWrongFalsely : Prop := chipStillRow.holds Try.pinned (OpenSpec.ofChange chipStillWrong)

/-- 'bywaylaw07.PageRight': WHATEVER THE INPUT: true; the input reads as it did. -/
def pageRightSpec : ChangeSpec := { name := "pageRight", fn := fun _ => fun
  | [d1, d2, d3] => { results := [.lit (.bool true)], args := [d1, d2, d3] }
  | _ => none }
def pageRightRow : OpenClaim := { program := "ytefmfhbkihplgaa", sum := "322f094f777de66c164620a96438a038ca32ee8168a6e2f4837f273fc295e301", func := "byway/bywaylaw07.PageRight", spec := "pageRight", apart := false }
def PageRightSaid : Prop := pageRightRow.holds Try.pinned (OpenSpec.ofChange pageRightSpec)

/-- ITS FALSE NEIGHBOUR: 'it returns false'. Refute it at one input. -/
def pageRightWrong : ChangeSpec := { name := "pageRight", fn := fun _ => fun
  | [d1, d2, d3] => { results := [.lit (.bool false)], args := [d1, d2, d3] }
  | _ => none }
def PageRightWrongFalsely : Prop := pageRightRow.holds Try.pinned (OpenSpec.ofChange pageRightWrong)

/-- 'bywaylaw07.PageTells': WHATEVER THE INPUT: true; the input reads as it did. -/
def pageTellsSpec : ChangeSpec := { name := "pageTells", fn := fun _ => fun
  | [d1, d2, d3, d4, d5, d6] => { results := [.lit (.bool true)], args := [d1, d2, d3, d4, d5, d6] }
  | _ => none }
def pageTellsRow : OpenClaim := { program := "ytefmfhbkihplgaa", sum := "322f094f777de66c164620a96438a038ca32ee8168a6e2f4837f273fc295e301", func := "byway/bywaylaw07.PageTells", spec := "pageTells", apart := false }
def PageTellsSaid : Prop := pageTellsRow.holds Try.pinned (OpenSpec.ofChange pageTellsSpec)

/-- ITS FALSE NEIGHBOUR: 'it returns false'. Refute it at one input. -/
def pageTellsWrong : ChangeSpec := { name := "pageTells", fn := fun _ => fun
  | [d1, d2, d3, d4, d5, d6] => { results := [.lit (.bool false)], args := [d1, d2, d3, d4, d5, d6] }
  | _ => none }
def PageTellsWrongFalsely : Prop := pageTellsRow.holds Try.pinned (OpenSpec.ofChange pageTellsWrong)

/-- 'bywaylaw07.PageTorn': WHATEVER THE INPUT: true; the input reads as it did. -/
def pageTornSpec : ChangeSpec := { name := "pageTorn", fn := fun _ => fun
  | [d1, d2, d3] => { results := [.lit (.bool true)], args := [d1, d2, d3] }
  | _ => none }
def pageTornRow : OpenClaim := { program := "ytefmfhbkihplgaa", sum := "322f094f777de66c164620a96438a038ca32ee8168a6e2f4837f273fc295e301", func := "byway/bywaylaw07.PageTorn", spec := "pageTorn", apart := false }
def PageTornSaid : Prop := pageTornRow.holds Try.pinned (OpenSpec.ofChange pageTornSpec)

/-- ITS FALSE NEIGHBOUR: 'it returns false'. Refute it at one input. -/
def pageTornWrong : ChangeSpec := { name := "pageTorn", fn := fun _ => fun
  | [d1, d2, d3] => { results := [.lit (.bool false)], args := [d1, d2, d3] }
  | _ => none }
def PageTornWrongFalsely : Prop := pageTornRow.holds Try.pinned (OpenSpec.ofChange pageTornWrong)

/-- 'bywaylaw08.BadGood': WHATEVER THE INPUT: true; the input reads as it did. -/
def badGoodSpec : ChangeSpec := { name := "badGood", fn := fun _ => fun
  | [d1, d2, d3] => { results := [.lit (.bool true)], args := [d1, d2, d3] }
  | _ => none }
def badGoodRow : OpenClaim := { program := "ytefmfhbkihplgaa", sum := "322f094f777de66c164620a96438a038ca32ee8168a6e2f4837f273fc295e301", func := "byway/bywaylaw08.BadGood", spec := "badGood", apart := false }
def BadGoodSaid : Prop := badGoodRow.holds Try.pinned (OpenSpec.ofChange badGoodSpec)

/-- ITS FALSE NEIGHBOUR: 'it returns false'. Refute it at one input. -/
def badGoodWrong : ChangeSpec := { name := "badGood", fn := fun _ => fun
  | [d1, d2, d3] => { results := [.lit (.bool false)], args := [d1, d2, d3] }
  | _ => none }
def BadGoodWrongFalsely : Prop := badGoodRow.holds Try.pinned (OpenSpec.ofChange badGoodWrong)

/-- 'bywaylaw10.RootNewest': WHATEVER THE INPUT: true; the input reads as it did. -/
def rootNewestSpec : ChangeSpec := { name := "rootNewest", fn := fun _ => fun
  | [d1, d2, d3, d4] => { results := [.lit (.bool true)], args := [d1, d2, d3, d4] }
  | _ => none }
def rootNewestRow : OpenClaim := { program := "ytefmfhbkihplgaa", sum := "322f094f777de66c164620a96438a038ca32ee8168a6e2f4837f273fc295e301", func := "byway/bywaylaw10.RootNewest", spec := "rootNewest", apart := false }
def RootNewestSaid : Prop := rootNewestRow.holds Try.pinned (OpenSpec.ofChange rootNewestSpec)

/-- ITS FALSE NEIGHBOUR: 'it returns false'. Refute it at one input. -/
def rootNewestWrong : ChangeSpec := { name := "rootNewest", fn := fun _ => fun
  | [d1, d2, d3, d4] => { results := [.lit (.bool false)], args := [d1, d2, d3, d4] }
  | _ => none }
def RootNewestWrongFalsely : Prop := rootNewestRow.holds Try.pinned (OpenSpec.ofChange rootNewestWrong)

/-- 'bywaylaw10.RootMost': WHATEVER THE INPUT: true; the input reads as it did. -/
def rootMostSpec : ChangeSpec := { name := "rootMost", fn := fun _ => fun
  | [d1, d2, d3] => { results := [.lit (.bool true)], args := [d1, d2, d3] }
  | _ => none }
def rootMostRow : OpenClaim := { program := "ytefmfhbkihplgaa", sum := "322f094f777de66c164620a96438a038ca32ee8168a6e2f4837f273fc295e301", func := "byway/bywaylaw10.RootMost", spec := "rootMost", apart := false }
def RootMostSaid : Prop := rootMostRow.holds Try.pinned (OpenSpec.ofChange rootMostSpec)

/-- ITS FALSE NEIGHBOUR: 'it returns false'. Refute it at one input. -/
def rootMostWrong : ChangeSpec := { name := "rootMost", fn := fun _ => fun
  | [d1, d2, d3] => { results := [.lit (.bool false)], args := [d1, d2, d3] }
  | _ => none }
def RootMostWrongFalsely : Prop := rootMostRow.holds Try.pinned (OpenSpec.ofChange rootMostWrong)

/-- 'bywaylaw21.ImageRight': WHATEVER THE INPUT: true; the input reads as it did. -/
def imageRightSpec : ChangeSpec := { name := "imageRight", fn := fun _ => fun
  | [d1, d2, d3] => { results := [.lit (.bool true)], args := [d1, d2, d3] }
  | _ => none }
def imageRightRow : OpenClaim := { program := "ytefmfhbkihplgaa", sum := "322f094f777de66c164620a96438a038ca32ee8168a6e2f4837f273fc295e301", func := "byway/bywaylaw21.ImageRight", spec := "imageRight", unfollowed := true, recurses := true, apart := false }
def ImageRightSaid : Prop := imageRightRow.holds Try.pinned (OpenSpec.ofChange imageRightSpec)

/-- ITS FALSE NEIGHBOUR: 'it returns false'. Refute it at one input. -/
def imageRightWrong : ChangeSpec := { name := "imageRight", fn := fun _ => fun
  | [d1, d2, d3] => { results := [.lit (.bool false)], args := [d1, d2, d3] }
  | _ => none }
def ImageRightWrongFalsely : Prop := imageRightRow.holds Try.pinned (OpenSpec.ofChange imageRightWrong)

/-- 'bywaylaw21.ImageCounts': WHATEVER THE INPUT: true; the input reads as it did. -/
def imageCountsSpec : ChangeSpec := { name := "imageCounts", fn := fun _ => fun
  | [d1, d2] => { results := [.lit (.bool true)], args := [d1, d2] }
  | _ => none }
def imageCountsRow : OpenClaim := { program := "ytefmfhbkihplgaa", sum := "322f094f777de66c164620a96438a038ca32ee8168a6e2f4837f273fc295e301", func := "byway/bywaylaw21.ImageCounts", spec := "imageCounts", unfollowed := true, recurses := true, apart := false }
def ImageCountsSaid : Prop := imageCountsRow.holds Try.pinned (OpenSpec.ofChange imageCountsSpec)

/-- ITS FALSE NEIGHBOUR: 'it returns false'. Refute it at one input. -/
def imageCountsWrong : ChangeSpec := { name := "imageCounts", fn := fun _ => fun
  | [d1, d2] => { results := [.lit (.bool false)], args := [d1, d2] }
  | _ => none }
def ImageCountsWrongFalsely : Prop := imageCountsRow.holds Try.pinned (OpenSpec.ofChange imageCountsWrong)

/-- 'bywaylaw21.ImageFails': WHATEVER THE INPUT: true; the input reads as it did. -/
def imageFailsSpec : ChangeSpec := { name := "imageFails", fn := fun _ => fun
  | [d1, d2] => { results := [.lit (.bool true)], args := [d1, d2] }
  | _ => none }
def imageFailsRow : OpenClaim := { program := "ytefmfhbkihplgaa", sum := "322f094f777de66c164620a96438a038ca32ee8168a6e2f4837f273fc295e301", func := "byway/bywaylaw21.ImageFails", spec := "imageFails", unfollowed := true, recurses := true, apart := false }
def ImageFailsSaid : Prop := imageFailsRow.holds Try.pinned (OpenSpec.ofChange imageFailsSpec)

/-- ITS FALSE NEIGHBOUR: 'it returns false'. Refute it at one input. -/
def imageFailsWrong : ChangeSpec := { name := "imageFails", fn := fun _ => fun
  | [d1, d2] => { results := [.lit (.bool false)], args := [d1, d2] }
  | _ => none }
def ImageFailsWrongFalsely : Prop := imageFailsRow.holds Try.pinned (OpenSpec.ofChange imageFailsWrong)

/- THE SECOND FORM. 'bulk': how many values and letters a reading holds, each counted each time it is reached (what is shared counts as often as it is met; a slice's spare places count too). A statement '..UptoSaid' is the law's where the arguments, and the package variables that the reading takes, are together of bulk at most 1048576: NARROWER than '..Said'. Prove '..Said' where nothing that the law and all that it calls make is longer than what came in: it says more and counts as full. Else prove '..UptoSaid'. A law counts once. -/
mutual
def uptoBulk {H : Type} : DataW H → Nat
  | .lit (.string bytes) => bytes.length + 1
  | .lit _ => 1
  | .nil => 1
  | .ptr d => uptoBulk d + 1
  | .slice elems spare => uptoBulkAll elems + uptoBulkAll spare + 1
  | .agg parts => uptoBulkAll parts + 1
  | .iface _ d => uptoBulk d + 1
  | .map entries => uptoBulkEntries entries + 1
  | .held _ => 1
def uptoBulkAll {H : Type} : List (DataW H) → Nat
  | [] => 0
  | d :: r => uptoBulk d + uptoBulkAll r
def uptoBulkEntries {H : Type} : List (Lit × DataW H) → Nat
  | [] => 0
  | x :: r => uptoBulkEntry x + uptoBulkEntries r
def uptoBulkEntry {H : Type} : Lit × DataW H → Nat
  | (.string bytes, d) => bytes.length + uptoBulk d + 1
  | (_, d) => uptoBulk d + 1
 end
def uptoSmall : (H : Type) → List (DataW H) → Bool := fun _ ds => decide (uptoBulkAll ds ≤ 1048576)
def OpenSpec.upto (s : _root_.Go.ChangeSpec) : _root_.Go.OpenSpec := { _root_.Go.OpenSpec.ofChange s with cond := some uptoSmall }

/-- 'bywaylaw06.ChipKeeps', WHERE WHAT IT READS IS OF BULK AT MOST 1048576: true; the input reads as it did. -/
def chipKeepsUptoRow : OpenClaim := { program := "ytefmfhbkihplgaa", sum := "322f094f777de66c164620a96438a038ca32ee8168a6e2f4837f273fc295e301", func := "byway/bywaylaw06.ChipKeeps", spec := "chipKeeps", apart := false, narrowed := true }
def ChipKeepsUptoSaid : Prop := chipKeepsUptoRow.holds Try.pinned (OpenSpec.upto chipKeepsSpec)

/-- 'bywaylaw06.ChipStill', WHERE WHAT IT READS IS OF BULK AT MOST 1048576: true; the input reads as it did. -/
def chipStillUptoRow : OpenClaim := { program := "ytefmfhbkihplgaa", sum := "322f094f777de66c164620a96438a038ca32ee8168a6e2f4837f273fc295e301", func := "byway/bywaylaw06.ChipStill", spec := "chipStill", apart := false, narrowed := true }
def ChipStillUptoSaid : Prop := chipStillUptoRow.holds Try.pinned (OpenSpec.upto chipStillSpec)

/-- 'bywaylaw07.PageRight', WHERE WHAT IT READS IS OF BULK AT MOST 1048576: true; the input reads as it did. -/
def pageRightUptoRow : OpenClaim := { program := "ytefmfhbkihplgaa", sum := "322f094f777de66c164620a96438a038ca32ee8168a6e2f4837f273fc295e301", func := "byway/bywaylaw07.PageRight", spec := "pageRight", apart := false, narrowed := true }
def PageRightUptoSaid : Prop := pageRightUptoRow.holds Try.pinned (OpenSpec.upto pageRightSpec)

/-- 'bywaylaw07.PageTells', WHERE WHAT IT READS IS OF BULK AT MOST 1048576: true; the input reads as it did. -/
def pageTellsUptoRow : OpenClaim := { program := "ytefmfhbkihplgaa", sum := "322f094f777de66c164620a96438a038ca32ee8168a6e2f4837f273fc295e301", func := "byway/bywaylaw07.PageTells", spec := "pageTells", apart := false, narrowed := true }
def PageTellsUptoSaid : Prop := pageTellsUptoRow.holds Try.pinned (OpenSpec.upto pageTellsSpec)

/-- 'bywaylaw07.PageTorn', WHERE WHAT IT READS IS OF BULK AT MOST 1048576: true; the input reads as it did. -/
def pageTornUptoRow : OpenClaim := { program := "ytefmfhbkihplgaa", sum := "322f094f777de66c164620a96438a038ca32ee8168a6e2f4837f273fc295e301", func := "byway/bywaylaw07.PageTorn", spec := "pageTorn", apart := false, narrowed := true }
def PageTornUptoSaid : Prop := pageTornUptoRow.holds Try.pinned (OpenSpec.upto pageTornSpec)

/-- 'bywaylaw08.BadGood', WHERE WHAT IT READS IS OF BULK AT MOST 1048576: true; the input reads as it did. -/
def badGoodUptoRow : OpenClaim := { program := "ytefmfhbkihplgaa", sum := "322f094f777de66c164620a96438a038ca32ee8168a6e2f4837f273fc295e301", func := "byway/bywaylaw08.BadGood", spec := "badGood", apart := false, narrowed := true }
def BadGoodUptoSaid : Prop := badGoodUptoRow.holds Try.pinned (OpenSpec.upto badGoodSpec)

/-- 'bywaylaw10.RootNewest', WHERE WHAT IT READS IS OF BULK AT MOST 1048576: true; the input reads as it did. -/
def rootNewestUptoRow : OpenClaim := { program := "ytefmfhbkihplgaa", sum := "322f094f777de66c164620a96438a038ca32ee8168a6e2f4837f273fc295e301", func := "byway/bywaylaw10.RootNewest", spec := "rootNewest", apart := false, narrowed := true }
def RootNewestUptoSaid : Prop := rootNewestUptoRow.holds Try.pinned (OpenSpec.upto rootNewestSpec)

/-- 'bywaylaw10.RootMost', WHERE WHAT IT READS IS OF BULK AT MOST 1048576: true; the input reads as it did. -/
def rootMostUptoRow : OpenClaim := { program := "ytefmfhbkihplgaa", sum := "322f094f777de66c164620a96438a038ca32ee8168a6e2f4837f273fc295e301", func := "byway/bywaylaw10.RootMost", spec := "rootMost", apart := false, narrowed := true }
def RootMostUptoSaid : Prop := rootMostUptoRow.holds Try.pinned (OpenSpec.upto rootMostSpec)

/-- 'bywaylaw21.ImageRight', WHERE WHAT IT READS IS OF BULK AT MOST 1048576: true; the input reads as it did. -/
def imageRightUptoRow : OpenClaim := { program := "ytefmfhbkihplgaa", sum := "322f094f777de66c164620a96438a038ca32ee8168a6e2f4837f273fc295e301", func := "byway/bywaylaw21.ImageRight", spec := "imageRight", unfollowed := true, recurses := true, apart := false, narrowed := true }
def ImageRightUptoSaid : Prop := imageRightUptoRow.holds Try.pinned (OpenSpec.upto imageRightSpec)

/-- 'bywaylaw21.ImageCounts', WHERE WHAT IT READS IS OF BULK AT MOST 1048576: true; the input reads as it did. -/
def imageCountsUptoRow : OpenClaim := { program := "ytefmfhbkihplgaa", sum := "322f094f777de66c164620a96438a038ca32ee8168a6e2f4837f273fc295e301", func := "byway/bywaylaw21.ImageCounts", spec := "imageCounts", unfollowed := true, recurses := true, apart := false, narrowed := true }
def ImageCountsUptoSaid : Prop := imageCountsUptoRow.holds Try.pinned (OpenSpec.upto imageCountsSpec)

/-- 'bywaylaw21.ImageFails', WHERE WHAT IT READS IS OF BULK AT MOST 1048576: true; the input reads as it did. -/
def imageFailsUptoRow : OpenClaim := { program := "ytefmfhbkihplgaa", sum := "322f094f777de66c164620a96438a038ca32ee8168a6e2f4837f273fc295e301", func := "byway/bywaylaw21.ImageFails", spec := "imageFails", unfollowed := true, recurses := true, apart := false, narrowed := true }
def ImageFailsUptoSaid : Prop := imageFailsUptoRow.holds Try.pinned (OpenSpec.upto imageFailsSpec)

end Rows
end Go.Proofs.Ytefmfhbkihplgaa
