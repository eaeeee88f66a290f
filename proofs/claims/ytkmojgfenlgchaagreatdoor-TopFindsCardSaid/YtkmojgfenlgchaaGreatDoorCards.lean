/-
  DERIVED. GIVEN WITH THE SEED: THE CARDS: each row of YtkmojgfenlgchaaGreatDoorRows.lean that lists a variable, with what it lists TIED to the program's text (the seventh form; the later family's looks); each row that meets fmt, with fmt's text TOLD by the authors' own Lean function (tested against real Go, not proved from fmt's source: count such statements apart). THE CARD IS WHAT COUNTS. Prove the row's statement (the work); the ties are given (YtkmojgfenlgchaaGreatDoorTie.lean); close each card by the builder's one call (the guide's Derived/Test/ToyasCard.lean, 'card_holds'). Laid BY PROGRAM, IN A SANDBOX (cutbox-door.mjs). By AI agents, Wed Nov 11 2026. No macro, syntax, notation, axiom, sorry.
-/
import Derived.Test.YtkmojgfenlgchaaGreatDoorRows
import GoSem.ClaimSeven
namespace Go.Proofs.YtkmojgfenlgchaaGreatDoor
namespace Rows

/-- THE TIED CARD OF 'bywaytop.TopNever'. -/
def topNeverCard : Claim7 := { stood := { row := topNeverRow, standIns := [], harness := (true, "c1cfdc2fbd019fdcbc750d0f96387e643ddd29362aa1353ceebd97399875c579"), looks := false }, kinds := [], alts := [], laidByText := true, laidKinds := [.data, .pinned], laidTests := true, laidLooks := .later }
def TopNeverCardSaid : Prop := Claim7.holds Tryz.pinned (.plain (OpenSpec.ofChange topNeverSpec)) topNeverCard

/-- THE TIED CARD OF 'bywaytop.TopDelta'. -/
def topDeltaCard : Claim7 := { stood := { row := topDeltaRow, standIns := [], harness := (true, "c1cfdc2fbd019fdcbc750d0f96387e643ddd29362aa1353ceebd97399875c579"), looks := false }, kinds := [], alts := [], laidByText := true, laidKinds := [.data, .pinned], laidTests := true, laidLooks := .later }
def TopDeltaCardSaid : Prop := Claim7.holds Tryz.pinned (.plain (OpenSpec.ofChange topDeltaSpec)) topDeltaCard

/-- THE TIED CARD OF 'bywaytop.TopKept'. -/
def topKeptCard : Claim7 := { stood := { row := topKeptRow, standIns := [], harness := (true, "c1cfdc2fbd019fdcbc750d0f96387e643ddd29362aa1353ceebd97399875c579"), looks := false }, kinds := [], alts := [], laidByText := true, laidKinds := [.data, .pinned], laidTests := true, laidLooks := .later }
def TopKeptCardSaid : Prop := Claim7.holds Tryz.pinned (.plain (OpenSpec.ofChange topKeptSpec)) topKeptCard

/-- THE TIED CARD OF 'bywaytop.TopFinds'. -/
def topFindsCard : Claim7 := { stood := { row := topFindsRow, standIns := [], harness := (true, "c1cfdc2fbd019fdcbc750d0f96387e643ddd29362aa1353ceebd97399875c579"), looks := false }, kinds := [], alts := [], laidByText := true, laidKinds := [.data, .pinned], laidTests := true, laidLooks := .later }
def TopFindsCardSaid : Prop := Claim7.holds Tryz.pinned (.plain (OpenSpec.ofChange topFindsSpec)) topFindsCard

/-- THE SECOND FORM's CARD OF 'bywaytop.TopNever'. -/
def topNeverUptoCard : Claim7 := { stood := { row := topNeverUptoRow, standIns := [], harness := (true, "c1cfdc2fbd019fdcbc750d0f96387e643ddd29362aa1353ceebd97399875c579"), looks := false }, kinds := [], alts := [], laidByText := true, laidKinds := [.data, .pinned], laidTests := true, laidLooks := .later }
def TopNeverUptoCardSaid : Prop := Claim7.holds Tryz.pinned (.plain (OpenSpec.upto topNeverSpec)) topNeverUptoCard

/-- THE SECOND FORM's CARD OF 'bywaytop.TopDelta'. -/
def topDeltaUptoCard : Claim7 := { stood := { row := topDeltaUptoRow, standIns := [], harness := (true, "c1cfdc2fbd019fdcbc750d0f96387e643ddd29362aa1353ceebd97399875c579"), looks := false }, kinds := [], alts := [], laidByText := true, laidKinds := [.data, .pinned], laidTests := true, laidLooks := .later }
def TopDeltaUptoCardSaid : Prop := Claim7.holds Tryz.pinned (.plain (OpenSpec.upto topDeltaSpec)) topDeltaUptoCard

/-- THE SECOND FORM's CARD OF 'bywaytop.TopKept'. -/
def topKeptUptoCard : Claim7 := { stood := { row := topKeptUptoRow, standIns := [], harness := (true, "c1cfdc2fbd019fdcbc750d0f96387e643ddd29362aa1353ceebd97399875c579"), looks := false }, kinds := [], alts := [], laidByText := true, laidKinds := [.data, .pinned], laidTests := true, laidLooks := .later }
def TopKeptUptoCardSaid : Prop := Claim7.holds Tryz.pinned (.plain (OpenSpec.upto topKeptSpec)) topKeptUptoCard

/-- THE SECOND FORM's CARD OF 'bywaytop.TopFinds'. -/
def topFindsUptoCard : Claim7 := { stood := { row := topFindsUptoRow, standIns := [], harness := (true, "c1cfdc2fbd019fdcbc750d0f96387e643ddd29362aa1353ceebd97399875c579"), looks := false }, kinds := [], alts := [], laidByText := true, laidKinds := [.data, .pinned], laidTests := true, laidLooks := .later }
def TopFindsUptoCardSaid : Prop := Claim7.holds Tryz.pinned (.plain (OpenSpec.upto topFindsSpec)) topFindsUptoCard
end Rows
end Go.Proofs.YtkmojgfenlgchaaGreatDoor
