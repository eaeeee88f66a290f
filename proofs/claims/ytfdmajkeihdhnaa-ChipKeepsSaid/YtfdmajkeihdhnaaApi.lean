/- The program's structs, and how they stand in cells. Conditions: none. -/
import Derived.Test.YtfdmajkeihdhnaaEqv
namespace Go.Proofs.Ytfdmajkeihdhnaa.Tr
open Go Go.RowKit
set_option maxRecDepth 10000
/-- api.Page -/
structure Page where
  Kind : Int
  Id : Int
  Gen : UInt64
  Body : (List UInt8)
def Page_to : Page → (Int × (Int × (UInt64 × (List UInt8)))) := fun x => (x.Kind, x.Id, x.Gen, x.Body)
def Page_of : (Int × (Int × (UInt64 × (List UInt8)))) → Page := fun p => ⟨p.1, p.2.1, p.2.2.1, p.2.2.2⟩
instance Page_dat : Dat Page := Dat.iso Page_to Page_of (fun _ => rfl)
instance : Inhabited Page := ⟨Page_of default⟩
theorem Page_inj {x y : Page} (h : Page_to x = Page_to y) : x = y := by have e := congrArg Page_of h; exact e
instance : DecidableEq Page := fun x y => if h : Page_to x = Page_to y then isTrue (Page_inj h) else isFalse fun e => h (by rw [e])
instance : Fld Page Page_dat 0 Int inferInstance Page.Kind (fun y x => ⟨y, x.Id, x.Gen, x.Body⟩) := Fld.iso (f := Page_to) (g := Page_of) (h := fun _ => rfl) (Fld.fst (α := Int) (β := (Int × (UInt64 × (List UInt8)))))
instance : Fld Page Page_dat 1 Int inferInstance Page.Id (fun y x => ⟨x.Kind, y, x.Gen, x.Body⟩) := Fld.iso (f := Page_to) (g := Page_of) (h := fun _ => rfl) (Fld.next (α := Int) (β := (Int × (UInt64 × (List UInt8)))) (Fld.fst (α := Int) (β := (UInt64 × (List UInt8)))))
instance : Fld Page Page_dat 2 UInt64 inferInstance Page.Gen (fun y x => ⟨x.Kind, x.Id, y, x.Body⟩) := Fld.iso (f := Page_to) (g := Page_of) (h := fun _ => rfl) (Fld.next (α := Int) (β := (Int × (UInt64 × (List UInt8)))) (Fld.next (α := Int) (β := (UInt64 × (List UInt8))) (Fld.fst (α := UInt64) (β := (List UInt8)))))
instance : Fld Page Page_dat 3 (List UInt8) inferInstance Page.Body (fun y x => ⟨x.Kind, x.Id, x.Gen, y⟩) := Fld.iso (f := Page_to) (g := Page_of) (h := fun _ => rfl) (Fld.next (α := Int) (β := (Int × (UInt64 × (List UInt8)))) (Fld.next (α := Int) (β := (UInt64 × (List UInt8))) (Fld.snd (α := UInt64) (β := (List UInt8)))))
/-- api.Reserve -/
structure Reserve where
  Stands : (List Int)
  Left : (List Int)
def Reserve_to : Reserve → ((List Int) × (List Int)) := fun x => (x.Stands, x.Left)
def Reserve_of : ((List Int) × (List Int)) → Reserve := fun p => ⟨p.1, p.2⟩
instance Reserve_dat : Dat Reserve := Dat.iso Reserve_to Reserve_of (fun _ => rfl)
instance : Inhabited Reserve := ⟨Reserve_of default⟩
theorem Reserve_inj {x y : Reserve} (h : Reserve_to x = Reserve_to y) : x = y := by have e := congrArg Reserve_of h; exact e
instance : DecidableEq Reserve := fun x y => if h : Reserve_to x = Reserve_to y then isTrue (Reserve_inj h) else isFalse fun e => h (by rw [e])
instance : Fld Reserve Reserve_dat 0 (List Int) inferInstance Reserve.Stands (fun y x => ⟨y, x.Left⟩) := Fld.iso (f := Reserve_to) (g := Reserve_of) (h := fun _ => rfl) (Fld.fst (α := (List Int)) (β := (List Int)))
instance : Fld Reserve Reserve_dat 1 (List Int) inferInstance Reserve.Left (fun y x => ⟨x.Stands, y⟩) := Fld.iso (f := Reserve_to) (g := Reserve_of) (h := fun _ => rfl) (Fld.snd (α := (List Int)) (β := (List Int)))
/-- api.Block -/
structure Block where
  Pages : (List (List UInt8))
  Used : Int
  Worn : Int
  Bad : Bool
def Block_to : Block → ((List (List UInt8)) × (Int × (Int × Bool))) := fun x => (x.Pages, x.Used, x.Worn, x.Bad)
def Block_of : ((List (List UInt8)) × (Int × (Int × Bool))) → Block := fun p => ⟨p.1, p.2.1, p.2.2.1, p.2.2.2⟩
instance Block_dat : Dat Block := Dat.iso Block_to Block_of (fun _ => rfl)
instance : Inhabited Block := ⟨Block_of default⟩
theorem Block_inj {x y : Block} (h : Block_to x = Block_to y) : x = y := by have e := congrArg Block_of h; exact e
instance : DecidableEq Block := fun x y => if h : Block_to x = Block_to y then isTrue (Block_inj h) else isFalse fun e => h (by rw [e])
instance : Fld Block Block_dat 0 (List (List UInt8)) inferInstance Block.Pages (fun y x => ⟨y, x.Used, x.Worn, x.Bad⟩) := Fld.iso (f := Block_to) (g := Block_of) (h := fun _ => rfl) (Fld.fst (α := (List (List UInt8))) (β := (Int × (Int × Bool))))
instance : Fld Block Block_dat 1 Int inferInstance Block.Used (fun y x => ⟨x.Pages, y, x.Worn, x.Bad⟩) := Fld.iso (f := Block_to) (g := Block_of) (h := fun _ => rfl) (Fld.next (α := (List (List UInt8))) (β := (Int × (Int × Bool))) (Fld.fst (α := Int) (β := (Int × Bool))))
instance : Fld Block Block_dat 2 Int inferInstance Block.Worn (fun y x => ⟨x.Pages, x.Used, y, x.Bad⟩) := Fld.iso (f := Block_to) (g := Block_of) (h := fun _ => rfl) (Fld.next (α := (List (List UInt8))) (β := (Int × (Int × Bool))) (Fld.next (α := Int) (β := (Int × Bool)) (Fld.fst (α := Int) (β := Bool))))
instance : Fld Block Block_dat 3 Bool inferInstance Block.Bad (fun y x => ⟨x.Pages, x.Used, x.Worn, y⟩) := Fld.iso (f := Block_to) (g := Block_of) (h := fun _ => rfl) (Fld.next (α := (List (List UInt8))) (β := (Int × (Int × Bool))) (Fld.next (α := Int) (β := (Int × Bool)) (Fld.snd (α := Int) (β := Bool))))
/-- api.Fault -/
structure Fault where
  Op : Int
  Fail : Bool
  Cut : Bool
  Mask : UInt8
def Fault_to : Fault → (Int × (Bool × (Bool × UInt8))) := fun x => (x.Op, x.Fail, x.Cut, x.Mask)
def Fault_of : (Int × (Bool × (Bool × UInt8))) → Fault := fun p => ⟨p.1, p.2.1, p.2.2.1, p.2.2.2⟩
instance Fault_dat : Dat Fault := Dat.iso Fault_to Fault_of (fun _ => rfl)
instance : Inhabited Fault := ⟨Fault_of default⟩
theorem Fault_inj {x y : Fault} (h : Fault_to x = Fault_to y) : x = y := by have e := congrArg Fault_of h; exact e
instance : DecidableEq Fault := fun x y => if h : Fault_to x = Fault_to y then isTrue (Fault_inj h) else isFalse fun e => h (by rw [e])
instance : Flat Fault Fault_dat := Flat.iso (h := fun _ => rfl) inferInstance
instance : Fld Fault Fault_dat 0 Int inferInstance Fault.Op (fun y x => ⟨y, x.Fail, x.Cut, x.Mask⟩) := Fld.iso (f := Fault_to) (g := Fault_of) (h := fun _ => rfl) (Fld.fst (α := Int) (β := (Bool × (Bool × UInt8))))
instance : Fld Fault Fault_dat 1 Bool inferInstance Fault.Fail (fun y x => ⟨x.Op, y, x.Cut, x.Mask⟩) := Fld.iso (f := Fault_to) (g := Fault_of) (h := fun _ => rfl) (Fld.next (α := Int) (β := (Bool × (Bool × UInt8))) (Fld.fst (α := Bool) (β := (Bool × UInt8))))
instance : Fld Fault Fault_dat 2 Bool inferInstance Fault.Cut (fun y x => ⟨x.Op, x.Fail, y, x.Mask⟩) := Fld.iso (f := Fault_to) (g := Fault_of) (h := fun _ => rfl) (Fld.next (α := Int) (β := (Bool × (Bool × UInt8))) (Fld.next (α := Bool) (β := (Bool × UInt8)) (Fld.fst (α := Bool) (β := UInt8))))
instance : Fld Fault Fault_dat 3 UInt8 inferInstance Fault.Mask (fun y x => ⟨x.Op, x.Fail, x.Cut, y⟩) := Fld.iso (f := Fault_to) (g := Fault_of) (h := fun _ => rfl) (Fld.next (α := Int) (β := (Bool × (Bool × UInt8))) (Fld.next (α := Bool) (β := (Bool × UInt8)) (Fld.snd (α := Bool) (β := UInt8))))
/-- api.Chip -/
structure Chip where
  Pages : Int
  Size : Int
  Blocks : (List Block)
  Ops : Int
  Off : Bool
  Faults : (List Fault)
def Chip_to : Chip → (Int × (Int × ((List Block) × (Int × (Bool × (List Fault)))))) := fun x => (x.Pages, x.Size, x.Blocks, x.Ops, x.Off, x.Faults)
def Chip_of : (Int × (Int × ((List Block) × (Int × (Bool × (List Fault)))))) → Chip := fun p => ⟨p.1, p.2.1, p.2.2.1, p.2.2.2.1, p.2.2.2.2.1, p.2.2.2.2.2⟩
instance Chip_dat : Dat Chip := Dat.iso Chip_to Chip_of (fun _ => rfl)
instance : Inhabited Chip := ⟨Chip_of default⟩
theorem Chip_inj {x y : Chip} (h : Chip_to x = Chip_to y) : x = y := by have e := congrArg Chip_of h; exact e
instance : DecidableEq Chip := fun x y => if h : Chip_to x = Chip_to y then isTrue (Chip_inj h) else isFalse fun e => h (by rw [e])
instance : Fld Chip Chip_dat 0 Int inferInstance Chip.Pages (fun y x => ⟨y, x.Size, x.Blocks, x.Ops, x.Off, x.Faults⟩) := Fld.iso (f := Chip_to) (g := Chip_of) (h := fun _ => rfl) (Fld.fst (α := Int) (β := (Int × ((List Block) × (Int × (Bool × (List Fault)))))))
instance : Fld Chip Chip_dat 1 Int inferInstance Chip.Size (fun y x => ⟨x.Pages, y, x.Blocks, x.Ops, x.Off, x.Faults⟩) := Fld.iso (f := Chip_to) (g := Chip_of) (h := fun _ => rfl) (Fld.next (α := Int) (β := (Int × ((List Block) × (Int × (Bool × (List Fault)))))) (Fld.fst (α := Int) (β := ((List Block) × (Int × (Bool × (List Fault)))))))
instance : Fld Chip Chip_dat 2 (List Block) inferInstance Chip.Blocks (fun y x => ⟨x.Pages, x.Size, y, x.Ops, x.Off, x.Faults⟩) := Fld.iso (f := Chip_to) (g := Chip_of) (h := fun _ => rfl) (Fld.next (α := Int) (β := (Int × ((List Block) × (Int × (Bool × (List Fault)))))) (Fld.next (α := Int) (β := ((List Block) × (Int × (Bool × (List Fault))))) (Fld.fst (α := (List Block)) (β := (Int × (Bool × (List Fault)))))))
instance : Fld Chip Chip_dat 3 Int inferInstance Chip.Ops (fun y x => ⟨x.Pages, x.Size, x.Blocks, y, x.Off, x.Faults⟩) := Fld.iso (f := Chip_to) (g := Chip_of) (h := fun _ => rfl) (Fld.next (α := Int) (β := (Int × ((List Block) × (Int × (Bool × (List Fault)))))) (Fld.next (α := Int) (β := ((List Block) × (Int × (Bool × (List Fault))))) (Fld.next (α := (List Block)) (β := (Int × (Bool × (List Fault)))) (Fld.fst (α := Int) (β := (Bool × (List Fault)))))))
instance : Fld Chip Chip_dat 4 Bool inferInstance Chip.Off (fun y x => ⟨x.Pages, x.Size, x.Blocks, x.Ops, y, x.Faults⟩) := Fld.iso (f := Chip_to) (g := Chip_of) (h := fun _ => rfl) (Fld.next (α := Int) (β := (Int × ((List Block) × (Int × (Bool × (List Fault)))))) (Fld.next (α := Int) (β := ((List Block) × (Int × (Bool × (List Fault))))) (Fld.next (α := (List Block)) (β := (Int × (Bool × (List Fault)))) (Fld.next (α := Int) (β := (Bool × (List Fault))) (Fld.fst (α := Bool) (β := (List Fault)))))))
instance : Fld Chip Chip_dat 5 (List Fault) inferInstance Chip.Faults (fun y x => ⟨x.Pages, x.Size, x.Blocks, x.Ops, x.Off, y⟩) := Fld.iso (f := Chip_to) (g := Chip_of) (h := fun _ => rfl) (Fld.next (α := Int) (β := (Int × ((List Block) × (Int × (Bool × (List Fault)))))) (Fld.next (α := Int) (β := ((List Block) × (Int × (Bool × (List Fault))))) (Fld.next (α := (List Block)) (β := (Int × (Bool × (List Fault)))) (Fld.next (α := Int) (β := (Bool × (List Fault))) (Fld.snd (α := Bool) (β := (List Fault)))))))
/-- bywaylaw06.Do -/
structure bywaylaw06_Do where
  Kind : UInt8
  Block : UInt8
  Byte : UInt8
def bywaylaw06_Do_to : bywaylaw06_Do → (UInt8 × (UInt8 × UInt8)) := fun x => (x.Kind, x.Block, x.Byte)
def bywaylaw06_Do_of : (UInt8 × (UInt8 × UInt8)) → bywaylaw06_Do := fun p => ⟨p.1, p.2.1, p.2.2⟩
instance bywaylaw06_Do_dat : Dat bywaylaw06_Do := Dat.iso bywaylaw06_Do_to bywaylaw06_Do_of (fun _ => rfl)
instance : Inhabited bywaylaw06_Do := ⟨bywaylaw06_Do_of default⟩
theorem bywaylaw06_Do_inj {x y : bywaylaw06_Do} (h : bywaylaw06_Do_to x = bywaylaw06_Do_to y) : x = y := by have e := congrArg bywaylaw06_Do_of h; exact e
instance : DecidableEq bywaylaw06_Do := fun x y => if h : bywaylaw06_Do_to x = bywaylaw06_Do_to y then isTrue (bywaylaw06_Do_inj h) else isFalse fun e => h (by rw [e])
instance : Flat bywaylaw06_Do bywaylaw06_Do_dat := Flat.iso (h := fun _ => rfl) inferInstance
instance : Fld bywaylaw06_Do bywaylaw06_Do_dat 0 UInt8 inferInstance bywaylaw06_Do.Kind (fun y x => ⟨y, x.Block, x.Byte⟩) := Fld.iso (f := bywaylaw06_Do_to) (g := bywaylaw06_Do_of) (h := fun _ => rfl) (Fld.fst (α := UInt8) (β := (UInt8 × UInt8)))
instance : Fld bywaylaw06_Do bywaylaw06_Do_dat 1 UInt8 inferInstance bywaylaw06_Do.Block (fun y x => ⟨x.Kind, y, x.Byte⟩) := Fld.iso (f := bywaylaw06_Do_to) (g := bywaylaw06_Do_of) (h := fun _ => rfl) (Fld.next (α := UInt8) (β := (UInt8 × UInt8)) (Fld.fst (α := UInt8) (β := UInt8)))
instance : Fld bywaylaw06_Do bywaylaw06_Do_dat 2 UInt8 inferInstance bywaylaw06_Do.Byte (fun y x => ⟨x.Kind, x.Block, y⟩) := Fld.iso (f := bywaylaw06_Do_to) (g := bywaylaw06_Do_of) (h := fun _ => rfl) (Fld.next (α := UInt8) (β := (UInt8 × UInt8)) (Fld.snd (α := UInt8) (β := UInt8)))
/-- api.Roots -/
structure Roots where
  Gen : UInt64
  At : (List Int)
def Roots_to : Roots → (UInt64 × (List Int)) := fun x => (x.Gen, x.At)
def Roots_of : (UInt64 × (List Int)) → Roots := fun p => ⟨p.1, p.2⟩
instance Roots_dat : Dat Roots := Dat.iso Roots_to Roots_of (fun _ => rfl)
instance : Inhabited Roots := ⟨Roots_of default⟩
theorem Roots_inj {x y : Roots} (h : Roots_to x = Roots_to y) : x = y := by have e := congrArg Roots_of h; exact e
instance : DecidableEq Roots := fun x y => if h : Roots_to x = Roots_to y then isTrue (Roots_inj h) else isFalse fun e => h (by rw [e])
instance : Fld Roots Roots_dat 0 UInt64 inferInstance Roots.Gen (fun y x => ⟨y, x.At⟩) := Fld.iso (f := Roots_to) (g := Roots_of) (h := fun _ => rfl) (Fld.fst (α := UInt64) (β := (List Int)))
instance : Fld Roots Roots_dat 1 (List Int) inferInstance Roots.At (fun y x => ⟨x.Gen, y⟩) := Fld.iso (f := Roots_to) (g := Roots_of) (h := fun _ => rfl) (Fld.snd (α := UInt64) (β := (List Int)))
/-- api.Tally -/
structure Tally where
  Blank : Int
  Data : Int
  Roots : Int
  Torn : Int
  Lost : Int
def Tally_to : Tally → (Int × (Int × (Int × (Int × Int)))) := fun x => (x.Blank, x.Data, x.Roots, x.Torn, x.Lost)
def Tally_of : (Int × (Int × (Int × (Int × Int)))) → Tally := fun p => ⟨p.1, p.2.1, p.2.2.1, p.2.2.2.1, p.2.2.2.2⟩
instance Tally_dat : Dat Tally := Dat.iso Tally_to Tally_of (fun _ => rfl)
instance : Inhabited Tally := ⟨Tally_of default⟩
theorem Tally_inj {x y : Tally} (h : Tally_to x = Tally_to y) : x = y := by have e := congrArg Tally_of h; exact e
instance : DecidableEq Tally := fun x y => if h : Tally_to x = Tally_to y then isTrue (Tally_inj h) else isFalse fun e => h (by rw [e])
instance : Flat Tally Tally_dat := Flat.iso (h := fun _ => rfl) inferInstance
instance : Fld Tally Tally_dat 0 Int inferInstance Tally.Blank (fun y x => ⟨y, x.Data, x.Roots, x.Torn, x.Lost⟩) := Fld.iso (f := Tally_to) (g := Tally_of) (h := fun _ => rfl) (Fld.fst (α := Int) (β := (Int × (Int × (Int × Int)))))
instance : Fld Tally Tally_dat 1 Int inferInstance Tally.Data (fun y x => ⟨x.Blank, y, x.Roots, x.Torn, x.Lost⟩) := Fld.iso (f := Tally_to) (g := Tally_of) (h := fun _ => rfl) (Fld.next (α := Int) (β := (Int × (Int × (Int × Int)))) (Fld.fst (α := Int) (β := (Int × (Int × Int)))))
instance : Fld Tally Tally_dat 2 Int inferInstance Tally.Roots (fun y x => ⟨x.Blank, x.Data, y, x.Torn, x.Lost⟩) := Fld.iso (f := Tally_to) (g := Tally_of) (h := fun _ => rfl) (Fld.next (α := Int) (β := (Int × (Int × (Int × Int)))) (Fld.next (α := Int) (β := (Int × (Int × Int))) (Fld.fst (α := Int) (β := (Int × Int)))))
instance : Fld Tally Tally_dat 3 Int inferInstance Tally.Torn (fun y x => ⟨x.Blank, x.Data, x.Roots, y, x.Lost⟩) := Fld.iso (f := Tally_to) (g := Tally_of) (h := fun _ => rfl) (Fld.next (α := Int) (β := (Int × (Int × (Int × Int)))) (Fld.next (α := Int) (β := (Int × (Int × Int))) (Fld.next (α := Int) (β := (Int × Int)) (Fld.fst (α := Int) (β := Int)))))
instance : Fld Tally Tally_dat 4 Int inferInstance Tally.Lost (fun y x => ⟨x.Blank, x.Data, x.Roots, x.Torn, y⟩) := Fld.iso (f := Tally_to) (g := Tally_of) (h := fun _ => rfl) (Fld.next (α := Int) (β := (Int × (Int × (Int × Int)))) (Fld.next (α := Int) (β := (Int × (Int × Int))) (Fld.next (α := Int) (β := (Int × Int)) (Fld.snd (α := Int) (β := Int)))))
/-- image.sheet -/
structure image_sheet where
  kind : Int
  id : Int
  gen : UInt64
def image_sheet_to : image_sheet → (Int × (Int × UInt64)) := fun x => (x.kind, x.id, x.gen)
def image_sheet_of : (Int × (Int × UInt64)) → image_sheet := fun p => ⟨p.1, p.2.1, p.2.2⟩
instance image_sheet_dat : Dat image_sheet := Dat.iso image_sheet_to image_sheet_of (fun _ => rfl)
instance : Inhabited image_sheet := ⟨image_sheet_of default⟩
theorem image_sheet_inj {x y : image_sheet} (h : image_sheet_to x = image_sheet_to y) : x = y := by have e := congrArg image_sheet_of h; exact e
instance : DecidableEq image_sheet := fun x y => if h : image_sheet_to x = image_sheet_to y then isTrue (image_sheet_inj h) else isFalse fun e => h (by rw [e])
instance : Flat image_sheet image_sheet_dat := Flat.iso (h := fun _ => rfl) inferInstance
instance : Fld image_sheet image_sheet_dat 0 Int inferInstance image_sheet.kind (fun y x => ⟨y, x.id, x.gen⟩) := Fld.iso (f := image_sheet_to) (g := image_sheet_of) (h := fun _ => rfl) (Fld.fst (α := Int) (β := (Int × UInt64)))
instance : Fld image_sheet image_sheet_dat 1 Int inferInstance image_sheet.id (fun y x => ⟨x.kind, y, x.gen⟩) := Fld.iso (f := image_sheet_to) (g := image_sheet_of) (h := fun _ => rfl) (Fld.next (α := Int) (β := (Int × UInt64)) (Fld.fst (α := Int) (β := UInt64)))
instance : Fld image_sheet image_sheet_dat 2 UInt64 inferInstance image_sheet.gen (fun y x => ⟨x.kind, x.id, y⟩) := Fld.iso (f := image_sheet_to) (g := image_sheet_of) (h := fun _ => rfl) (Fld.next (α := Int) (β := (Int × UInt64)) (Fld.snd (α := Int) (β := UInt64)))
end Go.Proofs.Ytfdmajkeihdhnaa.Tr
