/- The program's structs, and how they stand in cells. Conditions: none. -/
import Derived.Test.YtjnlpphnaldjeaaPh
namespace Go.Proofs.Ytjnlpphnaldjeaa.Tr
open Go Go.RowKit
set_option maxRecDepth 10000
/-- api.Item -/
structure Item where
  Id : Int
  Body : (List UInt8)
def Item_to : Item → (Int × (List UInt8)) := fun x => (x.Id, x.Body)
def Item_of : (Int × (List UInt8)) → Item := fun p => ⟨p.1, p.2⟩
instance Item_dat : Dat Item := Dat.iso Item_to Item_of (fun _ => rfl)
instance : Inhabited Item := ⟨Item_of default⟩
theorem Item_inj {x y : Item} (h : Item_to x = Item_to y) : x = y := by have e := congrArg Item_of h; exact e
instance : DecidableEq Item := fun x y => if h : Item_to x = Item_to y then isTrue (Item_inj h) else isFalse fun e => h (by rw [e])
instance : Fld Item Item_dat 0 Int inferInstance Item.Id (fun y x => ⟨y, x.Body⟩) := Fld.iso (f := Item_to) (g := Item_of) (h := fun _ => rfl) (Fld.fst (α := Int) (β := (List UInt8)))
instance : Fld Item Item_dat 1 (List UInt8) inferInstance Item.Body (fun y x => ⟨x.Id, y⟩) := Fld.iso (f := Item_to) (g := Item_of) (h := fun _ => rfl) (Fld.snd (α := Int) (β := (List UInt8)))
/-- api.Kept -/
structure Kept where
  Most : Int
  Items : (List Item)
def Kept_to : Kept → (Int × (List Item)) := fun x => (x.Most, x.Items)
def Kept_of : (Int × (List Item)) → Kept := fun p => ⟨p.1, p.2⟩
instance Kept_dat : Dat Kept := Dat.iso Kept_to Kept_of (fun _ => rfl)
instance : Inhabited Kept := ⟨Kept_of default⟩
theorem Kept_inj {x y : Kept} (h : Kept_to x = Kept_to y) : x = y := by have e := congrArg Kept_of h; exact e
instance : DecidableEq Kept := fun x y => if h : Kept_to x = Kept_to y then isTrue (Kept_inj h) else isFalse fun e => h (by rw [e])
instance : Fld Kept Kept_dat 0 Int inferInstance Kept.Most (fun y x => ⟨y, x.Items⟩) := Fld.iso (f := Kept_to) (g := Kept_of) (h := fun _ => rfl) (Fld.fst (α := Int) (β := (List Item)))
instance : Fld Kept Kept_dat 1 (List Item) inferInstance Kept.Items (fun y x => ⟨x.Most, y⟩) := Fld.iso (f := Kept_to) (g := Kept_of) (h := fun _ => rfl) (Fld.snd (α := Int) (β := (List Item)))
/-- bywaylaw13.Do -/
structure bywaylaw13_Do where
  Kind : UInt8
  Id : UInt8
  Val : UInt8
def bywaylaw13_Do_to : bywaylaw13_Do → (UInt8 × (UInt8 × UInt8)) := fun x => (x.Kind, x.Id, x.Val)
def bywaylaw13_Do_of : (UInt8 × (UInt8 × UInt8)) → bywaylaw13_Do := fun p => ⟨p.1, p.2.1, p.2.2⟩
instance bywaylaw13_Do_dat : Dat bywaylaw13_Do := Dat.iso bywaylaw13_Do_to bywaylaw13_Do_of (fun _ => rfl)
instance : Inhabited bywaylaw13_Do := ⟨bywaylaw13_Do_of default⟩
theorem bywaylaw13_Do_inj {x y : bywaylaw13_Do} (h : bywaylaw13_Do_to x = bywaylaw13_Do_to y) : x = y := by have e := congrArg bywaylaw13_Do_of h; exact e
instance : DecidableEq bywaylaw13_Do := fun x y => if h : bywaylaw13_Do_to x = bywaylaw13_Do_to y then isTrue (bywaylaw13_Do_inj h) else isFalse fun e => h (by rw [e])
instance : Flat bywaylaw13_Do bywaylaw13_Do_dat := Flat.iso (h := fun _ => rfl) inferInstance
instance : Fld bywaylaw13_Do bywaylaw13_Do_dat 0 UInt8 inferInstance bywaylaw13_Do.Kind (fun y x => ⟨y, x.Id, x.Val⟩) := Fld.iso (f := bywaylaw13_Do_to) (g := bywaylaw13_Do_of) (h := fun _ => rfl) (Fld.fst (α := UInt8) (β := (UInt8 × UInt8)))
instance : Fld bywaylaw13_Do bywaylaw13_Do_dat 1 UInt8 inferInstance bywaylaw13_Do.Id (fun y x => ⟨x.Kind, y, x.Val⟩) := Fld.iso (f := bywaylaw13_Do_to) (g := bywaylaw13_Do_of) (h := fun _ => rfl) (Fld.next (α := UInt8) (β := (UInt8 × UInt8)) (Fld.fst (α := UInt8) (β := UInt8)))
instance : Fld bywaylaw13_Do bywaylaw13_Do_dat 2 UInt8 inferInstance bywaylaw13_Do.Val (fun y x => ⟨x.Kind, x.Id, y⟩) := Fld.iso (f := bywaylaw13_Do_to) (g := bywaylaw13_Do_of) (h := fun _ => rfl) (Fld.next (α := UInt8) (β := (UInt8 × UInt8)) (Fld.snd (α := UInt8) (β := UInt8)))
/-- api.Wear -/
structure Wear where
  Live : Int
  Used : Int
  Worn : Int
  Bad : Bool
def Wear_to : Wear → (Int × (Int × (Int × Bool))) := fun x => (x.Live, x.Used, x.Worn, x.Bad)
def Wear_of : (Int × (Int × (Int × Bool))) → Wear := fun p => ⟨p.1, p.2.1, p.2.2.1, p.2.2.2⟩
instance Wear_dat : Dat Wear := Dat.iso Wear_to Wear_of (fun _ => rfl)
instance : Inhabited Wear := ⟨Wear_of default⟩
theorem Wear_inj {x y : Wear} (h : Wear_to x = Wear_to y) : x = y := by have e := congrArg Wear_of h; exact e
instance : DecidableEq Wear := fun x y => if h : Wear_to x = Wear_to y then isTrue (Wear_inj h) else isFalse fun e => h (by rw [e])
instance : Flat Wear Wear_dat := Flat.iso (h := fun _ => rfl) inferInstance
instance : Fld Wear Wear_dat 0 Int inferInstance Wear.Live (fun y x => ⟨y, x.Used, x.Worn, x.Bad⟩) := Fld.iso (f := Wear_to) (g := Wear_of) (h := fun _ => rfl) (Fld.fst (α := Int) (β := (Int × (Int × Bool))))
instance : Fld Wear Wear_dat 1 Int inferInstance Wear.Used (fun y x => ⟨x.Live, y, x.Worn, x.Bad⟩) := Fld.iso (f := Wear_to) (g := Wear_of) (h := fun _ => rfl) (Fld.next (α := Int) (β := (Int × (Int × Bool))) (Fld.fst (α := Int) (β := (Int × Bool))))
instance : Fld Wear Wear_dat 2 Int inferInstance Wear.Worn (fun y x => ⟨x.Live, x.Used, y, x.Bad⟩) := Fld.iso (f := Wear_to) (g := Wear_of) (h := fun _ => rfl) (Fld.next (α := Int) (β := (Int × (Int × Bool))) (Fld.next (α := Int) (β := (Int × Bool)) (Fld.fst (α := Int) (β := Bool))))
instance : Fld Wear Wear_dat 3 Bool inferInstance Wear.Bad (fun y x => ⟨x.Live, x.Used, x.Worn, y⟩) := Fld.iso (f := Wear_to) (g := Wear_of) (h := fun _ => rfl) (Fld.next (α := Int) (β := (Int × (Int × Bool))) (Fld.next (α := Int) (β := (Int × Bool)) (Fld.snd (α := Int) (β := Bool))))
/-- wear.block -/
structure wear_block where
  Wear : Wear
  pages : Int
def wear_block_to : wear_block → (Wear × Int) := fun x => (x.Wear, x.pages)
def wear_block_of : (Wear × Int) → wear_block := fun p => ⟨p.1, p.2⟩
instance wear_block_dat : Dat wear_block := Dat.iso wear_block_to wear_block_of (fun _ => rfl)
instance : Inhabited wear_block := ⟨wear_block_of default⟩
theorem wear_block_inj {x y : wear_block} (h : wear_block_to x = wear_block_to y) : x = y := by have e := congrArg wear_block_of h; exact e
instance : DecidableEq wear_block := fun x y => if h : wear_block_to x = wear_block_to y then isTrue (wear_block_inj h) else isFalse fun e => h (by rw [e])
instance : Flat wear_block wear_block_dat := Flat.iso (h := fun _ => rfl) inferInstance
instance : Fld wear_block wear_block_dat 0 Wear inferInstance wear_block.Wear (fun y x => ⟨y, x.pages⟩) := Fld.iso (f := wear_block_to) (g := wear_block_of) (h := fun _ => rfl) (Fld.fst (α := Wear) (β := Int))
instance : Fld wear_block wear_block_dat 4 Int inferInstance wear_block.pages (fun y x => ⟨x.Wear, y⟩) := Fld.iso (f := wear_block_to) (g := wear_block_of) (h := fun _ => rfl) (Fld.snd (α := Wear) (β := Int))
end Go.Proofs.Ytjnlpphnaldjeaa.Tr
