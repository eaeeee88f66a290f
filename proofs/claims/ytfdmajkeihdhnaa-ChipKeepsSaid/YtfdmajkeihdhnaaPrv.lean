/- Private blocks: boxes and rows; how they are made, read, written, and given out. Conditions: none. -/
import Derived.Test.YtfdmajkeihdhnaaMem
import Derived.Laws.Tables
namespace Go.Proofs.Ytfdmajkeihdhnaa.Tr
open Go Go.RowKit
set_option linter.unusedVariables false
set_option linter.unnecessarySimpa false

theorem seg_left {a b : List Value} {o n : Nat} (h : o + n ≤ a.length) : seg (a ++ b) o n = seg a o n := by
  refine getD_ext (by rw [seg_length h, seg_length (by simp; omega)]) fun j hj => ?_
  rw [seg_length (by simp; omega)] at hj
  rw [seg_getD hj, seg_getD hj]
  simp [List.getD_eq_getElem?_getD, List.getElem?_append_left (show o + j < a.length by omega)]
theorem seg_right {a b : List Value} {o n : Nat} (h : o + n ≤ b.length) : seg (a ++ b) (a.length + o) n = seg b o n := by
  refine getD_ext (by rw [seg_length h, seg_length (by simp; omega)]) fun j hj => ?_
  rw [seg_length (by simp; omega)] at hj
  rw [seg_getD hj, seg_getD hj]
  simp [List.getD_eq_getElem?_getD, List.getElem?_append_right (show a.length ≤ a.length + o + j by omega), show a.length + o + j - a.length = o + j by omega]
theorem seg_take {a : List Value} {o n k : Nat} (h : o + n ≤ k) (hk : k ≤ a.length) : seg (a.take k) o n = seg a o n := by
  refine getD_ext (by rw [seg_length (by simp; omega), seg_length (by omega)]) fun j hj => ?_
  rw [seg_length (by simp; omega)] at hj
  rw [seg_getD hj, seg_getD hj]
  simp [List.getD_eq_getElem?_getD, List.getElem?_take_of_lt (show o + j < k by omega)]
theorem seg_setSeg_in {cs : List Value} {o p q : Nat} {vs : List Value} (h : o + vs.length ≤ cs.length) (hp : p + q ≤ vs.length) : seg (setSeg cs o vs) (o + p) q = seg vs p q := by
  have h1 : o + p + q ≤ (setSeg cs o vs).length := by rw [setSeg_length h]; omega
  refine getD_ext (by rw [seg_length h1, seg_length hp]) fun j hj => ?_
  rw [seg_length h1] at hj
  rw [seg_getD hj, seg_getD hj, setSeg_getD h, if_pos (by omega)]; congr 1; omega

theorem Mut.setCell {w : World} {b i : Nat} {v : Value} : Mut (fun k => k = b) w (w.setCell ⟨b, i, none⟩ v) :=
  ⟨rfl, rfl, rfl, by simp, fun k hk hn => Below.heap_setCell _ _ _ _ (by simpa using hn)⟩
theorem Blk.setCell {w : World} {b i : Nat} {v : Value} {cs : List Value} (h : Blk w b cs) : Blk (w.setCell ⟨b, i, none⟩ v) b (cs.set i v) := by
  obtain ⟨e, f, h, hf⟩ := h
  refine ⟨e, f, ?_, by simpa using hf⟩
  simp only [World.setCell, Array.getElem?_modify, if_true, h, Option.map_some]
  simp

theorem set_setSeg {cs : List Value} {o : Nat} {v : Value} {vs : List Value} (h : o + (vs.length + 1) ≤ cs.length) : setSeg (cs.set o v) (o + 1) vs = setSeg cs o (v :: vs) := by
  have h1 : o + 1 + vs.length ≤ (cs.set o v).length := by simp; omega
  have h2 : o + (v :: vs).length ≤ cs.length := by simpa using h
  refine getD_ext (by rw [setSeg_length h1, setSeg_length h2]; simp) fun j hj => ?_
  rw [setSeg_length h1] at hj
  rw [setSeg_getD h1, setSeg_getD h2]
  simp only [List.length_cons]
  by_cases c1 : j = o
  · subst c1
    rw [if_neg (by omega), if_pos (by omega)]
    simp [List.getD_eq_getElem?_getD, List.getElem?_set_self (show j < cs.length by omega)]
  · by_cases c2 : o + 1 ≤ j ∧ j < o + 1 + vs.length
    · rw [if_pos c2, if_pos (by omega)]
      rw [show j - o = (j - (o + 1)) + 1 by omega]
      simp [List.getD_eq_getElem?_getD]
    · rw [if_neg c2, if_neg (by omega)]
      simp [List.getD_eq_getElem?_getD, List.getElem?_set_ne (show o ≠ j from fun e => c1 e.symm)]

theorem run_storeCellsB {P : Program} {b o : Nat} : ∀ (vs : List Value) (i : Nat) (cs : List Value) (w : World), Blk w b cs → o + i + vs.length ≤ cs.length → (∀ v ∈ vs, v.oneCell' = true) →
    ∃ w', (storeCells ⟨b, o, none⟩ vs i).run P w = .ok () w' ∧ Blk w' b (setSeg cs (o + i) vs) ∧ Mut (fun k => k = b) w w' ∧ w'.heap.size = w.heap.size
  | [], i, cs, w, hb, _, _ => ⟨w, rfl, by simpa [setSeg] using hb, Mut.refl _ _, rfl⟩
  | v :: vs, i, cs, w, hb, hl, h1 => by
    have hl' : o + i + (vs.length + 1) ≤ cs.length := by simpa using hl
    obtain ⟨w', r1, r2, r3, r4⟩ := run_storeCellsB (P := P) (b := b) (o := o) vs (i + 1) (cs.set (o + i) v) (w.setCell ⟨b, o + i, none⟩ v) hb.setCell (by simp; omega) fun u hu => h1 u (List.mem_cons_of_mem _ hu)
    refine ⟨w', ?_, ?_, Mut.setCell.trans r3, by rw [r4]; simp⟩
    · unfold storeCells
      rw [Sem.run_bind, addr_add, run_store _ _ _ _ _ (h1 v List.mem_cons_self), hb.cell (by omega), hb.free (by omega)]
      simpa using r1
    · rw [← Nat.add_assoc, set_setSeg hl'] at r2; exact r2

theorem run_storeCells' {P : Program} {b o : Nat} {vs : List Value} {cs : List Value} {w : World} (hb : Blk w b cs) (hl : o + vs.length ≤ cs.length) (h1 : ∀ v ∈ vs, v.oneCell' = true) :
    ∃ w', (storeCells ⟨b, o, none⟩ vs).run P w = .ok () w' ∧ Blk w' b (setSeg cs o vs) ∧ Mut (fun k => k = b) w w' ∧ w'.heap.size = w.heap.size :=
  run_storeCellsB vs 0 cs w hb (by omega) h1

theorem seg_seg {cs : List Value} {a m o n : Nat} (h : o + n ≤ m) (hm : a + m ≤ cs.length) : seg (seg cs a m) o n = seg cs (a + o) n := by
  have hl : (seg cs a m).length = m := seg_length hm
  refine getD_ext (by rw [seg_length (by omega), seg_length (by omega)]) fun j hj => ?_
  rw [seg_length (by omega)] at hj
  rw [seg_getD hj, seg_getD hj, seg_getD (by omega)]; congr 1; omega
theorem seg_setSeg_inner {cs : List Value} {a m o : Nat} {es : List Value} (h : o + es.length ≤ m) (hm : a + m ≤ cs.length) : seg (setSeg cs (a + o) es) a m = setSeg (seg cs a m) o es := by
  have hl : (seg cs a m).length = m := seg_length hm
  have h1 : a + o + es.length ≤ cs.length := by omega
  have h2 : o + es.length ≤ (seg cs a m).length := by omega
  refine getD_ext (by rw [seg_length (by rw [setSeg_length h1]; omega), setSeg_length h2, hl]) fun j hj => ?_
  rw [seg_length (by rw [setSeg_length h1]; omega)] at hj
  rw [seg_getD hj, setSeg_getD h1, setSeg_getD h2, seg_getD hj]
  by_cases c : o ≤ j ∧ j < o + es.length
  · rw [if_pos (by omega), if_pos c]; congr 1; omega
  · rw [if_neg (by omega), if_neg c]
theorem seg_two {cs : List Value} {a b : Nat} (h : cs.length = a + b) : cs = seg cs 0 a ++ seg cs a b := by
  have e1 : seg cs 0 a = cs.take a := by simp [seg]
  have e2 : seg cs a b = cs.drop a := by simp only [seg]; exact List.take_of_length_le (by simp; omega)
  rw [e1, e2, List.take_append_drop]
theorem zc_length (α : Type) [Dat α] : (Dat.zc α).length = Dat.sz α := Dat.len (Dat.zrd (A := fun _ => True) (w := default))

instance instProd {α β : Type} [Dat α] [Dat β] : Dat (α × β) where
  agg := true
  sz := Dat.sz α + Dat.sz β
  rd A w cs x := cs.length = Dat.sz α + Dat.sz β ∧ Dat.rd A w (seg cs 0 (Dat.sz α)) x.1 ∧ Dat.rd A w (seg cs (Dat.sz α) (Dat.sz β)) x.2
  wf x := Dat.wf x.1 ∧ Dat.wf x.2
  len h := h.1
  one h := by cases h
  pos := by have := Dat.pos (α := α); omega
  ok h := ⟨Dat.ok h.2.1, Dat.ok h.2.2⟩
  plain h := by cases h
  mono k h := ⟨h.1, Dat.mono k h.2.1, Dat.mono k h.2.2⟩
  scal h v hv := by
    rw [seg_two h.1, List.mem_append] at hv
    rcases hv with hv | hv
    · exact Dat.scal h.2.1 v hv
    · exact Dat.scal h.2.2 v hv
  z := (Dat.z, Dat.z)
  zc := Dat.zc α ++ Dat.zc β
  zrd {A w} := ⟨by rw [List.length_append, zc_length, zc_length], by
      rw [seg_left (by rw [zc_length]; omega)]
      have : seg (Dat.zc α) 0 (Dat.sz α) = Dat.zc α := by rw [← zc_length α]; simp [seg]
      rw [this]; exact Dat.zrd, by
      have e := seg_right (a := Dat.zc α) (b := Dat.zc β) (o := 0) (n := Dat.sz β) (by rw [zc_length]; omega)
      rw [zc_length, Nat.add_zero] at e
      rw [e]
      have : seg (Dat.zc β) 0 (Dat.sz β) = Dat.zc β := by rw [← zc_length β]; simp [seg]
      rw [this]; exact Dat.zrd⟩

/-- the same data, by another name -/
@[reducible] def Dat.iso {α β : Type} [i : Dat β] (f : α → β) (g : β → α) (h : ∀ y, f (g y) = y) : Dat α where
  agg := Dat.agg β
  sz := Dat.sz β
  rd A w cs x := Dat.rd A w cs (f x)
  wf x := Dat.wf (f x)
  len h := Dat.len h
  one h := Dat.one h
  pos := Dat.pos
  ok h := Dat.ok h
  plain h := Dat.plain h
  mono k h := Dat.mono k h
  scal h := Dat.scal h
  z := g Dat.z
  zc := Dat.zc β
  zrd := by intro A w; show Dat.rd A w (Dat.zc β) (f (g Dat.z)); rw [h]; exact Dat.zrd


/-- a field at an offset: how it is read, and how it is written -/
class Fld (α : Type) (i : Dat α) (off : Nat) (β : outParam Type) (j : outParam (Dat β)) (get : outParam (α → β)) (set : outParam (β → α → α)) : Prop where
  agg : Dat.agg α = true
  le : off + Dat.sz β ≤ Dat.sz α
  rd : ∀ {A w cs x}, Dat.rd A w cs x → Dat.rd A w (seg cs off (Dat.sz β)) (get x)
  st : ∀ {A w cs x es y}, Dat.rd A w cs x → Dat.rd A w es y → Dat.rd A w (setSeg cs off es) (set y x)

theorem Fld.fst {α β : Type} [Dat α] [Dat β] : Fld (α × β) inferInstance 0 α inferInstance Prod.fst (fun y x => (y, x.2)) where
  agg := rfl
  le := by show 0 + Dat.sz α ≤ Dat.sz α + Dat.sz β; omega
  rd h := h.2.1
  st {A w cs x es y} h k := by
    have l := Dat.len k
    have l1 := h.1
    refine ⟨by rw [setSeg_length (by omega)]; exact h.1, ?_, ?_⟩
    · have e := seg_setSeg_same (cs := cs) (o := 0) (vs := es) (by omega)
      rw [l] at e; rw [e]; exact k
    · rw [seg_setSeg_other (by omega) (by omega) (.inr (by omega))]; exact h.2.2
theorem Fld.snd {α β : Type} [Dat α] [Dat β] : Fld (α × β) inferInstance (Dat.sz α) β inferInstance Prod.snd (fun y x => (x.1, y)) where
  agg := rfl
  le := Nat.le_refl _
  rd h := h.2.2
  st {A w cs x es y} h k := by
    have l := Dat.len k
    have l1 := h.1
    refine ⟨by rw [setSeg_length (by omega)]; exact h.1, ?_, ?_⟩
    · rw [seg_setSeg_other (by omega) (by omega) (.inl (by omega))]; exact h.2.1
    · have e := seg_setSeg_same (cs := cs) (o := Dat.sz α) (vs := es) (by omega)
      rw [l] at e; rw [e]; exact k
theorem Fld.next {α β γ : Type} [Dat α] [b : Dat β] {j : Dat γ} {off : Nat} {get : β → γ} {set : γ → β → β} (F : Fld β b off γ j get set) : Fld (α × β) inferInstance (Dat.sz α + off) γ j (fun x => get x.2) (fun y x => (x.1, set y x.2)) where
  agg := rfl
  le := by have := F.le; show Dat.sz α + off + Dat.sz γ ≤ Dat.sz α + Dat.sz β; omega
  rd {A w cs x} h := by
    have l1 := h.1
    have := F.le
    have k := F.rd h.2.2
    rwa [seg_seg (by omega) (by omega)] at k
  st {A w cs x es y} h k := by
    have l := Dat.len k
    have l1 := h.1
    have := F.le
    refine ⟨by rw [setSeg_length (by omega)]; exact h.1, ?_, ?_⟩
    · rw [seg_setSeg_other (by omega) (by omega) (.inl (by omega))]; exact h.2.1
    · rw [seg_setSeg_inner (by omega) (by omega)]; exact F.st h.2.2 k
theorem Fld.iso {α β γ : Type} [b : Dat β] {j : Dat γ} {f : α → β} {g : β → α} {h : ∀ y, f (g y) = y} {off : Nat} {get : β → γ} {set : γ → β → β} (F : Fld β b off γ j get set) : Fld α (Dat.iso f g h) off γ j (fun x => get (f x)) (fun y x => g (set y (f x))) where
  agg := F.agg
  le := F.le
  rd k := F.rd k
  st {A w cs x es y} k l := by show Dat.rd A w _ (f (g _)); rw [h]; exact F.st k l


/-! ### types that are ones of data -/
class ToD (τ : Ty) (α : Type) (i : Dat α) (x : outParam α) : Prop where
  le : τ.le (D x)
theorem I_D {n : Int} (h1 : -9223372036854775808 ≤ n) (h2 : n ≤ 9223372036854775807) : (I n).le (D n) := fun _ _ v h => by
  have h : v = .int .i64 n := h
  subst h
  exact ⟨[_], ⟨rfl, h1, h2⟩, rfl⟩
theorem U8_D {n : UInt8} : (U8 n).le (D n) := fun _ _ v h => ⟨[_], rfl, h⟩
theorem U16_D {n : UInt16} : (U16 n).le (D n) := fun _ _ v h => ⟨[_], rfl, h⟩
theorem U32_D {n : UInt32} : (U32 n).le (D n) := fun _ _ v h => ⟨[_], rfl, h⟩
theorem U64_D {n : UInt64} : (U64 n).le (D n) := fun _ _ v h => ⟨[_], rfl, h⟩
theorem B_D {n : Bool} : (B n).le (D n) := fun _ _ v h => ⟨[_], rfl, h⟩
instance {α : Type} {i : Dat α} {x : α} : ToD (D x) α i x := ⟨Ty.le.refl _⟩
instance {x : UInt8} : ToD (U8 x) UInt8 inferInstance x := ⟨U8_D⟩
instance {x : UInt16} : ToD (U16 x) UInt16 inferInstance x := ⟨U16_D⟩
instance {x : UInt32} : ToD (U32 x) UInt32 inferInstance x := ⟨U32_D⟩
instance {x : UInt64} : ToD (U64 x) UInt64 inferInstance x := ⟨U64_D⟩
instance {x : Bool} : ToD (B x) Bool inferInstance x := ⟨B_D⟩
instance {x : Int} [h : Ft (intIn x)] : ToD (I x) Int inferInstance x := ⟨I_D h.h.1 h.h.2⟩
instance {α : Type} {i : Dat α} : ToD NilS (List α) instList [] := ⟨NilS.le⟩
instance {p : Prop} {τ : Ty} {α : Type} {i : Dat α} {x : α} [h : Ft p] [k : ToD τ α i x] : ToD (Cond p τ) α i x := ⟨fun A w v y => k.le A w v (y.1 h.h)⟩
instance litInt {n : Nat} [h : BoolIs (Nat.ble n 9223372036854775807) true] : Ft (intIn (no_index (OfNat.ofNat n))) := ⟨by
  have := Nat.le_of_ble_eq_true h.h
  show intIn (n : Int)
  unfold intIn; omega⟩
instance : Ft True := ⟨trivial⟩
theorem D_cells {α : Type} [Dat α] {A : Nat → Prop} {w : World} {x : α} {v : Value} (h : (D x).p A w v) : ∃ cs, v.cells = cs.toArray ∧ Dat.rd A w cs x := by
  obtain ⟨cs, h1, rfl⟩ := h
  exact ⟨cs, mkV_cells h1, h1⟩

/-! ### what private blocks hold -/
/-- a box: one datum -/
def One {α : Type} [Dat α] (x : α) : Ct := ⟨fun A w cs => Dat.rd A w cs x, fun k h => Dat.mono k h⟩
def elemsIn {α : Type} [Dat α] (A : Nat → Prop) (w : World) (cs : List Value) (xs : List α) : Prop := ∀ i (h : i < xs.length), Dat.rd A w (seg cs (i * Dat.sz α) (Dat.sz α)) xs[i]
theorem elemsIn.keep {α : Type} [Dat α] {A A' : Nat → Prop} {w w' : World} {cs : List Value} {xs : List α} (k : Keep A A' w w') (h : elemsIn A w cs xs) : elemsIn A' w' cs xs := fun i hi => Dat.mono k (h i hi)
/-- a row of elements, with room for c -/
def Row {α : Type} [Dat α] (xs : List α) (c : Nat) : Ct :=
  ⟨fun A w cs => cs.length = c * Dat.sz α ∧ xs.length ≤ c ∧ c ≤ maxLen ∧ xs.length ≤ most ∧ elemsIn A w cs xs, fun k ⟨h1, h2, h3, h4, h5⟩ => ⟨h1, h2, h3, h4, h5.keep k⟩⟩
/-- a place in a private block -/
def Pt (b off : Nat) : Ty := Ex (.pointer (some ⟨b, off, none⟩))
/-- a slice over a private block, from its cell o on; nil, if the block isn't there -/
def Sl (b : Nat) (pr : Prop) (o n c : Nat) : Ty := ⟨fun _ _ v => (pr ∧ (n ≤ c ∧ c ≤ maxLen) ∧ v = .slice (some ⟨b, o, none⟩) n c) ∨ (¬ pr ∧ n = 0 ∧ c = 0 ∧ v = .slice none 0 0), fun _ h => h⟩

class HasB (Ω : List Pe) (b : Nat) (pr : outParam Prop) (C : outParam Ct) : Prop where
  h : (⟨b, pr, C⟩ : Pe) ∈ Ω
instance (priority := 2000) {b : Nat} {pr : Prop} {C : Ct} {Ω : List Pe} : HasB (⟨b, pr, C⟩ :: Ω) b pr C := ⟨List.mem_cons_self ..⟩
instance {e : Pe} {b : Nat} {pr : Prop} {C : Ct} {Ω : List Pe} [h : HasB Ω b pr C] : HasB (e :: Ω) b pr C := ⟨List.mem_cons_of_mem _ h.h⟩

theorem Less.perm {Ω Ω' : List Pe} (h : Ω.Perm Ω') : Less Ω Ω' where
  own k := fun ⟨e, he, h1⟩ => ⟨e, h.mem_iff.2 he, h1⟩
  ap hp := (h.pairwise_iff (fun {x y} hxy p1 p2 he => hxy p2 p1 he.symm)).1 hp
  ks A w hk := fun e he => hk e (h.mem_iff.2 he)

/-- the private blocks parted in those that stay and those that are touched -/
class Split (Ω : List Pe) (bs : List Nat) (Ωs Ωt : outParam (List Pe)) : Prop where
  perm : Ω.Perm (Ωs ++ Ωt)
instance {bs : List Nat} : Split [] bs [] [] := ⟨List.Perm.refl _⟩
instance (priority := 500) {e : Pe} {Ω Ωs Ωt : List Pe} {bs : List Nat} [h : Split Ω bs Ωs Ωt] : Split (e :: Ω) bs (e :: Ωs) Ωt := ⟨h.perm.cons e⟩
instance (priority := 2000) {b : Nat} {pr : Prop} {C : Ct} {Ω Ωs Ωt : List Pe} {bs : List Nat} [InB bs b] [h : Split Ω bs Ωs Ωt] : Split (⟨b, pr, C⟩ :: Ω) bs Ωs (⟨b, pr, C⟩ :: Ωt) := ⟨(h.perm.cons _).trans List.perm_middle.symm⟩

/-! ### making boxes -/
theorem heap_new (w : World) (o : Obj) : (w.alloc o).heap[w.heap.size]? = some o := by
  show (w.heap.push o)[w.heap.size]? = some o
  simp
theorem heap_old (w : World) (o : Obj) {k : Nat} (h : k < w.heap.size) : (w.alloc o).heap[k]? = w.heap[k]? := by
  show (w.heap.push o)[k]? = _
  rw [Array.getElem?_push, if_neg (by omega)]

/-- one private block out of several -/
class Pick (Ω : List Pe) (b : Nat) (pr : outParam Prop) (C : outParam Ct) (Ωr : outParam (List Pe)) : Prop where
  perm : Ω.Perm (⟨b, pr, C⟩ :: Ωr)
instance (priority := 2000) {b : Nat} {pr : Prop} {C : Ct} {Ω : List Pe} : Pick (⟨b, pr, C⟩ :: Ω) b pr C Ω := ⟨List.Perm.refl _⟩
instance {e : Pe} {b : Nat} {pr : Prop} {C : Ct} {Ω Ωr : List Pe} [h : Pick Ω b pr C Ωr] : Pick (e :: Ω) b pr C (e :: Ωr) := ⟨(h.perm.cons e).trans (List.Perm.swap _ _ _)⟩
/-- some private blocks, in an order -/
class Sel (Ω : List Pe) (bs : List Nat) (Ω' : outParam (List Pe)) : Prop where
  less : Less Ω Ω'
instance {Ω : List Pe} : Sel Ω [] [] := ⟨Less.nil _⟩
instance {Ω Ωr Ω' : List Pe} {b : Nat} {bs : List Nat} {pr : Prop} {C : Ct} [h : Pick Ω b pr C Ωr] [k : Sel Ωr bs Ω'] : Sel Ω (b :: bs) (⟨b, pr, C⟩ :: Ω') := ⟨(Less.perm h.perm).trans (Less.cons k.less)⟩
theorem Less.sel {Ω Ω' Δ : List Pe} (bs : List Nat) [h : Sel Ω bs Ω'] (e : Ω' = Δ) : Less Ω Δ := e ▸ h.less

section ops
variable {P : Program} {B : Nat} {Ωs Ω : List Pe} {Γ : Env}

/-- an operation that makes a new private block at the heap's end -/
theorem OpT.newB {o : Oper} {κ : Type} {τ : Nat × κ → Ty} {C : κ → Ct} (hg : o.guard = none)
    (h : ∀ (A : Nat → Prop) (a : Act) (w : World), (∀ k, w.heap.size ≤ k → A k) → Pks A (Ωs ++ Ω) w → (∀ t, .tmp t ∈ o.op.operands.toList → (Γ t).p A w (a.tmps.getD t undef)) →
      ∃ k v q cs e, (execOp a.eval o).run P w = .ok (.value v) (({ w with drawn := q } : World).alloc (.cells cs.toArray e)) ∧ (∀ A w', (τ (w.heap.size, k)).p A w' v) ∧ (C k).p A w cs) :
    OpT P B Ωs Ω Γ o τ fun g => ⟨g.1, True, C g.2⟩ :: Ω := by
  have key : OpT P B (Ωs ++ Ω) [] Γ o τ fun g => [⟨g.1, True, C g.2⟩] := by
    refine ⟨hg, fun A0 a w hB hu ho ha hk hl => ?_⟩
    rw [List.append_nil] at ha hk hl
    obtain ⟨k, v, q, cs, e, h1, h2, h3⟩ := h (Pub A0 (Ωs ++ Ω)) a w (fun k hk' => Pub_own.2 ⟨hu k hk', fun ho => by have := hk.lt ho; omega⟩) hk hl
    rw [h1]
    have hlt : ∀ j, Own (Ωs ++ Ω) j → j < w.heap.size := fun j hj => hk.lt hj
    have hown : ∀ j, Own ((Ωs ++ Ω) ++ [⟨w.heap.size, True, C k⟩]) j → Own (Ωs ++ Ω) j ∨ j = w.heap.size := fun j hj => by
      rcases Own_append.1 hj with hj | ⟨f, hf, _, hb⟩
      · exact .inl hj
      · obtain rfl := List.mem_singleton.1 hf; exact .inr hb.symm
    have hgr : Grow B w (({ w with drawn := q } : World).alloc (.cells cs.toArray e)) := (Grow.drawn q).trans (Grow.push _ hB)
    have hkp : Keep (Pub A0 (Ωs ++ Ω)) (Pub A0 ((Ωs ++ Ω) ++ [⟨w.heap.size, True, C k⟩])) w (({ w with drawn := q } : World).alloc (.cells cs.toArray e)) := by
      refine ⟨hgr.size, fun j hj hp => ⟨Pub_own.2 ⟨(Pub_own.1 hp).1, fun ho => ?_⟩, hgr.cells j hj⟩⟩
      rcases hown j ho with ho | ho
      · exact (Pub_own.1 hp).2 ho
      · omega
    refine ⟨(w.heap.size, k), Stp.of_grow hgr, fun j ⟨f, hf, _, hb⟩ => ?_, ?_, h2 _ _, fun f hf _ => ?_⟩
    · obtain rfl := List.mem_singleton.1 hf; right; simp at hb; omega
    · refine List.pairwise_append.2 ⟨ha, List.pairwise_singleton _ _, fun x hx y hy hp _ hb => ?_⟩
      obtain rfl := List.mem_singleton.1 hy
      have := hlt _ ⟨x, hx, hp, rfl⟩
      simp at hb; omega
    · obtain rfl := List.mem_singleton.1 hf
      exact ⟨cs, Blk.new rfl, (C k).keep hkp h3⟩
  exact key.frame (Ωt := []) (List.Perm.refl _)

theorem OpT.box {t : TypeId} {x : Operand} {d : Tmp} {ty : TypeId} {pos : String} {aft : Array Edge} {τ : Ty} {α : Type} {i : Dat α} {y : α} [T : TDat P t α i] [hx : Has Γ x τ] [hy : ToD τ α i y] :
    OpT P B Ωs Ω Γ ⟨some d, .box t x, ty, pos, aft, none⟩ (fun g : Nat × Unit => Pt g.1 0) fun g => ⟨g.1, True, One y⟩ :: Ω :=
  OpT.newB (C := fun _ => One y) rfl fun A a w _ _ hl => by
    obtain ⟨cs, e1, r1⟩ := D_cells (hy.le _ _ _ (Has.ev (x := x) (τ := τ) (op := .box t x) (by simp [Op.operands]) hl))
    refine ⟨(), .pointer (some ⟨w.heap.size, 0, none⟩), w.drawn, cs, t, ?_, fun _ _ => rfl, r1⟩
    simp [execOp, Instr.box, newVar, newRow, e1]
theorem OpT.alloc {t : TypeId} {d : Tmp} {ty : TypeId} {pos : String} {aft : Array Edge} {α : Type} {i : Dat α} (T : ∃ ti z, P.info? t = some ti ∧ ti.zero = some z ∧ z.cells = (Dat.zc α).toArray) :
    OpT P B Ωs Ω Γ ⟨some d, .alloc t, ty, pos, aft, none⟩ (fun g : Nat × Unit => Pt g.1 0) fun g => ⟨g.1, True, One (Dat.z : α)⟩ :: Ω :=
  OpT.newB (C := fun _ => One (Dat.z : α)) rfl fun A a w _ _ hl => by
    obtain ⟨ti, z, h1, h2, h3⟩ := T
    refine ⟨(), .pointer (some ⟨w.heap.size, 0, none⟩), w.drawn, Dat.zc α, t, ?_, fun _ _ => rfl, Dat.zrd⟩
    simp [execOp, Instr.alloc, zeroValue, typeInfo, h1, h2, newVar, newRow, h3]
end ops
end Go.Proofs.Ytfdmajkeihdhnaa.Tr
