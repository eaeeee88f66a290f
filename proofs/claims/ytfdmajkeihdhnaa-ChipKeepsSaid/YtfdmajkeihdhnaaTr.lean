/- A typed logic over the model's walk: slots bear stable predicates, and one walk in the text's order serves every order of a region. Conditions: none. -/
import Derived.Still
import Derived.Below
import Derived.WalkKit
import Derived.Laws.AppendOwn
import Derived.Laws.MakeOwn
namespace Go.Proofs.Ytfdmajkeihdhnaa.Tr
open Go Go.RowKit
set_option linter.unusedVariables false
set_option linter.unnecessarySimpa false

/-- cells alike: the same row of cells, whose marks may differ only behind its end -/
def SameCells : Option Obj → Option Obj → Prop
  | some (.cells c e f), o' => ∃ f', o' = some (.cells c e f') ∧ (f' = f ∨ (c.size ≤ f'.1 ∧ (f = (0, 0) ∨ c.size ≤ f.1)))
  | o, o' => o' = o

theorem SameCells.refl (o : Option Obj) : SameCells o o := by
  cases o with
  | none => rfl
  | some o => cases o <;> first | rfl | exact ⟨_, rfl, .inl rfl⟩

theorem SameCells.trans {a b c : Option Obj} (h : SameCells a b) (k : SameCells b c) : SameCells a c := by
  cases a with
  | none => cases h; exact k
  | some o =>
    cases o with
    | cells x e f =>
      obtain ⟨f1, rfl, h1⟩ := h
      obtain ⟨f2, rfl, h2⟩ := k
      refine ⟨f2, rfl, ?_⟩
      rcases h1 with rfl | ⟨h1, h3⟩
      · exact h2
      · rcases h2 with rfl | ⟨h2, _⟩
        · exact .inr ⟨h1, h3⟩
        · exact .inr ⟨h2, h3⟩
    | _ => cases h; exact k

/-- w' is w grown: blocks below B are the very same, all others hold the same cells -/
structure Grow (B : Nat) (w w' : World) : Prop where
  os : w'.os = w.os
  tape : w'.tape = w.tape
  output : w'.output = w.output
  size : w.heap.size ≤ w'.heap.size
  old : ∀ k, k < B → w'.heap[k]? = w.heap[k]?
  cells : ∀ k, k < w.heap.size → SameCells (w.heap[k]?) (w'.heap[k]?)

theorem Grow.refl (B : Nat) (w : World) : Grow B w w := ⟨rfl, rfl, rfl, Nat.le_refl _, fun _ _ => rfl, fun _ _ => SameCells.refl _⟩
theorem Grow.trans {B : Nat} {a b c : World} (h : Grow B a b) (k : Grow B b c) : Grow B a c :=
  ⟨k.os.trans h.os, k.tape.trans h.tape, k.output.trans h.output, Nat.le_trans h.size k.size, fun i hi => (k.old i hi).trans (h.old i hi),
    fun i hi => (h.cells i hi).trans (k.cells i (Nat.lt_of_lt_of_le hi h.size))⟩
theorem Grow.mono {B B' : Nat} {w w' : World} (h : Grow B w w') (hB : B' ≤ B) : Grow B' w w' :=
  ⟨h.os, h.tape, h.output, h.size, fun k hk => h.old k (Nat.lt_of_lt_of_le hk hB), h.cells⟩
theorem Grow.of_below {B : Nat} {w w' : World} (h : Below w.heap.size w w') (hB : B ≤ w.heap.size) : Grow B w w' :=
  ⟨h.os, h.tape, h.output, h.size, fun k hk => h.block k (Nat.lt_of_lt_of_le hk hB), fun k hk => by rw [h.block k hk]; exact SameCells.refl _⟩
theorem Grow.below {w w' : World} (h : Grow w.heap.size w w') : Below w.heap.size w w' :=
  ⟨h.os, h.tape, h.output, h.size, h.old⟩
theorem Grow.drawn {B : Nat} {w : World} (n : Nat) : Grow B w { w with drawn := n } := ⟨rfl, rfl, rfl, Nat.le_refl _, fun _ _ => rfl, fun _ _ => SameCells.refl _⟩
theorem Grow.push {B : Nat} {w : World} (o : Obj) (hB : B ≤ w.heap.size) : Grow B w { w with heap := w.heap.push o } := by
  have hk : ∀ k, k < w.heap.size → (w.heap.push o)[k]? = w.heap[k]? := fun k hk => by rw [Array.getElem?_push, if_neg (by omega)]
  exact ⟨rfl, rfl, rfl, by simp, fun k h => hk k (by omega), fun k h => by rw [hk k h]; exact SameCells.refl _⟩

theorem Grow.cell {B : Nat} {w w' : World} (h : Grow B w w') {a : Addr} {v : Value} (hc : w.cell? a = some v) : w'.cell? a = some v := by
  unfold World.cell? at *
  have hlt : a.block < w.heap.size := by
    rcases Nat.lt_or_ge a.block w.heap.size with h1 | h1
    · exact h1
    · rw [Array.getElem?_eq_none h1] at hc; cases hc
  have hs := h.cells _ hlt
  generalize w.heap[a.block]? = o at *
  cases o with
  | none => cases hc
  | some o =>
    cases o with
    | cells c e f => obtain ⟨f', h', -⟩ := hs; rw [h']; exact hc
    | _ => cases hc

theorem cell_lt {w : World} {a : Addr} {v : Value} (hc : w.cell? a = some v) : a.block < w.heap.size := by
  unfold World.cell? at hc
  rcases Nat.lt_or_ge a.block w.heap.size with h1 | h1
  · exact h1
  · rw [Array.getElem?_eq_none h1] at hc; cases hc


/-- the cells from a place on -/
def rowAt (w : World) (b off : Nat) (cs : List Value) : Prop := ∀ j, j < cs.length → w.cell? ⟨b, off + j, none⟩ = some (cs.getD j undef)

/-- w' has grown out of w, and what A lets in of w is let in by A' and holds the same cells -/
structure Keep (A A' : Nat → Prop) (w w' : World) : Prop where
  size : w.heap.size ≤ w'.heap.size
  h : ∀ k, k < w.heap.size → A k → A' k ∧ SameCells (w.heap[k]?) (w'.heap[k]?)

theorem Keep.refl (A : Nat → Prop) (w : World) : Keep A A w w := ⟨Nat.le_refl _, fun k _ ha => ⟨ha, SameCells.refl _⟩⟩
theorem Keep.trans {A A' A'' : Nat → Prop} {w w' w'' : World} (h : Keep A A' w w') (k : Keep A' A'' w' w'') : Keep A A'' w w'' :=
  ⟨Nat.le_trans h.size k.size, fun i hi ha => ⟨(k.h i (Nat.lt_of_lt_of_le hi h.size) (h.h i hi ha).1).1, (h.h i hi ha).2.trans (k.h i (Nat.lt_of_lt_of_le hi h.size) (h.h i hi ha).1).2⟩⟩
theorem Keep.grow {A : Nat → Prop} {B : Nat} {w w' : World} (h : Grow B w w') : Keep A A w w' := ⟨h.size, fun k hk ha => ⟨ha, h.cells k hk⟩⟩
theorem Keep.mono {A A' : Nat → Prop} {w : World} (h : ∀ k, k < w.heap.size → A k → A' k) : Keep A A' w w := ⟨Nat.le_refl _, fun k hk ha => ⟨h k hk ha, SameCells.refl _⟩⟩
theorem Keep.cell {A A' : Nat → Prop} {w w' : World} (h : Keep A A' w w') {a : Addr} {v : Value} (ha : A a.block) (hc : w.cell? a = some v) : w'.cell? a = some v := by
  have hs := (h.h a.block (cell_lt hc) ha).2
  unfold World.cell? at *
  generalize w.heap[a.block]? = o at *
  cases o with
  | none => cases hc
  | some o =>
    cases o with
    | cells c e f => obtain ⟨f', h', -⟩ := hs; rw [h']; exact hc
    | _ => cases hc
theorem Keep.row {A A' : Nat → Prop} {w w' : World} (h : Keep A A' w w') {b off : Nat} {cs : List Value} (ha : A b) (hc : rowAt w b off cs) : rowAt w' b off cs :=
  fun j hj => h.cell (a := ⟨b, off + j, none⟩) ha (hc j hj)

/-! ### a block known whole -/
def seg (cs : List Value) (o n : Nat) : List Value := (cs.drop o).take n
def setSeg (cs : List Value) (o : Nat) (vs : List Value) : List Value := cs.take o ++ vs ++ cs.drop (o + vs.length)

theorem seg_length {cs : List Value} {o n : Nat} (h : o + n ≤ cs.length) : (seg cs o n).length = n := by simp [seg]; omega
theorem seg_getD {cs : List Value} {o n j : Nat} (hj : j < n) : (seg cs o n).getD j undef = cs.getD (o + j) undef := by
  simp [seg, List.getD_eq_getElem?_getD, hj]
theorem setSeg_length {cs : List Value} {o : Nat} {vs : List Value} (h : o + vs.length ≤ cs.length) : (setSeg cs o vs).length = cs.length := by simp [setSeg]; omega
theorem setSeg_getD {cs : List Value} {o j : Nat} {vs : List Value} (h : o + vs.length ≤ cs.length) :
    (setSeg cs o vs).getD j undef = if o ≤ j ∧ j < o + vs.length then vs.getD (j - o) undef else cs.getD j undef := by
  simp only [setSeg, List.getD_eq_getElem?_getD, List.append_assoc]
  rcases Nat.lt_or_ge j o with h1 | h1
  · rw [if_neg (by omega), List.getElem?_append_left (by simp; omega), List.getElem?_take_of_lt h1]
  · rw [List.getElem?_append_right (by simp; omega)]
    have e1 : (cs.take o).length = o := by simp; omega
    rw [e1]
    rcases Nat.lt_or_ge j (o + vs.length) with h2 | h2
    · rw [if_pos ⟨h1, h2⟩, List.getElem?_append_left (by omega)]
    · rw [if_neg (by omega), List.getElem?_append_right (by omega), List.getElem?_drop, show o + vs.length + (j - o - vs.length) = j by omega]
theorem getD_ext {a b : List Value} (hl : a.length = b.length) (h : ∀ j, j < a.length → a.getD j undef = b.getD j undef) : a = b := by
  apply List.ext_getElem hl
  intro j h1 h2
  have := h j h1
  simpa [List.getD_eq_getElem?_getD, List.getElem?_eq_getElem h1, List.getElem?_eq_getElem h2] using this
theorem seg_setSeg_same {cs : List Value} {o : Nat} {vs : List Value} (h : o + vs.length ≤ cs.length) : seg (setSeg cs o vs) o vs.length = vs := by
  refine getD_ext (seg_length (by rw [setSeg_length h]; exact h)) fun j hj => ?_
  rw [seg_length (by rw [setSeg_length h]; exact h)] at hj
  rw [seg_getD hj, setSeg_getD h, if_pos (by omega)]; congr 1; omega
theorem seg_setSeg_other {cs : List Value} {o p n : Nat} {vs : List Value} (h : o + vs.length ≤ cs.length) (hp : p + n ≤ cs.length) (hd : p + n ≤ o ∨ o + vs.length ≤ p) : seg (setSeg cs o vs) p n = seg cs p n := by
  refine getD_ext (by rw [seg_length (by rw [setSeg_length h]; exact hp), seg_length hp]) fun j hj => ?_
  rw [seg_length (by rw [setSeg_length h]; exact hp)] at hj
  rw [seg_getD hj, seg_getD hj, setSeg_getD h, if_neg (by omega)]

def Blk (w : World) (b : Nat) (cs : List Value) : Prop := ∃ e f, w.heap[b]? = some (.cells cs.toArray e f) ∧ (f = (0, 0) ∨ cs.length ≤ f.1)

theorem Blk.lt {w : World} {b : Nat} {cs : List Value} (h : Blk w b cs) : b < w.heap.size := by
  obtain ⟨e, f, h, -⟩ := h
  rcases Nat.lt_or_ge b w.heap.size with h1 | h1
  · exact h1
  · rw [Array.getElem?_eq_none h1] at h; cases h
theorem Blk.cell {w : World} {b : Nat} {cs : List Value} (h : Blk w b cs) {i : Nat} (hi : i < cs.length) : w.cell? ⟨b, i, none⟩ = some (cs.getD i undef) := by
  obtain ⟨e, f, h, -⟩ := h
  simp [World.cell?, h, List.getD_eq_getElem?_getD, List.getElem?_eq_getElem hi]
theorem Blk.row {w : World} {b : Nat} {cs : List Value} (h : Blk w b cs) {o n : Nat} (hn : o + n ≤ cs.length) : rowAt w b o (seg cs o n) := fun j hj => by
  rw [seg_length hn] at hj
  rw [h.cell (by omega), seg_getD hj]
theorem Blk.free {w : World} {b : Nat} {cs : List Value} (h : Blk w b cs) {i : Nat} (hi : i < cs.length) : w.frozen? ⟨b, i, none⟩ = false := by
  obtain ⟨e, f, h, hf⟩ := h
  unfold World.frozen?
  simp only [h]
  rcases hf with rfl | hf
  · simp
  · simp; omega
theorem Blk.same {w w' : World} {b : Nat} {cs : List Value} (h2 : SameCells (w.heap[b]?) (w'.heap[b]?)) (h : Blk w b cs) : Blk w' b cs := by
  obtain ⟨e, f, h, hf⟩ := h
  rw [h] at h2
  obtain ⟨f', h3, h4⟩ := h2
  refine ⟨e, f', h3, ?_⟩
  rcases h4 with rfl | ⟨h4, _⟩
  · exact hf
  · exact .inr (by simpa using h4)
theorem Blk.keep {A A' : Nat → Prop} {w w' : World} {b : Nat} {cs : List Value} (k : Keep A A' w w') (ha : A b) (h : Blk w b cs) : Blk w' b cs := h.same (k.h b h.lt ha).2
theorem Blk.eq {w w' : World} {b : Nat} {cs : List Value} (h : Blk w b cs) (he : w'.heap[b]? = w.heap[b]?) : Blk w' b cs := by
  obtain ⟨e, f, h, hf⟩ := h
  exact ⟨e, f, by rw [he, h], hf⟩
theorem Blk.new {w : World} {b : Nat} {cs : List Value} {e : TypeId} (hb : b = w.heap.size) : Blk (w.alloc (.cells cs.toArray e)) b cs := by
  subst hb
  exact ⟨e, (0, 0), (heap_alloc_new w _), .inl rfl⟩


/-- what a slot holds: a predicate, over the blocks that data may reach, that lasts -/
structure Ty where
  p : (Nat → Prop) → World → Value → Prop
  keep : ∀ {A A' w w' v}, Keep A A' w w' → p A w v → p A' w' v

def Ty.any : Ty := ⟨fun _ _ _ => True, fun _ h => h⟩
theorem Ty.st (τ : Ty) {A : Nat → Prop} {B : Nat} {w w' : World} {v : Value} (h : Grow B w w') (k : τ.p A w v) : τ.p A w' v := τ.keep (Keep.grow h) k

/-- what a private block holds -/
structure Ct where
  p : (Nat → Prop) → World → List Value → Prop
  keep : ∀ {A A' w w' cs}, Keep A A' w w' → p A w cs → p A' w' cs

/-- a private block: its number, whether it is there, and what it holds -/
structure Pe where
  b : Nat
  pr : Prop
  C : Ct

abbrev Env := Tmp → Ty
def Env.set (Γ : Env) (d : Tmp) (τ : Ty) : Env := fun t => if t = d then τ else Γ t
def Env.put (Γ : Env) : Option Tmp → Ty → Env
  | some d, τ => Γ.set d τ
  | none, _ => Γ
def Env.nil : Env := fun _ => Ty.any

/-- the blocks that are not private -/
def Pub (A : Nat → Prop) (Ω : List Pe) (k : Nat) : Prop := A k ∧ ∀ e ∈ Ω, e.pr → e.b ≠ k
/-- what is known of the private blocks -/
def Pks (A : Nat → Prop) (Ω : List Pe) (w : World) : Prop := ∀ e ∈ Ω, e.pr → ∃ cs, Blk w e.b cs ∧ e.C.p A w cs
def Apart (Ω : List Pe) : Prop := Ω.Pairwise fun e f => e.pr → f.pr → e.b ≠ f.b
/-- the same blocks, whatever they hold -/
def Shape (Ω Ω' : List Pe) : Prop := Ω'.map (fun e => (e.b, e.pr)) = Ω.map fun e => (e.b, e.pr)
def Own (Ω : List Pe) (k : Nat) : Prop := ∃ e ∈ Ω, e.pr ∧ e.b = k

theorem Shape.own {Ω Ω' : List Pe} (h : Shape Ω Ω') (k : Nat) : Own Ω' k ↔ Own Ω k := by
  have key : ∀ Ω : List Pe, Own Ω k ↔ ∃ q ∈ Ω.map (fun e : Pe => (e.b, e.pr)), q.2 ∧ q.1 = k := fun Ω => by
    unfold Own
    constructor
    · rintro ⟨e, he, h1, h2⟩; exact ⟨_, List.mem_map.2 ⟨e, he, rfl⟩, h1, h2⟩
    · rintro ⟨q, hq, h1, h2⟩
      obtain ⟨e, he, rfl⟩ := List.mem_map.1 hq
      exact ⟨e, he, h1, h2⟩
  rw [key, key]; unfold Shape at h; rw [h]
theorem Shape.apart : ∀ {Ω Ω' : List Pe}, Shape Ω Ω' → Apart Ω → Apart Ω'
  | [], [], _, _ => List.Pairwise.nil
  | [], _ :: _, h, _ => by simp [Shape] at h
  | _ :: _, [], h, _ => by simp [Shape] at h
  | e :: Ω, e' :: Ω', h, hp => by
    simp only [Shape, List.map_cons, List.cons.injEq, Prod.mk.injEq] at h
    obtain ⟨⟨h1, h2⟩, h3⟩ := h
    have hp := List.pairwise_cons.1 hp
    refine List.pairwise_cons.2 ⟨fun f hf p1 p2 => ?_, Shape.apart h3 hp.2⟩
    have : (f.b, f.pr) ∈ Ω.map fun e => (e.b, e.pr) := by rw [← h3]; exact List.mem_map.2 ⟨f, hf, rfl⟩
    obtain ⟨g, hg, he⟩ := List.mem_map.1 this
    simp only [Prod.mk.injEq] at he
    rw [h1, ← he.1]
    exact hp.1 g hg (h2 ▸ p1) (he.2 ▸ p2)
theorem Shape.refl (Ω : List Pe) : Shape Ω Ω := rfl
theorem Shape.trans {Ω Ω' Ω'' : List Pe} (h : Shape Ω Ω') (k : Shape Ω' Ω'') : Shape Ω Ω'' := Eq.trans k h
theorem Pub_own {A : Nat → Prop} {Ω : List Pe} {k : Nat} : Pub A Ω k ↔ A k ∧ ¬ Own Ω k := by
  unfold Pub Own
  constructor
  · rintro ⟨h1, h2⟩; exact ⟨h1, fun ⟨e, he, hp, hb⟩ => h2 e he hp hb⟩
  · rintro ⟨h1, h2⟩; exact ⟨h1, fun e he hp hb => h2 ⟨e, he, hp, hb⟩⟩

/-- the reference: the world at the entry, the blocks that data may reach, the old blocks that may be written -/
structure Ref where
  w : World
  A : Nat → Prop
  S : Nat → Prop
  up : ∀ k, w.heap.size ≤ k → A k
  /-- the loop in whose round this is, and the deferred calls -/
  ρ : Option Nat
  ds : List Deferred

/-- all but the blocks of S is as it was -/
structure Mut (S : Nat → Prop) (w w' : World) : Prop where
  os : w'.os = w.os
  tape : w'.tape = w.tape
  output : w'.output = w.output
  size : w.heap.size ≤ w'.heap.size
  same : ∀ k, k < w.heap.size → ¬ S k → w'.heap[k]? = w.heap[k]?

theorem Mut.refl (S : Nat → Prop) (w : World) : Mut S w w := ⟨rfl, rfl, rfl, Nat.le_refl _, fun _ _ _ => rfl⟩
theorem Mut.trans {S : Nat → Prop} {a b c : World} (h : Mut S a b) (k : Mut S b c) : Mut S a c :=
  ⟨k.os.trans h.os, k.tape.trans h.tape, k.output.trans h.output, Nat.le_trans h.size k.size, fun i hi hs => (k.same i (Nat.lt_of_lt_of_le hi h.size) hs).trans (h.same i hi hs)⟩
theorem Mut.mono {S T : Nat → Prop} {w w' : World} (h : Mut S w w') (hs : ∀ k, S k → T k) : Mut T w w' := ⟨h.os, h.tape, h.output, h.size, fun k hk hn => h.same k hk fun x => hn (hs k x)⟩
theorem Mut.keep {S A : Nat → Prop} {w w' : World} (h : Mut S w w') (hA : ∀ k, A k → ¬ S k) : Keep A A w w' := ⟨h.size, fun k hk ha => ⟨ha, by rw [h.same k hk (hA k ha)]; exact SameCells.refl _⟩⟩

/-- a step that may write the blocks of S: below B all is the very same, but the blocks of S -/
structure Stp (B : Nat) (S : Nat → Prop) (w w' : World) : Prop where
  os : w'.os = w.os
  tape : w'.tape = w.tape
  output : w'.output = w.output
  size : w.heap.size ≤ w'.heap.size
  old : ∀ k, k < B → ¬ S k → w'.heap[k]? = w.heap[k]?
  cells : ∀ k, k < w.heap.size → ¬ S k → SameCells (w.heap[k]?) (w'.heap[k]?)

theorem Stp.refl (B : Nat) (S : Nat → Prop) (w : World) : Stp B S w w := ⟨rfl, rfl, rfl, Nat.le_refl _, fun _ _ _ => rfl, fun _ _ _ => SameCells.refl _⟩
theorem Stp.trans {B : Nat} {S : Nat → Prop} {a b c : World} (h : Stp B S a b) (k : Stp B S b c) : Stp B S a c :=
  ⟨k.os.trans h.os, k.tape.trans h.tape, k.output.trans h.output, Nat.le_trans h.size k.size, fun i hi hs => (k.old i hi hs).trans (h.old i hi hs),
    fun i hi hs => (h.cells i hi hs).trans (k.cells i (Nat.lt_of_lt_of_le hi h.size) hs)⟩
theorem Stp.mono {B B' : Nat} {S S' : Nat → Prop} {w w' : World} (h : Stp B S w w') (hB : B' ≤ B) (hS : ∀ k, S k → S' k) : Stp B' S' w w' :=
  ⟨h.os, h.tape, h.output, h.size, fun k hk hs => h.old k (Nat.lt_of_lt_of_le hk hB) fun x => hs (hS k x), fun k hk hs => h.cells k hk fun x => hs (hS k x)⟩
theorem Stp.of_grow {B : Nat} {S : Nat → Prop} {w w' : World} (h : Grow B w w') : Stp B S w w' := ⟨h.os, h.tape, h.output, h.size, fun k hk _ => h.old k hk, fun k hk _ => h.cells k hk⟩
theorem Stp.of_mut {B : Nat} {S : Nat → Prop} {w w' : World} (h : Mut S w w') (hB : B ≤ w.heap.size) : Stp B S w w' :=
  ⟨h.os, h.tape, h.output, h.size, fun k hk hs => h.same k (Nat.lt_of_lt_of_le hk hB) hs, fun k hk hs => by rw [h.same k hk hs]; exact SameCells.refl _⟩
theorem Stp.keep {B : Nat} {S A : Nat → Prop} {w w' : World} (h : Stp B S w w') (hA : ∀ k, A k → ¬ S k) : Keep A A w w' := ⟨h.size, fun k hk ha => ⟨ha, h.cells k hk (hA k ha)⟩⟩

/-- the private blocks stand rightly -/
structure Pok (r : Ref) (Ω : List Pe) (w : World) : Prop where
  own : ∀ k, Own Ω k → r.w.heap.size ≤ k ∨ r.S k
  ks : Pks (Pub r.A Ω) Ω w
  ap : Apart Ω

theorem Pks.keep {A A' : Nat → Prop} {Ω : List Pe} {w w' : World} (h : Pks A Ω w) (k : Keep A A' w w') (hc : ∀ j, j < w.heap.size → Own Ω j → SameCells (w.heap[j]?) (w'.heap[j]?)) : Pks A' Ω w' := fun e he hp => by
  obtain ⟨cs, h1, h2⟩ := h e he hp
  exact ⟨cs, h1.same (hc _ h1.lt ⟨e, he, hp, rfl⟩), e.C.keep k h2⟩
theorem Pok.grow {r : Ref} {Ω : List Pe} {B : Nat} {w w' : World} (h : Pok r Ω w) (g : Grow B w w') : Pok r Ω w' := ⟨h.own, h.ks.keep (Keep.grow g) fun j hj _ => g.cells j hj, h.ap⟩
theorem Pks.lt {A : Nat → Prop} {Ω : List Pe} {w : World} (h : Pks A Ω w) {k : Nat} (hk : Own Ω k) : k < w.heap.size := by
  obtain ⟨e, he, hp, rfl⟩ := hk
  obtain ⟨cs, h1, -⟩ := h e he hp
  exact h1.lt
theorem Pok.up {r : Ref} {Ω : List Pe} {w : World} (h : Pok r Ω w) (hs : r.w.heap.size ≤ w.heap.size) : ∀ k, w.heap.size ≤ k → Pub r.A Ω k := fun k hk =>
  Pub_own.2 ⟨r.up k (Nat.le_trans hs hk), fun ho => by have := h.ks.lt ho; omega⟩

/-- the state: the slots, the reference, the private blocks -/
structure Stt (r : Ref) (n : Nat) (Γ : Env) (Ω : List Pe) (a : Act) (w : World) : Prop where
  sz : a.tmps.size = n
  df : a.defers = r.ds
  mu : Mut r.S r.w w
  ty : ∀ t, (Γ t).p (Pub r.A Ω) w (a.tmps.getD t undef)
  pv : Pok r Ω w

theorem Mut.stp {S T : Nat → Prop} {w0 w w' : World} (h : Mut S w0 w) (k : Stp w0.heap.size T w w') (hT : ∀ j, T j → w0.heap.size ≤ j ∨ S j) : Mut S w0 w' :=
  ⟨k.os.trans h.os, k.tape.trans h.tape, k.output.trans h.output, Nat.le_trans h.size k.size, fun j hj hs => by
    rw [k.old j hj fun x => by rcases hT j x with y | y; omega; exact hs y]; exact h.same j hj hs⟩

/-- what stands behind a step that may write the private blocks of Ωt, and make new ones -/
structure Aft (B : Nat) (A0 : Nat → Prop) (Ωs Ωt : List Pe) (τ : Ty) (Ωt' : List Pe) (w w' : World) (v : Value) : Prop where
  st : Stp B (Own Ωt) w w'
  nw : ∀ k, Own Ωt' k → Own Ωt k ∨ w.heap.size ≤ k
  ap : Apart (Ωs ++ Ωt')
  ty : τ.p (Pub A0 (Ωs ++ Ωt')) w' v
  ks : Pks (Pub A0 (Ωs ++ Ωt')) Ωt' w'

section
variable (P : Program) (B : Nat)

/-- one operation's outcome: a value of the type, nothing old changed -/
def Yields (A : Nat → Prop) (w : World) (τ : Ty) : Result Next → Prop
  | .ok (.value v) w' => Grow B w w' ∧ τ.p A w' v
  | .ok .skip w' => Grow B w w' ∧ τ.p A w' undef
  | .ok (.enter f args) w' => Grow B w w' ∧ Calls P f args w' fun e w'' => ∃ v, e = .returned v ∧ Grow B w' w'' ∧ τ.p A w'' v
  | _ => False

/-- one operation's outcome where private blocks may be written and made -/
def YieldsT (A0 : Nat → Prop) (Ωs Ωt : List Pe) {ν : Type} (τ : ν → Ty) (Ωt' : ν → List Pe) (w : World) : Result Next → Prop
  | .ok (.value v) w' => ∃ g, Aft B A0 Ωs Ωt (τ g) (Ωt' g) w w' v
  | .ok .skip w' => ∃ g, Aft B A0 Ωs Ωt (τ g) (Ωt' g) w w' undef
  | .ok (.enter f args) w1 => Calls P f args w1 fun e w' => ∃ v g, e = .returned v ∧ Aft B A0 Ωs Ωt (τ g) (Ωt' g) w w' v
  | _ => False

/-- an operation that is carried out -/
def OpY (A : Nat → Prop) (Ω : List Pe) (Γ : Env) (o : Oper) (τ : Ty) : Prop :=
  ∀ (a : Act) (w : World), B ≤ w.heap.size → (∀ k, w.heap.size ≤ k → A k) → Pks A Ω w → (∀ t, .tmp t ∈ o.op.operands.toList → (Γ t).p A w (a.tmps.getD t undef)) → Yields P B A w τ ((execOp a.eval o).run P w)

/-- an operation, whatever its guard says, whatever data may reach -/
def OpG (ops : Array Oper) (Ω : List Pe) (Γ : Env) (o : Oper) (τ : Ty) : Prop :=
  ∀ (A : Nat → Prop) (a : Act) (w : World), B ≤ w.heap.size → (∀ k, w.heap.size ≤ k → A k) → Pks A Ω w → (∀ t ∈ o.looksAt ops, (Γ t).p A w (a.tmps.getD t undef)) →
    if Region.wanted o (yielded ops a.tmps) then Yields P B A w τ ((execOp a.eval o).run P w) else τ.p A w undef

/-- an operation that writes the private blocks of Ωt, or makes new ones; those of Ωs stay -/
def OpT (Ωs Ωt : List Pe) (Γ : Env) (o : Oper) {ν : Type} (τ : ν → Ty) (Ωt' : ν → List Pe) : Prop :=
  o.guard = none ∧ ∀ (A0 : Nat → Prop) (a : Act) (w : World), B ≤ w.heap.size → (∀ k, w.heap.size ≤ k → A0 k) → (∀ k, Own Ωt k → A0 k) → Apart (Ωs ++ Ωt) → Pks (Pub A0 (Ωs ++ Ωt)) (Ωs ++ Ωt) w →
    (∀ t, .tmp t ∈ o.op.operands.toList → (Γ t).p (Pub A0 (Ωs ++ Ωt)) w (a.tmps.getD t undef)) → YieldsT P B A0 Ωs Ωt τ Ωt' w ((execOp a.eval o).run P w)
end
end Go.Proofs.Ytfdmajkeihdhnaa.Tr
