/- Memory that a call owns and writes: blocks, what outlives a write, append, store, make. Conditions: none. -/
import Derived.Test.YtkohjmiipameeaaEnt
import Derived.Laws.AppendOwn
import Derived.Laws.MakeOwn
namespace Go.Proofs.Ytkohjmiipameeaa.Tr
open Go Go.RowKit
set_option linter.unusedVariables false
set_option linter.unnecessarySimpa false

/-! ### a block known whole -/
def seg (cs : List Value) (o n : Nat) : List Value := (cs.drop o).take n
def setSeg (cs : List Value) (o : Nat) (vs : List Value) : List Value := cs.take o ++ vs ++ cs.drop (o + vs.length)

theorem seg_length {cs : List Value} {o n : Nat} (h : o + n ≤ cs.length) : (seg cs o n).length = n := by simp [seg]; omega
theorem seg_getD {cs : List Value} {o n j : Nat} (hj : j < n) : (seg cs o n).getD j undef = cs.getD (o + j) undef := by
  simp [seg, List.getD_eq_getElem?_getD, hj]
theorem setSeg_length {cs : List Value} {o : Nat} {vs : List Value} (h : o + vs.length ≤ cs.length) : (setSeg cs o vs).length = cs.length := by simp [setSeg]; omega
theorem setSeg_getD {cs : List Value} {o j : Nat} {vs : List Value} (h : o + vs.length ≤ cs.length) :
    (setSeg cs o vs).getD j undef = if o ≤ j ∧ j < o + vs.length then vs.getD (j - o) undef else cs.getD j undef := by
  simp only [setSeg, List.getD_eq_getElem?_getD, List.append_assoc]
  rcases Nat.lt_or_ge j o with h1 | h1
  · rw [if_neg (by omega), List.getElem?_append_left (by simp; omega), List.getElem?_take_of_lt h1]
  · rw [List.getElem?_append_right (by simp; omega)]
    have e1 : (cs.take o).length = o := by simp; omega
    rw [e1]
    rcases Nat.lt_or_ge j (o + vs.length) with h2 | h2
    · rw [if_pos ⟨h1, h2⟩, List.getElem?_append_left (by omega)]
    · rw [if_neg (by omega), List.getElem?_append_right (by omega), List.getElem?_drop, show o + vs.length + (j - o - vs.length) = j by omega]
theorem getD_ext {a b : List Value} (hl : a.length = b.length) (h : ∀ j, j < a.length → a.getD j undef = b.getD j undef) : a = b := by
  apply List.ext_getElem hl
  intro j h1 h2
  have := h j h1
  simpa [List.getD_eq_getElem?_getD, List.getElem?_eq_getElem h1, List.getElem?_eq_getElem h2] using this
theorem seg_setSeg_same {cs : List Value} {o : Nat} {vs : List Value} (h : o + vs.length ≤ cs.length) : seg (setSeg cs o vs) o vs.length = vs := by
  refine getD_ext (seg_length (by rw [setSeg_length h]; exact h)) fun j hj => ?_
  rw [seg_length (by rw [setSeg_length h]; exact h)] at hj
  rw [seg_getD hj, setSeg_getD h, if_pos (by omega)]; congr 1; omega
theorem seg_setSeg_other {cs : List Value} {o p n : Nat} {vs : List Value} (h : o + vs.length ≤ cs.length) (hp : p + n ≤ cs.length) (hd : p + n ≤ o ∨ o + vs.length ≤ p) : seg (setSeg cs o vs) p n = seg cs p n := by
  refine getD_ext (by rw [seg_length (by rw [setSeg_length h]; exact hp), seg_length hp]) fun j hj => ?_
  rw [seg_length (by rw [setSeg_length h]; exact hp)] at hj
  rw [seg_getD hj, seg_getD hj, setSeg_getD h, if_neg (by omega)]

def Blk (w : World) (b : Nat) (cs : List Value) : Prop := ∃ e f, w.heap[b]? = some (.cells cs.toArray e f) ∧ (f = (0, 0) ∨ cs.length ≤ f.1)

theorem Blk.lt {w : World} {b : Nat} {cs : List Value} (h : Blk w b cs) : b < w.heap.size := by
  obtain ⟨e, f, h, -⟩ := h
  rcases Nat.lt_or_ge b w.heap.size with h1 | h1
  · exact h1
  · rw [Array.getElem?_eq_none h1] at h; cases h
theorem Blk.cell {w : World} {b : Nat} {cs : List Value} (h : Blk w b cs) {i : Nat} (hi : i < cs.length) : w.cell? ⟨b, i, none⟩ = some (cs.getD i undef) := by
  obtain ⟨e, f, h, -⟩ := h
  simp [World.cell?, h, List.getD_eq_getElem?_getD, List.getElem?_eq_getElem hi]
theorem Blk.row {w : World} {b : Nat} {cs : List Value} (h : Blk w b cs) {o n : Nat} (hn : o + n ≤ cs.length) : rowAt w b o (seg cs o n) := fun j hj => by
  rw [seg_length hn] at hj
  rw [h.cell (by omega), seg_getD hj]
theorem Blk.free {w : World} {b : Nat} {cs : List Value} (h : Blk w b cs) {i : Nat} (hi : i < cs.length) : w.frozen? ⟨b, i, none⟩ = false := by
  obtain ⟨e, f, h, hf⟩ := h
  unfold World.frozen?
  simp only [h]
  rcases hf with rfl | hf
  · simp
  · simp; omega
theorem Blk.keep {A A' : Nat → Prop} {w w' : World} {b : Nat} {cs : List Value} (k : Keep A A' w w') (ha : A b) (h : Blk w b cs) : Blk w' b cs := by
  have hlt := h.lt
  obtain ⟨e, f, h, hf⟩ := h
  have h2 := (k b hlt ha).2
  rw [h] at h2
  obtain ⟨f', h3, h4⟩ := h2
  refine ⟨e, f', h3, ?_⟩
  rcases h4 with rfl | ⟨h4, _⟩
  · exact hf
  · exact .inr (by simpa using h4)
theorem Blk.eq {w w' : World} {b : Nat} {cs : List Value} (h : Blk w b cs) (he : w'.heap[b]? = w.heap[b]?) : Blk w' b cs := by
  obtain ⟨e, f, h, hf⟩ := h
  exact ⟨e, f, by rw [he, h], hf⟩
theorem Blk.new {w : World} {b : Nat} {cs : List Value} {e : TypeId} (hb : b = w.heap.size) : Blk (w.alloc (.cells cs.toArray e)) b cs := by
  subst hb
  exact ⟨e, (0, 0), (heap_alloc_new w _), .inl rfl⟩

/-! ### writes -/
/-- all but the blocks of S is as it was -/
structure Mut (S : Nat → Prop) (w w' : World) : Prop where
  os : w'.os = w.os
  tape : w'.tape = w.tape
  output : w'.output = w.output
  size : w.heap.size ≤ w'.heap.size
  same : ∀ k, k < w.heap.size → ¬ S k → w'.heap[k]? = w.heap[k]?

theorem Mut.refl (S : Nat → Prop) (w : World) : Mut S w w := ⟨rfl, rfl, rfl, Nat.le_refl _, fun _ _ _ => rfl⟩
theorem Mut.trans {S : Nat → Prop} {a b c : World} (h : Mut S a b) (k : Mut S b c) : Mut S a c :=
  ⟨k.os.trans h.os, k.tape.trans h.tape, k.output.trans h.output, Nat.le_trans h.size k.size, fun i hi hs => (k.same i (Nat.lt_of_lt_of_le hi h.size) hs).trans (h.same i hi hs)⟩
theorem Mut.mono {S T : Nat → Prop} {w w' : World} (h : Mut S w w') (hs : ∀ k, S k → T k) : Mut T w w' := ⟨h.os, h.tape, h.output, h.size, fun k hk hn => h.same k hk fun x => hn (hs k x)⟩
theorem Mut.keep {S A : Nat → Prop} {w w' : World} (h : Mut S w w') (hA : ∀ k, A k → ¬ S k) : Keep A A w w' := fun k hk ha => ⟨ha, by rw [h.same k hk (hA k ha)]; exact SameCells.refl _⟩
theorem Mut.grow {S : Nat → Prop} {w0 w w' : World} (hw : Grow w0.heap.size w0 w) (h : Mut S w w') (hS : ∀ k, S k → w0.heap.size ≤ k) : Grow w0.heap.size w0 w' := by
  have hk : ∀ k, k < w0.heap.size → w'.heap[k]? = w.heap[k]? := fun k hk => h.same k (Nat.lt_of_lt_of_le hk hw.size) fun hs => by have := hS k hs; omega
  refine ⟨h.os.trans hw.os, h.tape.trans hw.tape, h.output.trans hw.output, Nat.le_trans hw.size h.size, fun k hk' => (hk k hk').trans (hw.old k hk'), fun k hk' => ?_⟩
  rw [hk k hk', hw.old k hk']; exact SameCells.refl _
theorem Mut.of_grow {S : Nat → Prop} {w w' : World} (h : Grow w.heap.size w w') : Mut S w w' := ⟨h.os, h.tape, h.output, h.size, fun k hk _ => h.old k hk⟩

theorem Mut.setCell {w : World} {b i : Nat} {v : Value} : Mut (fun k => k = b) w (w.setCell ⟨b, i, none⟩ v) :=
  ⟨rfl, rfl, rfl, by simp, fun k hk hn => Below.heap_setCell _ _ _ _ (by simpa using hn)⟩
theorem Blk.setCell {w : World} {b i : Nat} {v : Value} {cs : List Value} (h : Blk w b cs) : Blk (w.setCell ⟨b, i, none⟩ v) b (cs.set i v) := by
  obtain ⟨e, f, h, hf⟩ := h
  refine ⟨e, f, ?_, by simpa using hf⟩
  simp only [World.setCell, Array.getElem?_modify, if_true, h, Option.map_some]
  simp

theorem set_setSeg {cs : List Value} {o : Nat} {v : Value} {vs : List Value} (h : o + (vs.length + 1) ≤ cs.length) : setSeg (cs.set o v) (o + 1) vs = setSeg cs o (v :: vs) := by
  have h1 : o + 1 + vs.length ≤ (cs.set o v).length := by simp; omega
  have h2 : o + (v :: vs).length ≤ cs.length := by simpa using h
  refine getD_ext (by rw [setSeg_length h1, setSeg_length h2]; simp) fun j hj => ?_
  rw [setSeg_length h1] at hj
  rw [setSeg_getD h1, setSeg_getD h2]
  simp only [List.length_cons]
  by_cases c1 : j = o
  · subst c1
    rw [if_neg (by omega), if_pos (by omega)]
    simp [List.getD_eq_getElem?_getD, List.getElem?_set_self (show j < cs.length by omega)]
  · by_cases c2 : o + 1 ≤ j ∧ j < o + 1 + vs.length
    · rw [if_pos c2, if_pos (by omega)]
      rw [show j - o = (j - (o + 1)) + 1 by omega]
      simp [List.getD_eq_getElem?_getD]
    · rw [if_neg c2, if_neg (by omega)]
      simp [List.getD_eq_getElem?_getD, List.getElem?_set_ne (show o ≠ j from fun e => c1 e.symm)]

theorem run_storeCellsB {P : Program} {b o : Nat} : ∀ (vs : List Value) (i : Nat) (cs : List Value) (w : World), Blk w b cs → o + i + vs.length ≤ cs.length → (∀ v ∈ vs, v.oneCell' = true) →
    ∃ w', (storeCells ⟨b, o, none⟩ vs i).run P w = .ok () w' ∧ Blk w' b (setSeg cs (o + i) vs) ∧ Mut (fun k => k = b) w w' ∧ w'.heap.size = w.heap.size
  | [], i, cs, w, hb, _, _ => ⟨w, rfl, by simpa [setSeg] using hb, Mut.refl _ _, rfl⟩
  | v :: vs, i, cs, w, hb, hl, h1 => by
    have hl' : o + i + (vs.length + 1) ≤ cs.length := by simpa using hl
    obtain ⟨w', r1, r2, r3, r4⟩ := run_storeCellsB (P := P) (b := b) (o := o) vs (i + 1) (cs.set (o + i) v) (w.setCell ⟨b, o + i, none⟩ v) hb.setCell (by simp; omega) fun u hu => h1 u (List.mem_cons_of_mem _ hu)
    refine ⟨w', ?_, ?_, Mut.setCell.trans r3, by rw [r4]; simp⟩
    · unfold storeCells
      rw [Sem.run_bind, addr_add, run_store _ _ _ _ _ (h1 v List.mem_cons_self), hb.cell (by omega), hb.free (by omega)]
      simpa using r1
    · rw [← Nat.add_assoc, set_setSeg hl'] at r2; exact r2

theorem run_storeCells' {P : Program} {b o : Nat} {vs : List Value} {cs : List Value} {w : World} (hb : Blk w b cs) (hl : o + vs.length ≤ cs.length) (h1 : ∀ v ∈ vs, v.oneCell' = true) :
    ∃ w', (storeCells ⟨b, o, none⟩ vs).run P w = .ok () w' ∧ Blk w' b (setSeg cs o vs) ∧ Mut (fun k => k = b) w w' ∧ w'.heap.size = w.heap.size :=
  run_storeCellsB vs 0 cs w hb (by omega) h1

/-! ### what outlives a write -/
def Hi (B : Nat) (k : Nat) : Prop := B ≤ k
def Lo (B : Nat) (k : Nat) : Prop := k < B
def One (b : Nat) (k : Nat) : Prop := k = b
/-- A, of what was there already -/
def Old (A : Nat → Prop) (B : Nat) (k : Nat) : Prop := A k ∧ k < B
/-- A, but one block -/
def But (A : Nat → Prop) (b : Nat) (k : Nat) : Prop := A k ∧ k ≠ b

class Avoid (A S : Nat → Prop) : Prop where
  h : ∀ k, A k → ¬ S k
instance {A : Nat → Prop} {B : Nat} : Avoid (Old A B) (Hi B) := ⟨fun k h hs => by have := h.2; unfold Hi at hs; omega⟩
instance {A : Nat → Prop} {b : Nat} : Avoid (But A b) (One b) := ⟨fun k h hs => h.2 hs⟩
instance {A : Nat → Prop} {B b : Nat} [h : Ft (B ≤ b)] : Avoid (Old A B) (One b) := ⟨fun k h' hs => by have h1 := h'.2; have h2 := h.h; unfold One at hs; omega⟩

class Surv (S : Nat → Prop) (τ : Ty) (σ : outParam Ty) : Prop where
  h : ∀ {w w' v}, Mut S w w' → τ.p w v → σ.p w' v
instance (priority := 10) {S : Nat → Prop} {τ : Ty} : Surv S τ Ty.any := ⟨fun _ _ => trivial⟩
instance {S : Nat → Prop} {v : Value} : Surv S (Ex v) (Ex v) := ⟨fun _ h => h⟩
instance {S : Nat → Prop} {n : Int} : Surv S (I n) (I n) := ⟨fun _ h => h⟩
instance {S : Nat → Prop} {n : Bool} : Surv S (B n) (B n) := ⟨fun _ h => h⟩
instance {S : Nat → Prop} {n : UInt8} : Surv S (U8 n) (U8 n) := ⟨fun _ h => h⟩
instance {S : Nat → Prop} {n : UInt16} : Surv S (U16 n) (U16 n) := ⟨fun _ h => h⟩
instance {S : Nat → Prop} {n : UInt32} : Surv S (U32 n) (U32 n) := ⟨fun _ h => h⟩
instance {S : Nat → Prop} {n : UInt64} : Surv S (U64 n) (U64 n) := ⟨fun _ h => h⟩
instance {S : Nat → Prop} {l : List UInt8} : Surv S (Str l) (Str l) := ⟨fun _ h => h⟩
instance {S : Nat → Prop} : Surv S NilS NilS := ⟨fun _ h => h⟩
instance {S A : Nat → Prop} {α : Type} [Dat α] {x : α} [h : Avoid A S] : Surv S (D A x) (D A x) := ⟨fun m hx => D.keep (m.keep h.h) hx⟩
instance {S A : Nat → Prop} {α : Type} [Dat α] {x : α} [h : Avoid A S] : Surv S (PtrD A x) (PtrD A x) := ⟨fun m ⟨b, off, cs, h1, h2, h3, h4⟩ => ⟨b, off, cs, h1, h2, (m.keep h.h).row h2 h3, Dat.mono (m.keep h.h) h4⟩⟩

class Survs (S : Nat → Prop) (Γ : Env) (Δ : outParam Env) : Prop where
  h : ∀ {w w'} t v, Mut S w w' → (Γ t).p w v → (Δ t).p w' v
instance {S : Nat → Prop} : Survs S Env.nil Env.nil := ⟨fun _ _ _ _ => trivial⟩
instance {S : Nat → Prop} {Γ Δ : Env} {d : Tmp} {τ σ : Ty} [h : Survs S Γ Δ] [k : Surv S τ σ] : Survs S (Env.set Γ d τ) (Env.set Δ d σ) := ⟨fun t v m hx => by
  unfold Env.set at *
  split
  · rename_i e; rw [if_pos e] at hx; exact k.h m hx
  · rename_i e; rw [if_neg e] at hx; exact h.h t v m hx⟩

theorem Env.ok.mut {S : Nat → Prop} {Γ Δ : Env} {n : Nat} {a : Act} {w w' : World} [h : Survs S Γ Δ] (ha : Γ.ok n a w) (m : Mut S w w') : Δ.ok n a w' :=
  ⟨ha.1, ha.2.1, fun t => h.h t _ m (ha.2.2 t)⟩
theorem Env.ok.mutPut {S : Nat → Prop} {Γ Δ : Env} {n : Nat} {a : Act} {w w' : World} {d : Tmp} {v : Value} {τ : Ty} [h : Survs S Γ Δ] (hd : d < n) (ha : Γ.ok n a w) (m : Mut S w w') (hv : τ.p w' v) : (Δ.set d τ).ok n (a.put (some d) v) w' :=
  Env.ok.put (d := some d) (fun t e => by injection e with e; subst e; exact hd) (ha.mut m) (Grow.refl 0 w') hv

/-! ### a region step by step -/
def TS (P : Program) (w0 : World) (n : Nat) (ops : Array Oper) (l : List Oper) (k : Nat) (Γ : Env) (Q : Exit → Act → World → Prop) : Prop :=
  (∀ j, l[j]? = ops[k + j]?) → ∀ a w, Grow w0.heap.size w0 w → Γ.ok n a w → wpOps P ops Q (List.range' k l.length) a w

section ts
variable {P : Program} {w0 : World} {n : Nat} {ops : Array Oper} {k : Nat} {Γ : Env} {Q : Exit → Act → World → Prop}

theorem TC.regionS {id : Nat} {l : List Oper} (h : TS P w0 n l.toArray l 0 Γ Q) : TC P w0 n Γ (.region id l.toArray false) Q := fun a w hw ha => by
  refine wp_region ?_
  have := h (fun j => by simp) a w hw ha
  simpa [List.range_eq_range'] using this
theorem TC.seqS {id : Nat} {l : List Oper} {y : Code} (h : TS P w0 n l.toArray l 0 Γ (Exit.then (y.wp P Q) Q)) : TC P w0 n Γ (.seq (.region id l.toArray false) y) Q := TC.seq (TC.regionS h)
theorem TS.nil (h : TE w0 n Γ Q .normal) : TS P w0 n ops [] k Γ Q := fun _ a w hw ha => by simpa [wpOps] using h a w hw ha
theorem TS.s {d : Tmp} {op : Op} {ty : TypeId} {pos : String} {aft : Array Edge} {rest : List Oper} {τ : Ty}
    (h : OpY P w0.heap.size Γ ⟨some d, op, ty, pos, aft, none⟩ τ) (hd : Nat.blt d n = true) (hk : TS P w0 n ops rest (k + 1) (Γ.set d τ) Q) : TS P w0 n ops (⟨some d, op, ty, pos, aft, none⟩ :: rest) k Γ Q := fun hl a w hw ha => by
  have h0 : ops[k]? = some ⟨some d, op, ty, pos, aft, none⟩ := by simpa using (hl 0).symm
  simp only [List.length_cons, List.range'_succ]
  rw [wpOps_cons]
  unfold wpOp
  simp only [h0, Region.wanted, if_true]
  refine .inl (wp_of_yields (h a w hw.size fun t _ => ha.2.2 t) fun v w' hg hv => ?_)
  exact hk (fun j => by have := hl (j + 1); simpa [Nat.add_assoc, Nat.add_comm 1 j] using this) _ w' (hw.trans hg) (ha.put (d := some d) (fun t e => by injection e with e; subst e; simpa using hd) (hg.mono (Nat.zero_le _)) hv)
/-- a step that writes -/
theorem TS.m {o : Oper} {rest : List Oper} {Δ : Env} (hg : o.guard = none)
    (h : ∀ a w, Grow w0.heap.size w0 w → Γ.ok n a w → ∃ v w', ((execOp a.eval o).run P w = .ok (.value v) w' ∨ ((execOp a.eval o).run P w = .ok .skip w' ∧ v = undef)) ∧ Grow w0.heap.size w0 w' ∧ Δ.ok n (a.put o.dst v) w')
    (hk : TS P w0 n ops rest (k + 1) Δ Q) : TS P w0 n ops (o :: rest) k Γ Q := fun hl a w hw ha => by
  have h0 : ops[k]? = some o := by simpa using (hl 0).symm
  simp only [List.length_cons, List.range'_succ]
  rw [wpOps_cons]
  unfold wpOp
  simp only [h0, Region.wanted, hg, if_true]
  obtain ⟨v, w', h1, h2, h3⟩ := h a w hw ha
  refine .inl ?_
  have hl' : ∀ j, rest[j]? = ops[k + 1 + j]? := fun j => by have := hl (j + 1); simpa [Nat.add_assoc, Nat.add_comm 1 j] using this
  unfold Oper.wp
  rcases h1 with h1 | ⟨h1, rfl⟩ <;> rw [h1] <;> exact hk hl' _ _ h2 h3
end ts

/-! ### slices that a call owns -/
/-- elements, each in its cells -/
def elemsIn {α : Type} [Dat α] (A : Nat → Prop) (w : World) (cs : List Value) (xs : List α) : Prop := ∀ i (h : i < xs.length), Dat.rd A w (seg cs (i * Dat.sz α) (Dat.sz α)) xs[i]

/-- a slice over a block of its own, from the block's first cell on -/
def ownAt {α : Type} [Dat α] (A : Nat → Prop) (w : World) (b c : Nat) (cs : List Value) (v : Value) (xs : List α) : Prop :=
  v = .slice (some ⟨b, 0, none⟩) xs.length c ∧ Blk w b cs ∧ cs.length = c * Dat.sz α ∧ xs.length ≤ c ∧ c ≤ maxLen ∧ xs.length ≤ most ∧ elemsIn (But A b) w cs xs

theorem elemsIn.keep {α : Type} [Dat α] {A A' : Nat → Prop} {w w' : World} {cs : List Value} {xs : List α} (k : Keep A A' w w') (h : elemsIn A w cs xs) : elemsIn A' w' cs xs := fun i hi => Dat.mono k (h i hi)

/-- a slice of the call's own, made since block B -/
def Own {α : Type} [Dat α] (B : Nat) (A : Nat → Prop) (xs : List α) : Ty :=
  ⟨fun w v => (v = .slice none 0 0 ∧ xs = []) ∨ ∃ b c cs, B ≤ b ∧ ownAt A w b c cs v xs,
   fun hg h => by
    rcases h with h | ⟨b, c, cs, h1, h2, h3, h4, h5, h6, h7, h8⟩
    · exact .inl h
    · exact .inr ⟨b, c, cs, h1, h2, h3.keep (A := fun _ => True) (A' := fun _ => True) (Keep.grow hg) trivial, h4, h5, h6, h7, h8.keep (Keep.grow hg)⟩⟩

/-- everything made since block B is let in -/
class Up (B : Nat) (A : Nat → Prop) : Prop where
  h : ∀ k, B ≤ k → A k

theorem ownAt.reads {α : Type} [Dat α] {A : Nat → Prop} {w : World} {b c : Nat} {cs : List Value} {v : Value} {xs : List α} (hb : A b) (h : ownAt A w b c cs v xs) : (D A xs).p w v := by
  obtain ⟨h2, h3, h4, h5, h6, h7, h8⟩ := h
  refine ⟨[_], ⟨_, c, rfl, h5, h6, h7, fun i hi => ⟨b, 0, rfl, hb, seg cs (i * Dat.sz α) (Dat.sz α), ?_, Dat.mono (fun k _ hk => ⟨hk.1, SameCells.refl _⟩) (h8 i hi)⟩⟩, h2⟩
  rw [Nat.zero_add]
  refine h3.row ?_
  rw [h4, ← Nat.succ_mul]
  exact Nat.mul_le_mul_right _ (by omega)

theorem Own.le {α : Type} [Dat α] {B : Nat} {A : Nat → Prop} {xs : List α} [u : Up B A] : (Own B A xs).le (D A xs) := fun w v h => by
  rcases h with ⟨rfl, rfl⟩ | ⟨b, c, cs, h1, h2⟩
  · exact NilS.le _ _ rfl
  · exact h2.reads (u.h b h1)
theorem Own.mono {α : Type} [Dat α] {B B' : Nat} {A : Nat → Prop} {xs : List α} (h : B' ≤ B) : (Own B A xs).le (Own B' A xs) := fun w v k => by
  rcases k with k | ⟨b, c, cs, h1, h2⟩
  · exact .inl k
  · exact .inr ⟨b, c, cs, by omega, h2⟩
theorem NilS.own {α : Type} [Dat α] {B : Nat} {A : Nat → Prop} : Ty.le NilS (Own B A ([] : List α)) := fun w v h => .inl ⟨h, rfl⟩
theorem Own_le {α : Type} [Dat α] {B : Nat} {A : Nat → Prop} {xs ys : List α} (h : xs = ys) : (Own B A xs).le (Own B A ys) := h ▸ Ty.le.refl _

/-- flat data: cells alone -/
class Flat (α : Type) [Dat α] : Prop where
  h : ∀ {A A' : Nat → Prop} {w w' : World} {cs : List Value} {x : α}, Dat.rd A w cs x → Dat.rd A' w' cs x
instance : Flat Int := ⟨fun h => h⟩
instance : Flat UInt8 := ⟨fun h => h⟩
instance : Flat UInt16 := ⟨fun h => h⟩
instance : Flat UInt32 := ⟨fun h => h⟩
instance : Flat UInt64 := ⟨fun h => h⟩
instance : Flat Bool := ⟨fun h => h⟩

/-- what a program's tables say of an element's type, for making rows of it -/
class TEl (P : Program) (e : TypeId) (α : outParam Type) (i : outParam (Dat α)) (by_ : outParam Nat) : Prop where
  d : TDat P e α i
  h : ∃ ti z, P.info? e = some ti ∧ ti.zero = some z ∧ ti.size = Dat.sz α ∧ ti.bytes = by_ ∧ z.cells = (Dat.zc α).toArray
instance {P : Program} {e : TypeId} {α : Type} {i : Dat α} {n : Nat} [h : TEl P e α i n] : TDat P e α i := h.d
end Go.Proofs.Ytkohjmiipameeaa.Tr
