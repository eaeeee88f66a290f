/- Making, filling and writing slices that a call owns; texts. Conditions: none. -/
import Derived.Test.YtkohjmiipameeaaOwn2
namespace Go.Proofs.Ytkohjmiipameeaa.Tr
open Go Go.RowKit
set_option linter.unusedVariables false
set_option linter.unnecessarySimpa false

/-- a type that is one of data -/
class ToD (τ : Ty) (α : Type) (i : Dat α) (A : Nat → Prop) (x : outParam α) : Prop where
  le : τ.le (D A x)
instance {α : Type} {i : Dat α} {A A' : Nat → Prop} {x : α} [s : Sub A' A] : ToD (D A' x) α i A x := ⟨D.mono s.h⟩
instance {α : Type} {i : Dat α} {A A' : Nat → Prop} {x : α} [Flat α] : ToD (D A' x) α i A x := ⟨fun w v ⟨cs, h1, h2⟩ => ⟨cs, Flat.h h1, h2⟩⟩
instance {A : Nat → Prop} {x : UInt8} : ToD (U8 x) UInt8 inferInstance A x := ⟨U8_D⟩
instance {A : Nat → Prop} {x : UInt16} : ToD (U16 x) UInt16 inferInstance A x := ⟨U16_D⟩
instance {A : Nat → Prop} {x : UInt64} : ToD (U64 x) UInt64 inferInstance A x := ⟨U64_D⟩
instance {A : Nat → Prop} {x : Bool} : ToD (B x) Bool inferInstance A x := ⟨B_D⟩
instance {A : Nat → Prop} {x : Int} [h : Ft (intIn x)] : ToD (I x) Int inferInstance A x := ⟨I_D h.h.1 h.h.2⟩
instance {α : Type} {i : Dat α} {A : Nat → Prop} : ToD NilS (List α) instList A [] := ⟨NilS.le⟩
instance {α : Type} {i : Dat α} {A A' : Nat → Prop} {B : Nat} {x : List α} [Up B A'] [s : Sub A' A] : ToD (Own B A' x) (List α) instList A x := ⟨Own.le.trans (D.mono s.h)⟩
instance {α : Type} {i : Dat α} {A A' : Nat → Prop} {B : Nat} {x : List α} [Up B A'] [s : Sub A' A] : ToD (Full B A' x) (List α) instList A x := ⟨Full.own.trans (Own.le.trans (D.mono s.h))⟩
instance {p : Prop} {τ : Ty} {α : Type} {i : Dat α} {A : Nat → Prop} {x : α} [h : Ft p] [k : ToD τ α i A x] : ToD (Cond p τ) α i A x := ⟨fun w v y => k.le w v (y.1 h.h)⟩
instance litInt {n : Nat} [h : BoolIs (Nat.ble n 9223372036854775807) true] : Ft (intIn (no_index (OfNat.ofNat n))) := ⟨by
  have := Nat.le_of_ble_eq_true h.h
  show intIn (n : Int)
  unfold intIn; omega⟩

/-- operands one behind another -/
class HasAll (Γ : Env) (xs : List Operand) (α : Type) (i : Dat α) (A : Nat → Prop) (ys : outParam (List α)) : Prop where
  len : xs.length = ys.length
  h : ∀ (a : Act) w, (∀ t, .tmp t ∈ xs → (Γ t).p w (a.tmps.getD t undef)) → ∀ j (hj : j < xs.length) (hj' : j < ys.length), (D A ys[j]).p w (a.eval xs[j])
instance {Γ : Env} {α : Type} {i : Dat α} {A : Nat → Prop} : HasAll Γ [] α i A [] := ⟨rfl, fun _ _ _ _ h _ => absurd h (by simp)⟩
instance {Γ : Env} {x : Operand} {xs : List Operand} {α : Type} {i : Dat α} {A : Nat → Prop} {τ : Ty} {y : α} {ys : List α} [h : Has Γ x τ] [k : ToD τ α i A y] [l : HasAll Γ xs α i A ys] : HasAll Γ (x :: xs) α i A (y :: ys) :=
  ⟨by simp [l.len], fun a w ha j hj hj' => by
    cases j with
    | zero => exact k.le _ _ (h.le a w fun t e => ha t (by simp [e]))
    | succ j => exact l.h a w (fun t ht => ha t (List.mem_cons_of_mem _ ht)) j (by simpa using hj) (by simpa using hj')⟩

theorem D_cells {α : Type} [Dat α] {A : Nat → Prop} {w : World} {x : α} {v : Value} (h : (D A x).p w v) : ∃ cs, v.cells = cs.toArray ∧ Dat.rd A w cs x := by
  obtain ⟨cs, h1, rfl⟩ := h
  exact ⟨cs, mkV_cells h1, h1⟩

theorem foldl_setSeg : ∀ (vs : List Value) (k o : Nat) (cs : List Value), o + k + vs.length ≤ cs.length →
    (vs.zipIdx k).foldl (fun (a : Array Value) (p : Value × Nat) => a.setIfInBounds (o + p.2) p.1) cs.toArray = (setSeg cs (o + k) vs).toArray
  | [], k, o, cs, h => by simp [setSeg]
  | v :: vs, k, o, cs, h => by
    have h' : o + k + (vs.length + 1) ≤ cs.length := by simpa using h
    simp only [List.zipIdx_cons, List.foldl_cons]
    rw [show cs.toArray.setIfInBounds (o + k) v = (cs.set (o + k) v).toArray by simp]
    rw [foldl_setSeg vs (k + 1) o (cs.set (o + k) v) (by simp; omega), ← Nat.add_assoc, set_setSeg h']

/-- filling a row part by part -/
theorem fill_row {α : Type} [Dat α] {A : Nat → Prop} {w : World} : ∀ (vs : List Value) (ys : List α) (k : Nat) (cs : List Value), vs.length = ys.length → (k + vs.length) * Dat.sz α ≤ cs.length →
    (∀ j (hj : j < vs.length) (hj' : j < ys.length), (D A ys[j]).p w vs[j]) →
    ∃ cs', Instr.fill (fun i => some (i * Dat.sz α, Dat.sz α)) cs.toArray ((vs.zipIdx k).map fun p => (p.2, p.1)) = some cs'.toArray ∧ cs'.length = cs.length ∧
      (∀ j (hj : j < ys.length), Dat.rd A w (seg cs' ((k + j) * Dat.sz α) (Dat.sz α)) ys[j]) ∧ (∀ p q, (p + q ≤ k * Dat.sz α ∨ (k + vs.length) * Dat.sz α ≤ p) → p + q ≤ cs.length → seg cs' p q = seg cs p q)
  | [], [], k, cs, _, hc, _ => ⟨cs, by simp [Instr.fill], rfl, fun j hj => absurd hj (by simp), fun _ _ _ _ => rfl⟩
  | [], y :: ys, k, cs, hl, _, _ => by simp at hl
  | v :: vs, [], k, cs, hl, _, _ => by simp at hl
  | v :: vs, y :: ys, k, cs, hl, hc, hv => by
    obtain ⟨c0, e0, r0⟩ := D_cells (hv 0 (by simp) (by simp))
    simp only [List.getElem_cons_zero] at e0 r0
    have l0 := Dat.len r0
    have hc' : (k + 1 + vs.length) * Dat.sz α ≤ cs.length := by simpa [Nat.add_assoc, Nat.add_comm 1] using hc
    have hk : k * Dat.sz α + c0.length ≤ cs.length := by
      rw [l0, ← Nat.succ_mul]; exact Nat.le_trans (Nat.mul_le_mul_right _ (by omega)) hc'
    obtain ⟨cs', f1, f2, f3, f4⟩ := fill_row (α := α) (A := A) (w := w) vs ys (k + 1) (setSeg cs (k * Dat.sz α) c0) (by simpa using hl) (by rw [setSeg_length hk]; exact hc') fun j hj hj' => by
      have := hv (j + 1) (by simpa using hj) (by simpa using hj')
      simpa using this
    refine ⟨cs', ?_, by rw [f2, setSeg_length hk], fun j hj => ?_, fun p q hpq hle => ?_⟩
    · simp only [List.zipIdx_cons, List.map_cons, Instr.fill, e0]
      rw [if_neg (by simp [l0]; omega)]
      have := foldl_setSeg c0 0 (k * Dat.sz α) cs (by omega)
      simp only [Nat.add_zero] at this
      have e1 : (Array.zipIdx c0.toArray).foldl (fun cs (x : Value × Nat) => cs.setIfInBounds (k * Dat.sz α + x.2) x.1) cs.toArray = (setSeg cs (k * Dat.sz α) c0).toArray := by
        rw [← this]; simp
      rw [← f1]
      congr 1
    · cases j with
      | zero =>
        rw [f4 _ _ (.inl (by simp [Nat.succ_mul])) (by rw [setSeg_length hk]; simp; omega)]
        have e9 := seg_setSeg_same hk
        rw [l0] at e9
        rw [Nat.add_zero, e9]; exact r0
      | succ j =>
        have := f3 j (by simpa using hj)
        rw [show k + (j + 1) = k + 1 + j by omega]; simpa using this
    · rw [f4 p q (by rcases hpq with h | h
                     · left; rw [Nat.succ_mul]; omega
                     · right; simpa [Nat.add_assoc, Nat.add_comm 1] using h) (by rw [setSeg_length hk]; exact hle)]
      refine seg_setSeg_other hk hle ?_
      rcases hpq with h | h
      · left; exact h
      · right
        rw [l0, ← Nat.succ_mul]
        exact Nat.le_trans (Nat.mul_le_mul_right _ (by simp)) h

section make
variable {P : Program} {B0 : Nat} {Γ : Env} {dst : Option Tmp} {ty : TypeId} {pos : String} {aft : Array Edge} {gd : Option (Nat × Bool)}
variable {α : Type} {i : Dat α} {t e : TypeId} {bt : Nat} {A : Nat → Prop}

/-- a literal of so many elements -/
theorem OpY.buildSlice [S : TSl P t e] [T : TEl P e α i bt] {n : Nat} {parts : Array (Nat × Operand)} (xs : List Operand) {ys : List α} [h : HasAll Γ xs α i A ys]
    (hp : parts = (xs.zipIdx.map fun p => (p.2, p.1)).toArray) (hn : xs.length = n) (hs : n * Dat.sz α ≤ 16777216) :
    OpY P B0 Γ ⟨dst, .buildSlice t n parts, ty, pos, aft, gd⟩ (Full B0 A ys) := fun a w hB hl => by
  obtain ⟨ti, z, hi1, hi2, hi3, hi4, hi5⟩ := T.h
  subst hp
  have hin : ∀ t, .tmp t ∈ xs → (Γ t).p w (a.tmps.getD t undef) := fun t ht => hl t (by
    simp only [Op.operands]
    obtain ⟨j, hj, e1⟩ := List.getElem_of_mem ht
    simp only [List.map_map, List.mem_map, Function.comp]
    exact ⟨(.tmp t, j), by rw [List.mem_zipIdx_iff_getElem?]; rw [List.getElem?_eq_getElem hj, e1], rfl⟩)
  have hlen : xs.length = ys.length := h.len
  have hsz := Dat.pos (α := α)
  let zs : List Value := ((List.range (n * Dat.sz α)).map fun j => (z.cells[j % z.cells.size]!))
  obtain ⟨cs', f1, f2, f3, -⟩ := fill_row (α := α) (A := A) (w := w) (xs.map a.eval) ys 0 zs (by simpa using hlen) (by simp [zs, hn]) fun j hj hj' => by
    rw [List.getElem_map]; exact h.h a w hin j (by simpa using hj) hj'
  have e2 : (xs.zipIdx.map fun p => (p.2, p.1)).map (fun q : Nat × Operand => (q.1, a.eval q.2)) = ((xs.map a.eval).zipIdx 0).map fun p => (p.2, p.1) := by
    rw [List.zipIdx_map]; simp [List.map_map, Function.comp_def]
  have hcs : cs'.length = ys.length * Dat.sz α := by rw [f2]; simp [zs]; rw [← hn, hlen]
  have hrun : (execOp a.eval ⟨dst, .buildSlice t n (xs.zipIdx.map fun p => (p.2, p.1)).toArray, ty, pos, aft, gd⟩).run P w = .ok (.value (.slice (some ⟨w.heap.size, 0, none⟩) n n)) (w.alloc (.cells cs'.toArray e)) := by
    have h1 : ¬ (16777216 < n * Dat.sz α) := by omega
    have f1' : Instr.fill (fun i => some (i * Dat.sz α, Dat.sz α)) ((Array.range (n * Dat.sz α)).map (z.cells[· % z.cells.size]!)) (((xs.zipIdx.map fun p => (p.2, p.1)).map (fun q : Nat × Operand => (q.1, a.eval q.2)))) = some cs'.toArray := by
      rw [e2, ← f1]; congr 1; apply Array.ext'; simp [zs]
    by_cases h0 : n * Dat.sz α = 0
    · have hz0 : n = 0 := by rcases Nat.mul_eq_zero.1 h0 with h | h <;> omega
      subst hz0
      have hx0 : xs = [] := List.eq_nil_of_length_eq_zero hn
      subst hx0
      have hc0 : cs' = [] := List.eq_nil_of_length_eq_zero (by rw [hcs, ← hlen]; simp)
      subst hc0
      simp [execOp, Instr.buildSlice, run_underlying S.h, sizeOf, typeInfo, hi1, Instr.fill, newRow, Array.range_zero']
    · simp only [execOp, Instr.buildSlice, Sem.run_bind, run_underlying S.h, Result.andThen_ok, sizeOf, typeInfo, run_program, hi1, Sem.run_pure, hi3]
      rw [if_neg (by simpa using h1)]
      simp only [Sem.run_pure, Result.andThen_ok, if_neg h0, Sem.run_bind, zeroValue, typeInfo, run_program, hi1, hi2, List.map_toArray, f1']
      simp [newRow]
  rw [hrun]
  refine ⟨Grow.push _ hB, w.heap.size, cs', hB, by rw [← hn, hlen], Blk.new rfl, hcs, Nat.le_refl _, ?_, ?_, fun j hj => ?_⟩
  · have : ys.length ≤ ys.length * Dat.sz α := Nat.le_mul_of_pos_right _ hsz
    rw [← hlen, hn] at this ⊢
    unfold maxLen; omega
  · have : ys.length ≤ ys.length * Dat.sz α := Nat.le_mul_of_pos_right _ hsz
    rw [← hlen, hn] at this ⊢
    unfold most; omega
  · have := f3 j hj
    rw [Nat.zero_add] at this
    refine Dat.mono (A := A) (fun k hk ha => ⟨⟨ha, by omega⟩, ?_⟩) this
    rw [show (w.alloc (.cells cs'.toArray e)).heap[k]? = w.heap[k]? from heap_alloc_old w _ hk]
    exact SameCells.refl _

/-- make([]T, n) -/
theorem OpY.makeSlice [S : TSl P t e] [T : TEl P e α i bt] {x : Operand} {τ : Ty} {n : Int} [hx : Has Γ x τ] [k : AsI τ n] (h0 : 0 ≤ n) (hb : bt * n.toNat ≤ 281474976710656) (hm : n ≤ 281474976710656) :
    OpY P B0 Γ ⟨dst, .makeSlice t x x, ty, pos, aft, gd⟩ (Full B0 A (List.replicate n.toNat (Dat.z (α := α)))) := fun a w hB hl => by
  obtain ⟨ti, z, hi1, hi2, hi3, hi4, hi5⟩ := T.h
  have e1 : a.eval x = .int .i64 n := k.le _ _ (Has.ev (x := x) (τ := τ) (op := .makeSlice t x x) (by simp [Op.operands]) hl)
  have hr := run_make (P := P) w t e ti z S.h hi1 hi2 .i64 .i64 n n h0 (Int.le_refl _) (by rw [hi4]; have h1 : ((bt * n.toNat : Nat) : Int) ≤ 281474976710656 := by omega
                                                                                           rw [Int.natCast_mul, Int.toNat_of_nonneg h0] at h1; exact h1) (by omega)
  have hrun : (execOp a.eval ⟨dst, .makeSlice t x x, ty, pos, aft, gd⟩).run P w = .ok (.value (.slice (some ⟨w.heap.size, 0, none⟩) n.toNat n.toNat)) (w.alloc (.cells (madeCells z.cells (n.toNat * ti.size)) e)) := by
    simp only [execOp, Sem.run_bind, Sem.run_pure, e1, hr, Result.andThen_ok]
  rw [hrun]
  have hsz := Dat.pos (α := α)
  have hzl : z.cells.size = Dat.sz α := by rw [hi5]; simpa using Dat.len (Dat.zrd (α := α) (A := fun _ => True) (w := w))
  refine ⟨Grow.push _ hB, w.heap.size, (madeCells z.cells (n.toNat * ti.size)).toList, hB, by simp, ?_, ?_, by simp, ?_, ?_, fun j hj => ?_⟩
  · generalize madeCells z.cells (n.toNat * ti.size) = m
    have := Blk.new (w := w) (cs := m.toList) (e := e) rfl
    rwa [Array.toArray_toList] at this
  · simp [size_madeCells, hi3]
  · simp; unfold maxLen; omega
  · simp; unfold most; omega
  · simp only [List.length_replicate] at hj
    have e2 : seg (madeCells z.cells (n.toNat * ti.size)).toList (j * Dat.sz α) (Dat.sz α) = Dat.zc α := by
      have hle : j * Dat.sz α + Dat.sz α ≤ n.toNat * Dat.sz α := by rw [← Nat.succ_mul]; exact Nat.mul_le_mul_right _ (by omega)
      have hzc : (Dat.zc α).length = Dat.sz α := Dat.len (Dat.zrd (α := α) (A := fun _ => True) (w := w))
      refine getD_ext (by rw [seg_length (by simpa [size_madeCells, hi3] using hle), hzc]) fun q hq => ?_
      rw [seg_length (by simpa [size_madeCells, hi3] using hle)] at hq
      rw [seg_getD hq]
      have h3 : j * Dat.sz α + q < n.toNat * Dat.sz α := by omega
      have h4 : (j * Dat.sz α + q) % Dat.sz α = q := by rw [Nat.mul_comm, Nat.mul_add_mod, Nat.mod_eq_of_lt hq]
      have h5 : (madeCells z.cells (n.toNat * ti.size)).toList.getD (j * Dat.sz α + q) undef = z.cells[(j * Dat.sz α + q) % z.cells.size]! := by
        simp [madeCells, List.getD_eq_getElem?_getD, hi3, h3]
      rw [h5, hzl, h4, hi5, getElem!_pos _ _ (by simpa [hzc] using hq)]
      simp [List.getD_eq_getElem?_getD, hzc, hq]
    rw [e2, List.getElem_replicate]; exact Dat.zrd
end make
end Go.Proofs.Ytkohjmiipameeaa.Tr
