/- Rows: what makes them. Conditions: none. -/
import Derived.Test.YtfdmajkeihdhnaaSc
namespace Go.Proofs.Ytfdmajkeihdhnaa.Tr
open Go Go.RowKit
set_option linter.unusedVariables false
set_option linter.unnecessarySimpa false

theorem elemsIn.scal {α : Type} [Dat α] {A : Nat → Prop} {w : World} {cs : List Value} {xs : List α} (h : elemsIn A w cs xs) (hl : cs.length = xs.length * Dat.sz α) : ∀ v ∈ cs, v.oneCell' = true := fun v hv => by
  obtain ⟨j, hj, rfl⟩ := List.getElem_of_mem hv
  have hs := Dat.pos (α := α)
  rw [hl] at hj
  have hi : j / Dat.sz α < xs.length := Nat.div_lt_of_lt_mul (by rw [Nat.mul_comm]; exact hj)
  have hle : j / Dat.sz α * Dat.sz α + Dat.sz α ≤ cs.length := by rw [hl, ← Nat.succ_mul]; exact Nat.mul_le_mul_right _ (by omega)
  refine Dat.scal (h _ hi) _ ?_
  have hm := Nat.mod_lt j hs
  have e1 : (seg cs (j / Dat.sz α * Dat.sz α) (Dat.sz α)).getD (j % Dat.sz α) undef = cs[j] := by
    rw [seg_getD hm, Nat.mul_comm, Nat.div_add_mod]
    rw [List.getD_eq_getElem?_getD, List.getElem?_eq_getElem (by omega)]; rfl
  rw [← e1]
  have hl2 : j % Dat.sz α < (seg cs (j / Dat.sz α * Dat.sz α) (Dat.sz α)).length := by rw [seg_length hle]; exact hm
  rw [List.getD_eq_getElem?_getD, List.getElem?_eq_getElem hl2]
  exact List.getElem_mem hl2

/-- what stands in a slice that is read, as append and copy load it -/
theorem run_firstCells {P : Program} {α : Type} [Dat α] {A : Nat → Prop} {w : World} {u : Value} {ys : List α} (h : (D ys).p A w u) :
    ∃ ad c news, u = .slice ad ys.length c ∧ news.length = ys.length * Dat.sz α ∧ elemsIn A w news ys ∧ ∀ m, m ≤ ys.length → (Builtin.firstCells (Dat.sz α) m u).run P w = .ok (news.take (m * Dat.sz α)).toArray w := by
  obtain ⟨cs, ⟨ad, c, rfl, h2, h3, h3', h4⟩, hv⟩ := h
  have hv : u = .slice ad ys.length c := hv
  subst hv
  rcases Nat.eq_zero_or_pos ys.length with h0 | h0
  · have hy : ys = [] := List.eq_nil_of_length_eq_zero h0
    subst hy
    refine ⟨ad, c, [], rfl, by simp, fun i hi => absurd hi (by simp), fun m hm => ?_⟩
    have hm : m = 0 := by simpa using hm
    subst hm
    cases ad <;> simp [Builtin.firstCells, loadCells, loadCellsFrom]
  · obtain ⟨b, off, news, rfl, _, hl, hr, he⟩ := h4.flat h0
    refine ⟨_, c, news, rfl, hl, he, fun m hm => ?_⟩
    have hlen : (news.take (m * Dat.sz α)).length = m * Dat.sz α := by rw [List.length_take, hl]; exact Nat.min_eq_left (Nat.mul_le_mul_right _ hm)
    have hr' : rowAt w b off (news.take (m * Dat.sz α)) := fun j hj => by
      rw [hlen] at hj
      have : j < news.length := by rw [hl]; exact Nat.lt_of_lt_of_le hj (Nat.mul_le_mul_right _ hm)
      rw [hr j this]
      simp [List.getD_eq_getElem?_getD, hj]
    have := run_loadCells (P := P) hr'
    rw [hlen] at this
    simpa [Builtin.firstCells] using this

/-- operands one behind another -/
class HasAll (Γ : Env) (xs : List Operand) (α : Type) (i : Dat α) (ys : outParam (List α)) : Prop where
  len : xs.length = ys.length
  h : ∀ (a : Act) A w, (∀ t, .tmp t ∈ xs → (Γ t).p A w (a.tmps.getD t undef)) → ∀ j (hj : j < xs.length) (hj' : j < ys.length), (D ys[j]).p A w (a.eval xs[j])
instance {Γ : Env} {α : Type} {i : Dat α} : HasAll Γ [] α i [] := ⟨rfl, fun _ _ _ _ _ h _ => absurd h (by simp)⟩
instance {Γ : Env} {x : Operand} {xs : List Operand} {α : Type} {i : Dat α} {τ : Ty} {y : α} {ys : List α} [h : Has Γ x τ] [k : ToD τ α i y] [l : HasAll Γ xs α i ys] : HasAll Γ (x :: xs) α i (y :: ys) :=
  ⟨by simp [l.len], fun a A w ha j hj hj' => by
    cases j with
    | zero => exact k.le _ _ _ (h.le a A w fun t e => ha t (by simp [e]))
    | succ j => exact l.h a A w (fun t ht => ha t (List.mem_cons_of_mem _ ht)) j (by simpa using hj) (by simpa using hj')⟩

theorem foldl_setSeg : ∀ (vs : List Value) (k o : Nat) (cs : List Value), o + k + vs.length ≤ cs.length →
    (vs.zipIdx k).foldl (fun (a : Array Value) (p : Value × Nat) => a.setIfInBounds (o + p.2) p.1) cs.toArray = (setSeg cs (o + k) vs).toArray
  | [], k, o, cs, h => by simp [setSeg]
  | v :: vs, k, o, cs, h => by
    have h' : o + k + (vs.length + 1) ≤ cs.length := by simpa using h
    simp only [List.zipIdx_cons, List.foldl_cons]
    rw [show cs.toArray.setIfInBounds (o + k) v = (cs.set (o + k) v).toArray by simp]
    rw [foldl_setSeg vs (k + 1) o (cs.set (o + k) v) (by simp; omega), ← Nat.add_assoc, set_setSeg h']

/-- filling a row part by part -/
theorem fill_row {α : Type} [Dat α] {A : Nat → Prop} {w : World} : ∀ (vs : List Value) (ys : List α) (k : Nat) (cs : List Value), vs.length = ys.length → (k + vs.length) * Dat.sz α ≤ cs.length →
    (∀ j (hj : j < vs.length) (hj' : j < ys.length), (D ys[j]).p A w vs[j]) →
    ∃ cs', Instr.fill (fun i => some (i * Dat.sz α, Dat.sz α)) cs.toArray ((vs.zipIdx k).map fun p => (p.2, p.1)) = some cs'.toArray ∧ cs'.length = cs.length ∧
      (∀ j (hj : j < ys.length), Dat.rd A w (seg cs' ((k + j) * Dat.sz α) (Dat.sz α)) ys[j]) ∧ (∀ p q, (p + q ≤ k * Dat.sz α ∨ (k + vs.length) * Dat.sz α ≤ p) → p + q ≤ cs.length → seg cs' p q = seg cs p q)
  | [], [], k, cs, _, hc, _ => ⟨cs, by simp [Instr.fill], rfl, fun j hj => absurd hj (by simp), fun _ _ _ _ => rfl⟩
  | [], y :: ys, k, cs, hl, _, _ => by simp at hl
  | v :: vs, [], k, cs, hl, _, _ => by simp at hl
  | v :: vs, y :: ys, k, cs, hl, hc, hv => by
    obtain ⟨c0, e0, r0⟩ := D_cells (hv 0 (by simp) (by simp))
    simp only [List.getElem_cons_zero] at e0 r0
    have l0 := Dat.len r0
    have hc' : (k + 1 + vs.length) * Dat.sz α ≤ cs.length := by simpa [Nat.add_assoc, Nat.add_comm 1] using hc
    have hk : k * Dat.sz α + c0.length ≤ cs.length := by
      rw [l0, ← Nat.succ_mul]; exact Nat.le_trans (Nat.mul_le_mul_right _ (by omega)) hc'
    obtain ⟨cs', f1, f2, f3, f4⟩ := fill_row (α := α) (A := A) (w := w) vs ys (k + 1) (setSeg cs (k * Dat.sz α) c0) (by simpa using hl) (by rw [setSeg_length hk]; exact hc') fun j hj hj' => by
      have := hv (j + 1) (by simpa using hj) (by simpa using hj')
      simpa using this
    refine ⟨cs', ?_, by rw [f2, setSeg_length hk], fun j hj => ?_, fun p q hpq hle => ?_⟩
    · simp only [List.zipIdx_cons, List.map_cons, Instr.fill, e0]
      rw [if_neg (by simp [l0]; omega)]
      have := foldl_setSeg c0 0 (k * Dat.sz α) cs (by omega)
      simp only [Nat.add_zero] at this
      have e1 : (Array.zipIdx c0.toArray).foldl (fun cs (x : Value × Nat) => cs.setIfInBounds (k * Dat.sz α + x.2) x.1) cs.toArray = (setSeg cs (k * Dat.sz α) c0).toArray := by
        rw [← this]; simp
      rw [← f1]
      congr 1
    · cases j with
      | zero =>
        rw [f4 _ _ (.inl (by simp [Nat.succ_mul])) (by rw [setSeg_length hk]; simp; omega)]
        have e9 := seg_setSeg_same hk
        rw [l0] at e9
        rw [Nat.add_zero, e9]; exact r0
      | succ j =>
        have := f3 j (by simpa using hj)
        rw [show k + (j + 1) = k + 1 + j by omega]; simpa using this
    · rw [f4 p q (by rcases hpq with h | h
                     · left; rw [Nat.succ_mul]; omega
                     · right; simpa [Nat.add_assoc, Nat.add_comm 1] using h) (by rw [setSeg_length hk]; exact hle)]
      refine seg_setSeg_other hk hle ?_
      rcases hpq with h | h
      · left; exact h
      · right
        rw [l0, ← Nat.succ_mul]
        exact Nat.le_trans (Nat.mul_le_mul_right _ (by simp)) h

/-- what a program's tables say of an element's type, for making rows of it -/
class TEl (P : Program) (e : TypeId) (α : outParam Type) (i : outParam (Dat α)) (by_ : outParam Nat) : Prop where
  d : TDat P e α i
  h : ∃ ti z, P.info? e = some ti ∧ ti.zero = some z ∧ ti.size = Dat.sz α ∧ ti.bytes = by_ ∧ z.cells = (Dat.zc α).toArray
instance {P : Program} {e : TypeId} {α : Type} {i : Dat α} {n : Nat} [h : TEl P e α i n] : TDat P e α i := h.d

/-- a new row at the heap's end -/
def NewR {α : Type} [Dat α] (A : Nat → Prop) (w : World) (xs : List α) (v : Value) (w' : World) : Prop :=
  ∃ c cs d e, v = .slice (some ⟨w.heap.size, 0, none⟩) xs.length c ∧ w' = ({ w with drawn := d } : World).alloc (.cells cs.toArray e) ∧ (Row xs c).p A w cs
theorem NewR.grow {α : Type} [Dat α] {A : Nat → Prop} {w : World} {xs : List α} {v : Value} {w' : World} {B0 : Nat} (h : NewR A w xs v w') (hB : B0 ≤ w.heap.size) : Grow B0 w w' := by
  obtain ⟨c, cs, d, e, -, rfl, -⟩ := h
  exact (Grow.drawn d).trans (Grow.push _ hB)
theorem NewR.reads {α : Type} [Dat α] {A : Nat → Prop} {w : World} {xs : List α} {v : Value} {w' : World} (h : NewR A w xs v w') (hA : ∀ k, w.heap.size ≤ k → A k) : (D xs).p A w' v := by
  have hg : Grow 0 w w' := h.grow (Nat.zero_le _)
  obtain ⟨c, cs, d, e, rfl, rfl, hr⟩ := h
  obtain ⟨k1, k2, k3, k4, k5⟩ := (Row xs c).keep (Keep.grow hg) hr
  have hblk : Blk (({ w with drawn := d } : World).alloc (.cells cs.toArray e)) w.heap.size cs := Blk.new rfl
  refine ⟨[_], ⟨_, c, rfl, k2, k3, k4, fun q hq => ⟨w.heap.size, 0, rfl, hA _ (Nat.le_refl _), _, ?_, k5 q hq⟩⟩, rfl⟩
  rw [Nat.zero_add]
  refine hblk.row ?_
  rw [k1, ← Nat.succ_mul]
  exact Nat.mul_le_mul_right _ (by omega)

/-- a slice whose elements can be loaded -/
def Src {α : Type} [Dat α] (A : Nat → Prop) (w : World) (u : Value) (ys : List α) : Prop :=
  ∃ ad c, u = .slice ad ys.length c ∧ (0 < ys.length → ∃ b off news, ad = some ⟨b, off, none⟩ ∧ news.length = ys.length * Dat.sz α ∧ rowAt w b off news ∧ elemsIn A w news ys)
theorem Src.of_D {α : Type} [Dat α] {A : Nat → Prop} {w : World} {u : Value} {ys : List α} (h : (D ys).p A w u) : Src A w u ys := by
  obtain ⟨cs0, ⟨ad, c, rfl, h2, h3, h3', h4⟩, hu'⟩ := h
  refine ⟨ad, c, hu', fun h0 => ?_⟩
  obtain ⟨b, off, news, h5, _, hl, hr, he⟩ := h4.flat h0
  exact ⟨b, off, news, h5, hl, hr, he⟩
theorem Src.cells {P : Program} {α : Type} [Dat α] {A : Nat → Prop} {w : World} {u : Value} {ys : List α} (h : Src A w u ys) :
    ∃ ad c news, u = .slice ad ys.length c ∧ news.length = ys.length * Dat.sz α ∧ elemsIn A w news ys ∧ ∀ m, m ≤ ys.length → (Builtin.firstCells (Dat.sz α) m u).run P w = .ok (news.take (m * Dat.sz α)).toArray w := by
  obtain ⟨ad, c, rfl, h4⟩ := h
  rcases Nat.eq_zero_or_pos ys.length with h0 | h0
  · have hy : ys = [] := List.eq_nil_of_length_eq_zero h0
    subst hy
    refine ⟨ad, c, [], rfl, by simp, fun i hi => absurd hi (by simp), fun m hm => ?_⟩
    have hm : m = 0 := by simpa using hm
    subst hm
    cases ad <;> simp [Builtin.firstCells, loadCells, loadCellsFrom]
  · obtain ⟨b, off, news, rfl, hl, hr, he⟩ := h4 h0
    refine ⟨_, c, news, rfl, hl, he, fun m hm => ?_⟩
    have hlen : (news.take (m * Dat.sz α)).length = m * Dat.sz α := by rw [List.length_take, hl]; exact Nat.min_eq_left (Nat.mul_le_mul_right _ hm)
    have hr' : rowAt w b off (news.take (m * Dat.sz α)) := fun j hj => by
      rw [hlen] at hj
      have : j < news.length := by rw [hl]; exact Nat.lt_of_lt_of_le hj (Nat.mul_le_mul_right _ hm)
      rw [hr j this]
      simp [List.getD_eq_getElem?_getD, hj]
    have := run_loadCells (P := P) hr'
    rw [hlen] at this
    simpa [Builtin.firstCells] using this
theorem elemsIn.take {α : Type} [Dat α] {A : Nat → Prop} {w : World} {cs : List Value} {xs : List α} {m : Nat} (h : elemsIn A w cs xs) (hl : cs.length = xs.length * Dat.sz α) (hm : m ≤ xs.length) : elemsIn A w (cs.take (m * Dat.sz α)) (xs.take m) := fun j hj => by
  have hj' : j < m := by simp at hj; omega
  rw [List.getElem_take, seg_take (by rw [← Nat.succ_mul]; exact Nat.mul_le_mul_right _ (by omega)) (by rw [hl]; exact Nat.mul_le_mul_right _ hm)]
  exact h j (by omega)
theorem elemsIn.drop {α : Type} [Dat α] {A : Nat → Prop} {w : World} {cs : List Value} {xs : List α} {m : Nat} (h : elemsIn A w cs xs) (hl : xs.length * Dat.sz α ≤ cs.length) : elemsIn A w (cs.drop (m * Dat.sz α)) (xs.drop m) := fun j hj => by
  have hj' : m + j < xs.length := by simp at hj; omega
  have e : seg (cs.drop (m * Dat.sz α)) (j * Dat.sz α) (Dat.sz α) = seg cs ((m + j) * Dat.sz α) (Dat.sz α) := by
    unfold seg; rw [List.drop_drop, ← Nat.add_mul]
  rw [List.getElem_drop, e]
  exact h _ hj'
/-- elements put over others, from a place on -/
def splice {α : Type} (xs : List α) (k : Nat) (ys : List α) : List α := xs.take k ++ ys ++ xs.drop (k + ys.length)
theorem elemsIn.splice {α : Type} [Dat α] {A : Nat → Prop} {w : World} {cs news : List Value} {xs ys : List α} {k : Nat} (h : elemsIn A w cs xs) (g : elemsIn A w news ys) (hl : news.length = ys.length * Dat.sz α) (hx : xs.length * Dat.sz α ≤ cs.length) (hk : k ≤ xs.length) (hf : (k + ys.length) * Dat.sz α ≤ cs.length) :
    elemsIn A w (setSeg cs (k * Dat.sz α) news) (Tr.splice xs k ys) := fun j hj => by
  have hfit : k * Dat.sz α + news.length ≤ cs.length := by rw [hl, ← Nat.add_mul]; exact hf
  have hkl : (xs.take k).length = k := by simp; omega
  unfold Tr.splice at hj ⊢
  simp only [List.length_append, hkl, List.length_drop] at hj
  rcases Nat.lt_or_ge j k with h1 | h1
  · have hle2 : j * Dat.sz α + Dat.sz α ≤ k * Dat.sz α := by rw [← Nat.succ_mul]; exact Nat.mul_le_mul_right _ (by omega)
    rw [seg_setSeg_other hfit (by omega) (.inl hle2)]
    have e : (xs.take k ++ ys ++ xs.drop (k + ys.length))[j] = xs[j]'(by omega) := by
      rw [List.getElem_append_left (by simp only [List.length_append, hkl]; omega), List.getElem_append_left (by omega), List.getElem_take]
    rw [e]; exact h j (by omega)
  · rcases Nat.lt_or_ge j (k + ys.length) with h2 | h2
    · have hle2 : (j - k) * Dat.sz α + Dat.sz α ≤ news.length := by rw [hl, ← Nat.succ_mul]; exact Nat.mul_le_mul_right _ (by omega)
      have e11 : j * Dat.sz α = k * Dat.sz α + (j - k) * Dat.sz α := by rw [← Nat.add_mul]; congr 1; omega
      rw [e11, seg_setSeg_in hfit hle2]
      have e : (xs.take k ++ ys ++ xs.drop (k + ys.length))[j] = ys[j - k]'(by omega) := by
        rw [List.getElem_append_left (by simp only [List.length_append, hkl]; omega), List.getElem_append_right (by omega)]
        simp only [hkl]
      rw [e]; exact g _ (by omega)
    · have hjx : j < xs.length := by omega
      have hle2 : k * Dat.sz α + news.length ≤ j * Dat.sz α := by rw [hl, ← Nat.add_mul]; exact Nat.mul_le_mul_right _ h2
      have hle3 : j * Dat.sz α + Dat.sz α ≤ cs.length := Nat.le_trans (by rw [← Nat.succ_mul]; exact Nat.mul_le_mul_right _ (by omega)) hx
      rw [seg_setSeg_other hfit hle3 (.inr hle2)]
      have e : (xs.take k ++ ys ++ xs.drop (k + ys.length))[j] = xs[j] := by
        have h3 : (xs.take k ++ ys ++ xs.drop (k + ys.length))[j]? = xs[j]? := by
          rw [List.getElem?_append_right (by simp only [List.length_append, hkl]; omega), List.getElem?_drop]
          simp only [List.length_append, hkl]
          congr 1; omega
        rw [List.getElem?_eq_getElem (by simp only [List.length_append, hkl, List.length_drop]; omega), List.getElem?_eq_getElem hjx] at h3
        exact Option.some.inj h3
      rw [e]; exact h j hjx
theorem splice_len {α : Type} {xs ys : List α} {k : Nat} (hk : k ≤ xs.length) : (splice xs k ys).length = max xs.length (k + ys.length) := by
  unfold splice; simp only [List.length_append, List.length_take, List.length_drop]; omega
theorem Row.splice {α : Type} [Dat α] {A : Nat → Prop} {w : World} {cs news : List Value} {xs ys : List α} {k c : Nat} (h : (Row xs c).p A w cs) (g : elemsIn A w news ys) (hl : news.length = ys.length * Dat.sz α) (hk : k ≤ xs.length) (hf : k + ys.length ≤ c) (hm : k + ys.length ≤ most) :
    (Row (Tr.splice xs k ys) c).p A w (setSeg cs (k * Dat.sz α) news) := by
  obtain ⟨h1, h2, h3, h4, h5⟩ := h
  have hfit : (k + ys.length) * Dat.sz α ≤ cs.length := by rw [h1]; exact Nat.mul_le_mul_right _ hf
  have hsl := splice_len (xs := xs) (ys := ys) hk
  exact ⟨by rw [setSeg_length (by rw [hl, ← Nat.add_mul]; exact hfit)]; exact h1, by omega, h3, by omega, h5.splice g hl (by rw [h1]; exact Nat.mul_le_mul_right _ h2) hk hfit⟩
theorem Row.take {α : Type} [Dat α] {A : Nat → Prop} {w : World} {cs : List Value} {xs : List α} {c m : Nat} (h : (Row xs c).p A w cs) (hm : m ≤ xs.length) : (Row (xs.take m) c).p A w cs := by
  obtain ⟨h1, h2, h3, h4, h5⟩ := h
  refine ⟨h1, by simp; omega, h3, by simp; omega, fun j hj => ?_⟩
  rw [List.getElem_take]; exact h5 j (by simp at hj; omega)
theorem splice_take {α : Type} {xs ys : List α} {k m : Nat} (h : m = k + ys.length) (hk : k ≤ xs.length) : (splice xs k ys).take m = xs.take k ++ ys := by
  unfold splice
  rw [List.take_append_of_le_length (by simp; omega), List.take_of_length_le (by simp; omega)]

section app
variable {P : Program} {α : Type} {i : Dat α} {t e : TypeId} {bt : Nat}

/-- what append does: nothing, or a new row, or it fills what room there is -/
theorem run_append [S : TSl P t e] [T : TEl P e α i bt] {A : Nat → Prop} {w : World} {b : Nat} {v u : Value} {xs ys : List α} {ty : TypeId}
    (hv : (v = .slice none 0 0 ∧ xs = []) ∨ ∃ c cs, v = .slice (some ⟨b, 0, none⟩) xs.length c ∧ Blk w b cs ∧ (Row xs c).p A w cs) (hu : Src A w u ys) (hn : (xs.length + ys.length) * bt ≤ 140737488355328) (hm : xs.length + ys.length ≤ most) :
    ∃ v' w', (Builtin.append_ #[t, t] ty #[v, u]).run P w = .ok v' w' ∧ ((ys = [] ∧ v' = v ∧ w' = w) ∨ NewR A w (xs ++ ys) v' w' ∨
      ∃ c cs news, v = .slice (some ⟨b, 0, none⟩) xs.length c ∧ xs.length + ys.length ≤ c ∧ 0 < ys.length ∧ v' = .slice (some ⟨b, 0, none⟩) (xs.length + ys.length) c ∧ Blk w b cs ∧ (Row xs c).p A w cs ∧ Blk w' b (setSeg cs (xs.length * Dat.sz α) news) ∧ Mut (fun k => k = b) w w' ∧ news.length = ys.length * Dat.sz α ∧ elemsIn A w news ys) := by
  obtain ⟨ti, z, hi1, hi2, hi3, hi4, hi5⟩ := T.h
  obtain ⟨ad, c, rfl, h4⟩ := hu
  have hmost : xs.length + ys.length ≤ 9223372036854775807 := by unfold most at hm; omega
  rcases Nat.eq_zero_or_pos ys.length with h0 | h0
  · have hy0 : ys = [] := List.eq_nil_of_length_eq_zero h0
    subst hy0
    refine ⟨v, w, ?_, .inl ⟨rfl, rfl, rfl⟩⟩
    have hf : (Builtin.firstCells ti.size 0 (.slice ad 0 c)).run P w = .ok #[] w := by
      cases ad <;> simp [Builtin.firstCells, loadCells, loadCellsFrom]
    rcases hv with ⟨rfl, rfl⟩ | ⟨cp, cs, rfl, hblk, hcl, hle, hcm, hmx, hel⟩
    · simp [Builtin.append_, run_underlying S.h, sizeOf, typeInfo, hi1, Builtin.lenOf, hf]
    · simp [Builtin.append_, run_underlying S.h, sizeOf, typeInfo, hi1, Builtin.lenOf, hf, hle, storeCells]
  obtain ⟨b2, off, news, rfl, hl, hr, he⟩ := h4 h0
  have hzl : z.cells.size = Dat.sz α := by rw [hi5]; simpa using zc_length α
  have hnews : ∀ j v, news[j]? = some v → w.cell? (Addr.add ⟨b2, off, none⟩ j) = some v := fun j v hj => by
    obtain ⟨h5, rfl⟩ := List.getElem?_eq_some_iff.1 hj
    rw [addr_add, hr j h5, List.getD_eq_getElem?_getD, List.getElem?_eq_getElem h5]; rfl
  have key : ∀ (oc : Nat) (old : List Value), old.length = xs.length * Dat.sz α → elemsIn A w old xs →
      NewR A w (xs ++ ys) (.slice (some ⟨w.heap.size, 0, none⟩) (xs.length + ys.length) (grownCap w (xs.length + ys.length) oc e)) (w.drew.alloc (.cells (old.toArray ++ news.toArray ++ Builtin.zeroCells z.cells (grownCap w (xs.length + ys.length) oc e - (xs.length + ys.length))) e)) := fun oc old ho heo => by
    have ge := grownCap_ge w (xs.length + ys.length) oc e
    have cm := grownCap_le_maxLen w (xs.length + ys.length) oc e (by unfold maxLen; omega)
    generalize grownCap w (xs.length + ys.length) oc e = gc at *
    have hall : (old ++ news ++ (Builtin.zeroCells z.cells (gc - (xs.length + ys.length))).toList).toArray = (old.toArray ++ news.toArray ++ Builtin.zeroCells z.cells (gc - (xs.length + ys.length))) := by simp
    have hzs : (Builtin.zeroCells z.cells (gc - (xs.length + ys.length))).toList.length = (gc - (xs.length + ys.length)) * Dat.sz α := by
      rw [Array.length_toList, size_zeroCells, hzl]
    refine ⟨gc, old ++ news ++ (Builtin.zeroCells z.cells (gc - (xs.length + ys.length))).toList, w.drawn + 1, e, by simp, by rw [hall]; rfl, ?_, by simpa using ge, cm, by simpa using hm, fun j hj => ?_⟩
    · simp only [List.length_append, hzs, ho, hl, ← Nat.add_mul]
      congr 1
      omega
    · simp only [List.length_append] at hj
      rw [List.append_assoc]
      rcases Nat.lt_or_ge j xs.length with h1 | h1
      · have hle : j * Dat.sz α + Dat.sz α ≤ old.length := by rw [ho, ← Nat.succ_mul]; exact Nat.mul_le_mul_right _ (by omega)
        rw [seg_left hle, List.getElem_append_left h1]
        exact heo j h1
      · have hle : (j - xs.length) * Dat.sz α + Dat.sz α ≤ news.length := by rw [hl, ← Nat.succ_mul]; exact Nat.mul_le_mul_right _ (by omega)
        have e1 : j * Dat.sz α = old.length + (j - xs.length) * Dat.sz α := by rw [ho, ← Nat.add_mul]; congr 1; omega
        rw [e1, seg_right (by simp; omega), seg_left hle, List.getElem_append_right h1]
        exact he (j - xs.length) (by omega)
  rcases hv with ⟨rfl, rfl⟩ | ⟨cp, cs, rfl, hblk, hrow⟩
  · -- nil
    simp only [List.length_nil, Nat.zero_add, List.nil_append] at *
    have k1 := key 0 [] (by simp) (fun j hj => absurd hj (by simp))
    have hr := run_append_nil (P := P) w t ty e ti z S.h hi1 hi2 ⟨b2, off, none⟩ ys.length c news (by rw [hl, hi3]) hnews h0 (by omega) (by rw [hi4]; omega)
    refine ⟨_, _, hr, .inr (.inl ?_)⟩
    simpa using k1
  · obtain ⟨hcl, hle, hcm, hmx, hel⟩ := hrow
    by_cases hroom : xs.length + ys.length ≤ cp
    · -- there is room
      have hfit : xs.length * Dat.sz α + news.length ≤ cs.length := by rw [hl, hcl, ← Nat.add_mul]; exact Nat.mul_le_mul_right _ hroom
      obtain ⟨w', r1, r2, r3, r4⟩ := run_storeCells' (P := P) hblk hfit (he.scal hl)
      have hf := run_firstCells_some (P := P) w ti.size ys.length ⟨b2, off, none⟩ ys.length c news (by rw [hl, hi3]) hnews
      refine ⟨.slice (some ⟨b, 0, none⟩) (xs.length + ys.length) cp, w', ?_, .inr (.inr ⟨cp, cs, news, rfl, hroom, h0, rfl, hblk, ⟨hcl, hle, hcm, hmx, hel⟩, r2, r3, hl, he⟩)⟩
      rw [hi3] at hf
      simp [Builtin.append_, run_underlying S.h, sizeOf, typeInfo, hi1, hi3, Builtin.lenOf, hroom, hf, addr_add, r1]
    · -- a new row
      have hlo : xs.length * Dat.sz α ≤ cs.length := by rw [hcl]; exact Nat.mul_le_mul_right _ hle
      have hol : (cs.take (xs.length * Dat.sz α)).length = xs.length * Dat.sz α := by rw [List.length_take]; exact Nat.min_eq_left hlo
      have heo : elemsIn A w (cs.take (xs.length * Dat.sz α)) xs := fun j hj => by
        rw [seg_take (by rw [← Nat.succ_mul]; exact Nat.mul_le_mul_right _ (by omega)) hlo]
        exact hel j hj
      have hr := run_append_grow (P := P) w t ty e ti z S.h hi1 hi2 ⟨b, 0, none⟩ xs.length cp (cs.take (xs.length * Dat.sz α)) (by rw [hol, hi3]) (fun j v hj => by
        obtain ⟨h5, rfl⟩ := List.getElem?_eq_some_iff.1 hj
        rw [hol] at h5
        rw [addr_add, Nat.zero_add, hblk.cell (by omega), List.getElem_take, List.getD_eq_getElem?_getD, List.getElem?_eq_getElem (by omega)]; rfl)
        ⟨b2, off, none⟩ ys.length c news (by rw [hl, hi3]) hnews (by omega) (by omega) (by rw [hi4]; exact growslice_fits (by omega) hn)
      exact ⟨_, _, hr, .inr (.inl (key cp _ hol heo))⟩
end app
end Go.Proofs.Ytfdmajkeihdhnaa.Tr
