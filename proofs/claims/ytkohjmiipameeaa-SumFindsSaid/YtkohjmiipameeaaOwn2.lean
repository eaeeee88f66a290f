/- The operations on slices that a call owns: append, make, literals, stores, copies. Conditions: none. -/
import Derived.Test.YtkohjmiipameeaaOwn
namespace Go.Proofs.Ytkohjmiipameeaa.Tr
open Go Go.RowKit
set_option linter.unusedVariables false
set_option linter.unnecessarySimpa false

theorem seg_left {a b : List Value} {o n : Nat} (h : o + n ≤ a.length) : seg (a ++ b) o n = seg a o n := by
  refine getD_ext (by rw [seg_length h, seg_length (by simp; omega)]) fun j hj => ?_
  rw [seg_length (by simp; omega)] at hj
  rw [seg_getD hj, seg_getD hj]
  simp [List.getD_eq_getElem?_getD, List.getElem?_append_left (show o + j < a.length by omega)]
theorem seg_right {a b : List Value} {o n : Nat} (h : o + n ≤ b.length) : seg (a ++ b) (a.length + o) n = seg b o n := by
  refine getD_ext (by rw [seg_length h, seg_length (by simp; omega)]) fun j hj => ?_
  rw [seg_length (by simp; omega)] at hj
  rw [seg_getD hj, seg_getD hj]
  simp [List.getD_eq_getElem?_getD, List.getElem?_append_right (show a.length ≤ a.length + o + j by omega), show a.length + o + j - a.length = o + j by omega]
theorem seg_take {a : List Value} {o n k : Nat} (h : o + n ≤ k) (hk : k ≤ a.length) : seg (a.take k) o n = seg a o n := by
  refine getD_ext (by rw [seg_length (by simp; omega), seg_length (by omega)]) fun j hj => ?_
  rw [seg_length (by simp; omega)] at hj
  rw [seg_getD hj, seg_getD hj]
  simp [List.getD_eq_getElem?_getD, List.getElem?_take_of_lt (show o + j < k by omega)]
theorem seg_setSeg_in {cs : List Value} {o p q : Nat} {vs : List Value} (h : o + vs.length ≤ cs.length) (hp : p + q ≤ vs.length) : seg (setSeg cs o vs) (o + p) q = seg vs p q := by
  have h1 : o + p + q ≤ (setSeg cs o vs).length := by rw [setSeg_length h]; omega
  refine getD_ext (by rw [seg_length h1, seg_length hp]) fun j hj => ?_
  rw [seg_length h1] at hj
  rw [seg_getD hj, seg_getD hj, setSeg_getD h, if_pos (by omega)]; congr 1; omega

/-- all the cells of a slice -/
theorem elemsAt.flat {α : Type} [Dat α] {A : Nat → Prop} {w : World} {a : Option Addr} {xs : List α} (h : elemsAt A w a xs) (hx : 0 < xs.length) :
    ∃ b off news, a = some ⟨b, off, none⟩ ∧ A b ∧ news.length = xs.length * Dat.sz α ∧ rowAt w b off news ∧ elemsIn A w news xs := by
  obtain ⟨b, off, rfl, hb, -⟩ := h 0 hx
  have hs := Dat.pos (α := α)
  have hcell : ∀ j, j < xs.length * Dat.sz α → w.cell? ⟨b, off + j, none⟩ = some ((w.cell? ⟨b, off + j, none⟩).getD undef) := fun j hj => by
    have hi : j / Dat.sz α < xs.length := Nat.div_lt_of_lt_mul (by rw [Nat.mul_comm]; exact hj)
    obtain ⟨b', off', he, _, es, h3, h4⟩ := h _ hi
    injection he with he; injection he with e1 e2; subst e1; subst e2
    have := h3 (j % Dat.sz α) (by rw [Dat.len h4]; exact Nat.mod_lt _ hs)
    rw [Nat.add_assoc, Nat.mul_comm, Nat.div_add_mod] at this
    rw [this]; rfl
  refine ⟨b, off, (List.range (xs.length * Dat.sz α)).map fun j => (w.cell? ⟨b, off + j, none⟩).getD undef, rfl, hb, by simp, fun j hj => ?_, fun i hi => ?_⟩
  · simp only [List.length_map, List.length_range] at hj
    rw [hcell j hj]
    simp [List.getD_eq_getElem?_getD, hj]
  · obtain ⟨b', off', he, _, es, h3, h4⟩ := h i hi
    injection he with he; injection he with e1 e2; subst e1; subst e2
    have hle : i * Dat.sz α + Dat.sz α ≤ xs.length * Dat.sz α := by rw [← Nat.succ_mul]; exact Nat.mul_le_mul_right _ (by omega)
    have : seg ((List.range (xs.length * Dat.sz α)).map fun j => (w.cell? ⟨b, off + j, none⟩).getD undef) (i * Dat.sz α) (Dat.sz α) = es := by
      refine getD_ext (by rw [seg_length (by simpa using hle), Dat.len h4]) fun j hj => ?_
      rw [seg_length (by simpa using hle)] at hj
      rw [seg_getD hj]
      have h5 := h3 j (by rw [Dat.len h4]; exact hj)
      rw [Nat.add_assoc] at h5
      simp [List.getD_eq_getElem?_getD, show i * Dat.sz α + j < xs.length * Dat.sz α by omega, h5]
    rw [this]; exact h4

theorem elemsIn.scal {α : Type} [Dat α] {A : Nat → Prop} {w : World} {cs : List Value} {xs : List α} (h : elemsIn A w cs xs) (hl : cs.length = xs.length * Dat.sz α) : ∀ v ∈ cs, v.oneCell' = true := fun v hv => by
  obtain ⟨j, hj, rfl⟩ := List.getElem_of_mem hv
  have hs := Dat.pos (α := α)
  rw [hl] at hj
  have hi : j / Dat.sz α < xs.length := Nat.div_lt_of_lt_mul (by rw [Nat.mul_comm]; exact hj)
  have hle : j / Dat.sz α * Dat.sz α + Dat.sz α ≤ cs.length := by rw [hl, ← Nat.succ_mul]; exact Nat.mul_le_mul_right _ (by omega)
  refine Dat.scal (h _ hi) _ ?_
  have hm := Nat.mod_lt j hs
  have e1 : (seg cs (j / Dat.sz α * Dat.sz α) (Dat.sz α)).getD (j % Dat.sz α) undef = cs[j] := by
    rw [seg_getD hm, Nat.mul_comm, Nat.div_add_mod]
    rw [List.getD_eq_getElem?_getD, List.getElem?_eq_getElem (by omega)]; rfl
  rw [← e1]
  have hl2 : j % Dat.sz α < (seg cs (j / Dat.sz α * Dat.sz α) (Dat.sz α)).length := by rw [seg_length hle]; exact hm
  rw [List.getD_eq_getElem?_getD, List.getElem?_eq_getElem hl2]
  exact List.getElem_mem hl2

/-- what stands in a slice that is read, as append and copy load it -/
theorem run_firstCells {P : Program} {α : Type} [Dat α] {A : Nat → Prop} {w : World} {u : Value} {ys : List α} (h : (D A ys).p w u) :
    ∃ ad c news, u = .slice ad ys.length c ∧ news.length = ys.length * Dat.sz α ∧ elemsIn A w news ys ∧ ∀ m, m ≤ ys.length → (Builtin.firstCells (Dat.sz α) m u).run P w = .ok (news.take (m * Dat.sz α)).toArray w := by
  obtain ⟨cs, ⟨ad, c, rfl, h2, h3, h3', h4⟩, hv⟩ := h
  have hv : u = .slice ad ys.length c := hv
  subst hv
  rcases Nat.eq_zero_or_pos ys.length with h0 | h0
  · have hy : ys = [] := List.eq_nil_of_length_eq_zero h0
    subst hy
    refine ⟨ad, c, [], rfl, by simp, fun i hi => absurd hi (by simp), fun m hm => ?_⟩
    have hm : m = 0 := by simpa using hm
    subst hm
    cases ad <;> simp [Builtin.firstCells, loadCells, loadCellsFrom]
  · obtain ⟨b, off, news, rfl, _, hl, hr, he⟩ := h4.flat h0
    refine ⟨_, c, news, rfl, hl, he, fun m hm => ?_⟩
    have hlen : (news.take (m * Dat.sz α)).length = m * Dat.sz α := by rw [List.length_take, hl]; exact Nat.min_eq_left (Nat.mul_le_mul_right _ hm)
    have hr' : rowAt w b off (news.take (m * Dat.sz α)) := fun j hj => by
      rw [hlen] at hj
      have : j < news.length := by rw [hl]; exact Nat.lt_of_lt_of_le hj (Nat.mul_le_mul_right _ hm)
      rw [hr j this]
      simp [List.getD_eq_getElem?_getD, hj]
    have := run_loadCells (P := P) hr'
    rw [hlen] at this
    simpa [Builtin.firstCells] using this

/-- owned by the call, block b (or nil and empty) -/
def ownIn {α : Type} [Dat α] (A : Nat → Prop) (w : World) (b : Nat) (v : Value) (xs : List α) : Prop := (v = .slice none 0 0 ∧ xs = []) ∨ ∃ c cs, ownAt A w b c cs v xs
def OwnB {α : Type} [Dat α] (b : Nat) (A : Nat → Prop) (xs : List α) : Ty :=
  ⟨fun w v => ownIn A w b v xs, fun hg h => by
    rcases h with h | ⟨c, cs, h2, h3, h4, h5, h6, h7, h8⟩
    · exact .inl h
    · exact .inr ⟨c, cs, h2, h3.keep (A := fun _ => True) (A' := fun _ => True) (Keep.grow hg) trivial, h4, h5, h6, h7, h8.keep (Keep.grow hg)⟩⟩
theorem OwnB.own {α : Type} [Dat α] {B b : Nat} {A : Nat → Prop} {xs : List α} (h : B ≤ b) : (OwnB b A xs).le (Own B A xs) := fun w v k => by
  rcases k with k | ⟨c, cs, k⟩
  · exact .inl k
  · exact .inr ⟨b, c, cs, h, k⟩
theorem Own.open {α : Type} [Dat α] {B : Nat} {A : Nat → Prop} {xs : List α} {w : World} {v : Value} (h : (Own B A xs).p w v) : ∃ b, B ≤ b ∧ (OwnB b A xs).p w v := by
  rcases h with h | ⟨b, c, cs, h1, h2⟩
  · exact ⟨B, Nat.le_refl _, .inl h⟩
  · exact ⟨b, h1, .inr ⟨c, cs, h2⟩⟩

section app
variable {P : Program} {α : Type} {i : Dat α} {t e : TypeId} {bt : Nat}

/-- append onto what the call owns -/
theorem run_append [S : TSl P t e] [T : TEl P e α i bt] {A A1 : Nat → Prop} {w : World} {b : Nat} {v u : Value} {xs ys : List α} {ty : TypeId}
    (hv : ownIn A w b v xs) (hu : (D A1 ys).p w u) (hn : (xs.length + ys.length) * bt ≤ 140737488355328) (hm : xs.length + ys.length ≤ most)
    (hy : ∀ c, v = .slice (some ⟨b, 0, none⟩) xs.length c → xs.length + ys.length ≤ c → 0 < ys.length → ∀ cs, elemsIn A1 w cs ys → elemsIn (But A b) w cs ys) (hnew : ∀ cs, elemsIn (But A b) w cs xs → elemsIn (But A w.heap.size) w cs xs) (hnew' : ∀ cs, elemsIn A1 w cs ys → elemsIn (But A w.heap.size) w cs ys) :
    ∃ v' w' b', (Builtin.append_ #[t, t] ty #[v, u]).run P w = .ok v' w' ∧ Mut (One b) w w' ∧ (b' = b ∨ b' = w.heap.size) ∧ ownIn A w' b' v' (xs ++ ys) ∧ (Mut (fun _ => False) w w' ∨ ∃ c, v = .slice (some ⟨b, 0, none⟩) xs.length c ∧ xs.length + ys.length ≤ c ∧ 0 < ys.length) := by
  obtain ⟨ti, z, hi1, hi2, hi3, hi4, hi5⟩ := T.h
  obtain ⟨cs0, ⟨ad, c, rfl, h2, h3, h3', h4⟩, hu'⟩ := hu
  have hu' : u = .slice ad ys.length c := hu'
  subst hu'
  have hmost : xs.length + ys.length ≤ 9223372036854775807 := by unfold most at hm; omega
  rcases Nat.eq_zero_or_pos ys.length with h0 | h0
  · have hy0 : ys = [] := List.eq_nil_of_length_eq_zero h0
    subst hy0
    refine ⟨v, w, b, ?_, Mut.refl _ _, .inl rfl, by simpa using hv, .inl (Mut.refl _ _)⟩
    have hf : (Builtin.firstCells ti.size 0 (.slice ad 0 c)).run P w = .ok #[] w := by
      cases ad <;> simp [Builtin.firstCells, loadCells, loadCellsFrom]
    rcases hv with ⟨rfl, rfl⟩ | ⟨cp, cs, rfl, hblk, hcl, hle, hcm, hmx, hel⟩
    · simp [Builtin.append_, run_underlying S.h, sizeOf, typeInfo, hi1, Builtin.lenOf, hf]
    · simp [Builtin.append_, run_underlying S.h, sizeOf, typeInfo, hi1, Builtin.lenOf, hf, hle, storeCells]
  obtain ⟨b2, off, news, rfl, hA2, hl, hr, he⟩ := h4.flat h0
  have hzl : z.cells.size = Dat.sz α := by rw [hi5]; simpa using Dat.len (Dat.zrd (α := α) (A := fun _ => True) (w := w))
  have hnews : ∀ j v, news[j]? = some v → w.cell? (Addr.add ⟨b2, off, none⟩ j) = some v := fun j v hj => by
    obtain ⟨h5, rfl⟩ := List.getElem?_eq_some_iff.1 hj
    rw [addr_add, hr j h5, List.getD_eq_getElem?_getD, List.getElem?_eq_getElem h5]; rfl
  have key : ∀ (oc : Nat) (old : List Value), old.length = xs.length * Dat.sz α → elemsIn (But A w.heap.size) w old xs →
      ownIn A (w.drew.alloc (.cells (old.toArray ++ news.toArray ++ Builtin.zeroCells z.cells (grownCap w (xs.length + ys.length) oc e - (xs.length + ys.length))) e)) w.heap.size
        (.slice (some ⟨w.heap.size, 0, none⟩) (xs.length + ys.length) (grownCap w (xs.length + ys.length) oc e)) (xs ++ ys) := fun oc old ho heo => by
    have ge := grownCap_ge w (xs.length + ys.length) oc e
    have cm := grownCap_le_maxLen w (xs.length + ys.length) oc e (by unfold maxLen; omega)
    generalize grownCap w (xs.length + ys.length) oc e = gc at *
    have hall : (old ++ news ++ (Builtin.zeroCells z.cells (gc - (xs.length + ys.length))).toList).toArray = (old.toArray ++ news.toArray ++ Builtin.zeroCells z.cells (gc - (xs.length + ys.length))) := by simp
    have hzs : (Builtin.zeroCells z.cells (gc - (xs.length + ys.length))).toList.length = (gc - (xs.length + ys.length)) * Dat.sz α := by
      rw [Array.length_toList, size_zeroCells, hzl]
    have hg : Grow 0 w (w.drew.alloc (.cells (old.toArray ++ news.toArray ++ Builtin.zeroCells z.cells (gc - (xs.length + ys.length))) e)) :=
      (Grow.drawn (w.drawn + 1)).trans (Grow.push _ (Nat.zero_le _))
    refine .inr ⟨gc, old ++ news ++ (Builtin.zeroCells z.cells (gc - (xs.length + ys.length))).toList, by simp, ?_, ?_, by simpa using ge, cm, by simpa using hm, fun j hj => ?_⟩
    · rw [← hall]; exact Blk.new rfl
    · simp only [List.length_append, hzs, ho, hl, ← Nat.add_mul]
      congr 1
      omega
    · simp only [List.length_append] at hj
      rw [List.append_assoc]
      rcases Nat.lt_or_ge j xs.length with h1 | h1
      · have hle : j * Dat.sz α + Dat.sz α ≤ old.length := by rw [ho, ← Nat.succ_mul]; exact Nat.mul_le_mul_right _ (by omega)
        rw [seg_left hle, List.getElem_append_left h1]
        exact Dat.mono (Keep.grow hg) (heo j h1)
      · have hle : (j - xs.length) * Dat.sz α + Dat.sz α ≤ news.length := by rw [hl, ← Nat.succ_mul]; exact Nat.mul_le_mul_right _ (by omega)
        have e1 : j * Dat.sz α = old.length + (j - xs.length) * Dat.sz α := by rw [ho, ← Nat.add_mul]; congr 1; omega
        rw [e1, seg_right (by simp; omega), seg_left hle, List.getElem_append_right h1]
        exact Dat.mono (Keep.grow hg) (hnew' _ he (j - xs.length) (by omega))
  have mutNew : ∀ S o, Mut S w (w.drew.alloc o) := fun S o => ⟨rfl, rfl, rfl, by simp, fun k hk _ => heap_alloc_old w.drew o hk⟩
  rcases hv with ⟨rfl, rfl⟩ | ⟨cp, cs, rfl, hblk, hcl, hle, hcm, hmx, hel⟩
  · -- nil
    simp only [List.length_nil, Nat.zero_add, List.nil_append] at *
    have k1 := key 0 [] (by simp) (fun j hj => absurd hj (by simp))
    have hr := run_append_nil (P := P) w t ty e ti z S.h hi1 hi2 ⟨b2, off, none⟩ ys.length c news (by rw [hl, hi3]) hnews h0 (by omega) (by rw [hi4]; omega)
    refine ⟨_, _, w.heap.size, hr, mutNew _ _, .inr rfl, ?_, .inl (mutNew _ _)⟩
    simpa using k1
  · by_cases hroom : xs.length + ys.length ≤ cp
    · -- there is room
      have hfit : xs.length * Dat.sz α + news.length ≤ cs.length := by rw [hl, hcl, ← Nat.add_mul]; exact Nat.mul_le_mul_right _ hroom
      obtain ⟨w', r1, r2, r3, r4⟩ := run_storeCells' (P := P) hblk hfit (he.scal hl)
      have hf := run_firstCells_some (P := P) w ti.size ys.length ⟨b2, off, none⟩ ys.length c news (by rw [hl, hi3]) hnews
      have k3 : Keep (But A b) (But A b) w w' := r3.keep fun k h1 h2 => h1.2 h2
      refine ⟨.slice (some ⟨b, 0, none⟩) (xs.length + ys.length) cp, w', b, ?_, r3, .inl rfl, .inr ⟨cp, _, by simp, r2, by rw [setSeg_length hfit]; exact hcl, by simpa using hroom, hcm, by simpa using hm, fun j hj => ?_⟩, .inr ⟨cp, rfl, hroom, h0⟩⟩
      · rw [hi3] at hf
        simp [Builtin.append_, run_underlying S.h, sizeOf, typeInfo, hi1, hi3, Builtin.lenOf, hroom, hf, addr_add, r1]
      · simp only [List.length_append] at hj
        rcases Nat.lt_or_ge j xs.length with h1 | h1
        · have hle2 : j * Dat.sz α + Dat.sz α ≤ xs.length * Dat.sz α := by rw [← Nat.succ_mul]; exact Nat.mul_le_mul_right _ (by omega)
          rw [seg_setSeg_other hfit (by omega) (.inl hle2), List.getElem_append_left h1]
          exact Dat.mono k3 (hel j h1)
        · have hle2 : (j - xs.length) * Dat.sz α + Dat.sz α ≤ news.length := by rw [hl, ← Nat.succ_mul]; exact Nat.mul_le_mul_right _ (by omega)
          have e1 : j * Dat.sz α = xs.length * Dat.sz α + (j - xs.length) * Dat.sz α := by rw [← Nat.add_mul]; congr 1; omega
          rw [e1, seg_setSeg_in hfit hle2, List.getElem_append_right h1]
          exact Dat.mono k3 (hy _ rfl hroom h0 _ he (j - xs.length) (by omega))
    · -- a new row
      have hlo : xs.length * Dat.sz α ≤ cs.length := by rw [hcl]; exact Nat.mul_le_mul_right _ hle
      have hol : (cs.take (xs.length * Dat.sz α)).length = xs.length * Dat.sz α := by rw [List.length_take]; exact Nat.min_eq_left hlo
      have heo : elemsIn (But A b) w (cs.take (xs.length * Dat.sz α)) xs := fun j hj => by
        rw [seg_take (by rw [← Nat.succ_mul]; exact Nat.mul_le_mul_right _ (by omega)) hlo]
        exact hel j hj
      have hr := run_append_grow (P := P) w t ty e ti z S.h hi1 hi2 ⟨b, 0, none⟩ xs.length cp (cs.take (xs.length * Dat.sz α)) (by rw [hol, hi3]) (fun j v hj => by
        obtain ⟨h5, rfl⟩ := List.getElem?_eq_some_iff.1 hj
        rw [hol] at h5
        rw [addr_add, Nat.zero_add, hblk.cell (by omega), List.getElem_take, List.getD_eq_getElem?_getD, List.getElem?_eq_getElem (by omega)]; rfl)
        ⟨b2, off, none⟩ ys.length c news (by rw [hl, hi3]) hnews (by omega) (by omega) (by rw [hi4]; exact growslice_fits (by omega) hn)
      exact ⟨_, _, w.heap.size, hr, mutNew _ _, .inr rfl, key cp _ hol (hnew _ heo), .inl (mutNew _ _)⟩
end app

class Sub (A A' : Nat → Prop) : Prop where
  h : ∀ k, A k → A' k
instance {A : Nat → Prop} : Sub A A := ⟨fun _ h => h⟩
instance {A : Nat → Prop} : Sub A (fun _ => True) := ⟨fun _ _ => trivial⟩
instance {A : Nat → Prop} {B : Nat} : Sub (Old A B) A := ⟨fun _ h => h.1⟩
instance {A : Nat → Prop} {b : Nat} : Sub (But A b) A := ⟨fun _ h => h.1⟩

theorem elemsIn.new {α : Type} [Dat α] {A A1 : Nat → Prop} {w : World} {cs : List Value} {xs : List α} (hs : ∀ k, A1 k → A k) (h : elemsIn A1 w cs xs) : elemsIn (But A w.heap.size) w cs xs :=
  h.keep fun k hk ha => ⟨⟨hs k ha, by omega⟩, SameCells.refl _⟩
theorem elemsIn.but {α : Type} [Dat α] {A A1 : Nat → Prop} {w : World} {b : Nat} {cs : List Value} {xs : List α} (hs : ∀ k, A1 k → A k) (hb : ∀ k, A1 k → k ≠ b) (h : elemsIn A1 w cs xs) : elemsIn (But A b) w cs xs :=
  h.keep fun k hk ha => ⟨⟨hs k ha, hb k ha⟩, SameCells.refl _⟩
theorem elemsIn.flat {α : Type} [Dat α] [Flat α] {A A1 : Nat → Prop} {w w' : World} {cs : List Value} {xs : List α} (h : elemsIn A1 w cs xs) : elemsIn A w' cs xs := fun i hi => Flat.h (h i hi)

class AsOwn (τ : Ty) (α : outParam Type) (i : outParam (Dat α)) (B : outParam Nat) (A : outParam (Nat → Prop)) (x : outParam (List α)) : Prop where
  le : τ.le (Own B A x)
instance {α : Type} [i : Dat α] {B : Nat} {A : Nat → Prop} {x : List α} : AsOwn (Own B A x) α i B A x := ⟨Ty.le.refl _⟩
instance {p : Prop} {τ : Ty} {α : Type} {i : Dat α} {B : Nat} {A : Nat → Prop} {x : List α} [h : Ft p] [k : AsOwn τ α i B A x] : AsOwn (Cond p τ) α i B A x := ⟨fun w v y => k.le w v (y.1 h.h)⟩
instance {α : Type} [i : Dat α] {B : Nat} {A : Nat → Prop} {x : List α} [Up B A] : AsL (Own B A x) α i A x := ⟨Own.le⟩
instance {α : Type} [i : Dat α] {B : Nat} {A : Nat → Prop} {x : List α} [Up B A] : AsD (Own B A x) (List α) instList A x := ⟨Own.le⟩
theorem OwnB.le {α : Type} [i : Dat α] {b : Nat} {A : Nat → Prop} {x : List α} (hb : A b) : (OwnB b A x).le (D A x) := fun w v h => by
  rcases h with ⟨rfl, rfl⟩ | ⟨c, cs, h2⟩
  · exact NilS.le _ _ rfl
  · exact h2.reads hb
instance {α : Type} [i : Dat α] {b : Nat} {A : Nat → Prop} {x : List α} [h : Ft (A b)] : AsL (OwnB b A x) α i A x := ⟨OwnB.le h.h⟩
/-- a slice of the call's own whose capacity is its length -/
def Full {α : Type} [Dat α] (B : Nat) (A : Nat → Prop) (xs : List α) : Ty :=
  ⟨fun w v => ∃ b cs, B ≤ b ∧ ownAt A w b xs.length cs v xs,
   fun hg ⟨b, cs, h1, h2, h3, h4, h5, h6, h7, h8⟩ => ⟨b, cs, h1, h2, h3.keep (A := fun _ => True) (A' := fun _ => True) (Keep.grow hg) trivial, h4, h5, h6, h7, h8.keep (Keep.grow hg)⟩⟩
theorem Full.own {α : Type} [Dat α] {B : Nat} {A : Nat → Prop} {xs : List α} : (Full B A xs).le (Own B A xs) := fun w v ⟨b, cs, h1, h2⟩ => .inr ⟨b, _, cs, h1, h2⟩
instance {α : Type} [i : Dat α] {B : Nat} {A : Nat → Prop} {x : List α} : AsOwn (Full B A x) α i B A x := ⟨Full.own⟩
instance {α : Type} [i : Dat α] {B : Nat} {A : Nat → Prop} {x : List α} [Up B A] : AsL (Full B A x) α i A x := ⟨fun w v h => Own.le w v (Full.own w v h)⟩
instance {α : Type} [i : Dat α] {B : Nat} {A : Nat → Prop} {x : List α} [Up B A] : AsD (Full B A x) (List α) instList A x := ⟨fun w v h => Own.le w v (Full.own w v h)⟩

section appops
variable {P : Program} {B0 : Nat} {Γ : Env} {dst : Option Tmp} {ty : TypeId} {pos : String} {aft : Array Edge} {gd : Option (Nat × Bool)}
variable {α : Type} {i : Dat α} {t e : TypeId} {bt : Nat}

theorem app_run {a : Act} {w w' : World} {s x : Operand} {v : Value} (h : (Builtin.append_ #[t, t] ty #[a.eval s, a.eval x]).run P w = .ok v w') :
    (execOp a.eval ⟨dst, .call { callee := .builtin .append, args := #[s, x], argTypes := #[t, t] }, ty, pos, aft, gd⟩).run P w = .ok (.value v) w' := by
  simp only [execOp, resolve, invoke, builtin, Sem.run_bind, Sem.run_pure, Result.andThen_ok, List.map_toArray, List.map_cons, List.map_nil, h]

theorem Mut.new {w w' : World} (m : Mut (One w.heap.size) w w') (hB : B0 ≤ w.heap.size) : Grow B0 w w' :=
  ⟨m.os, m.tape, m.output, m.size, fun k hk => m.same k (by omega) (by unfold One; omega), fun k hk => by rw [m.same k hk (by unfold One; omega)]; exact SameCells.refl _⟩
theorem Mut.none {w w' : World} (m : Mut (fun _ => False) w w') (hB : B0 ≤ w.heap.size) : Grow B0 w w' :=
  ⟨m.os, m.tape, m.output, m.size, fun k hk => m.same k (by omega) id, fun k hk => by rw [m.same k hk id]; exact SameCells.refl _⟩

/-- append onto nil -/
theorem OpY.appendNil [S : TSl P t e] [T : TEl P e α i bt] {A A1 : Nat → Prop} {s x : Operand} {σ : Ty} {ys : List α} [hs : Has Γ s NilS] [hx : Has Γ x σ] [hl : AsL σ α i A1 ys] [sb : Sub A1 A]
    (hn : ys.length * bt ≤ 140737488355328) (hm : ys.length ≤ most) : OpY P B0 Γ ⟨dst, .call { callee := .builtin .append, args := #[s, x], argTypes := #[t, t] }, ty, pos, aft, gd⟩ (Own B0 A ys) := fun a w hB hl' => by
  have e1 : a.eval s = .slice none 0 0 := Has.ev (x := s) (τ := NilS) (op := .call { callee := .builtin .append, args := #[s, x], argTypes := #[t, t] }) (by simp [Op.operands, Call.operands]) hl'
  have h2 := hl.le _ _ (Has.ev (x := x) (τ := σ) (op := .call { callee := .builtin .append, args := #[s, x], argTypes := #[t, t] }) (by simp [Op.operands, Call.operands]) hl')
  obtain ⟨v', w', b', r1, r2, r3, r4, r5⟩ := run_append (P := P) (t := t) (e := e) (bt := bt) (A := A) (A1 := A1) (b := w.heap.size) (xs := []) (ys := ys) (ty := ty) (v := a.eval s) (.inl ⟨e1, rfl⟩) h2 (by simpa using hn) (by simpa using hm)
    (fun _ _ _ _ cs h => h.new sb.h) (fun cs h => fun j hj => absurd hj (by simp)) (fun cs h => h.new sb.h)
  rw [app_run r1]
  have hb' : b' = w.heap.size := by rcases r3 with r3 | r3 <;> exact r3
  subst hb'
  refine ⟨r2.new hB, ?_⟩
  have := OwnB.own (α := α) hB w' v' r4
  simpa using this
/-- append onto a slice without spare room -/
theorem OpY.appendFull [S : TSl P t e] [T : TEl P e α i bt] {A A1 : Nat → Prop} {s x : Operand} {σ : Ty} {xs ys : List α} [hs : Has Γ s (Full B0 A xs)] [hx : Has Γ x σ] [hl : AsL σ α i A1 ys] [sb : Sub A1 A]
    (hn : (xs.length + ys.length) * bt ≤ 140737488355328) (hm : xs.length + ys.length ≤ most) : OpY P B0 Γ ⟨dst, .call { callee := .builtin .append, args := #[s, x], argTypes := #[t, t] }, ty, pos, aft, gd⟩ (Own B0 A (xs ++ ys)) := fun a w hB hl' => by
  obtain ⟨b, cs, hb, h1⟩ := Has.ev (x := s) (τ := Full B0 A xs) (op := .call { callee := .builtin .append, args := #[s, x], argTypes := #[t, t] }) (by simp [Op.operands, Call.operands]) hl'
  have h2 := hl.le _ _ (Has.ev (x := x) (τ := σ) (op := .call { callee := .builtin .append, args := #[s, x], argTypes := #[t, t] }) (by simp [Op.operands, Call.operands]) hl')
  have hv := h1.1
  obtain ⟨v', w', b', r1, r2, r3, r4, r5⟩ := run_append (P := P) (t := t) (e := e) (bt := bt) (A := A) (A1 := A1) (b := b) (xs := xs) (ys := ys) (ty := ty) (v := a.eval s) (.inr ⟨_, cs, h1⟩) h2 hn hm
    (fun c e1 e2 e3 cs h => by rw [hv] at e1; injection e1 with _ _ e1; omega) (fun cs h => (h.new fun k hk => hk.1)) (fun cs h => h.new sb.h)
  rw [app_run r1]
  have m : Mut (fun _ => False) w w' := by
    rcases r5 with r5 | ⟨c, e1, e2, e3⟩
    · exact r5
    · rw [hv] at e1; injection e1 with _ _ e1; omega
  exact ⟨m.none hB, OwnB.own (by rcases r3 with r3 | r3 <;> omega) w' v' r4⟩
end appops

section appts
variable {P : Program} {w0 : World} {n : Nat} {ops : Array Oper} {k : Nat} {Γ Δ : Env} {Q : Exit → Act → World → Prop}
variable {α : Type} {i : Dat α} {t e : TypeId} {bt : Nat}

/-- append onto a slice of the call's own: of flat data -/
theorem TS.append [S : TSl P t e] [T : TEl P e α i bt] [Flat α] {A A1 : Nat → Prop} {d : Tmp} {ty : TypeId} {pos : String} {aft : Array Edge} {rest : List Oper} {s x : Operand} {τ σ : Ty} {xs ys : List α} [hs : Has Γ s τ] [ho : AsOwn τ α i w0.heap.size A xs] [hx : Has Γ x σ] [hl : AsL σ α i A1 ys]
    [sv : Survs (Hi w0.heap.size) Γ Δ] (hn : (xs.length + ys.length) * bt ≤ 140737488355328) (hm : xs.length + ys.length ≤ most) (hd : Nat.blt d n = true)
    (hk : TS P w0 n ops rest (k + 1) (Δ.set d (Own w0.heap.size A (xs ++ ys))) Q) : TS P w0 n ops (⟨some d, .call { callee := .builtin .append, args := #[s, x], argTypes := #[t, t] }, ty, pos, aft, none⟩ :: rest) k Γ Q :=
  TS.m rfl (fun a w hw ha => by
    have h1 := ho.le _ _ (hs.le a w fun t _ => ha.2.2 t)
    have h2 := hl.le _ _ (hx.le a w fun t _ => ha.2.2 t)
    obtain ⟨b, hb, h1⟩ := Own.open h1
    obtain ⟨v', w', b', r1, r2, r3, r4, r5⟩ := run_append (P := P) (t := t) (e := e) (bt := bt) (A := A) (A1 := A1) (ty := ty) h1 h2 hn hm (fun _ _ _ _ cs h => h.flat) (fun cs h => h.flat) (fun cs h => h.flat)
    have m : Mut (Hi w0.heap.size) w w' := r2.mono fun k hk => by unfold One at hk; subst hk; exact hb
    refine ⟨v', w', .inl (app_run r1), Mut.grow hw m (fun k h => h), Env.ok.mutPut (by simpa using hd) ha m ?_⟩
    exact OwnB.own (b := b') (by have := hw.size; rcases r3 with r3 | r3 <;> omega) w' v' r4) hk
end appts
end Go.Proofs.Ytkohjmiipameeaa.Tr
