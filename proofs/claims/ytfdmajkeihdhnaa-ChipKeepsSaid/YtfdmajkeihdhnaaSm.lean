/- Rows: literals, make, append, index and length; public and private. Conditions: none. -/
import Derived.Test.YtfdmajkeihdhnaaSl
namespace Go.Proofs.Ytfdmajkeihdhnaa.Tr
open Go Go.RowKit
set_option linter.unusedVariables false
set_option linter.unnecessarySimpa false

/-- a new slice whose capacity is its length -/
def Fu {α : Type} [Dat α] (B : Nat) (xs : List α) : Ty :=
  ⟨fun A w v => ∃ b cs, v = .slice (some ⟨b, 0, none⟩) xs.length xs.length ∧ B ≤ b ∧ A b ∧ Blk w b cs ∧ (Row xs xs.length).p A w cs,
   fun k ⟨b, cs, h1, h2, h3, h4, h5⟩ => ⟨b, cs, h1, h2, (k.h b h4.lt h3).1, h4.keep k h3, (Row xs xs.length).keep k h5⟩⟩
theorem Row.reads {α : Type} [Dat α] {A : Nat → Prop} {w : World} {b c : Nat} {cs : List Value} {xs : List α} (hb : A b) (hblk : Blk w b cs) (hr : (Row xs c).p A w cs) : (D xs).p A w (.slice (some ⟨b, 0, none⟩) xs.length c) := by
  obtain ⟨k1, k2, k3, k4, k5⟩ := hr
  refine ⟨[_], ⟨_, c, rfl, k2, k3, k4, fun q hq => ⟨b, 0, rfl, hb, _, ?_, k5 q hq⟩⟩, rfl⟩
  rw [Nat.zero_add]
  refine hblk.row ?_
  rw [k1, ← Nat.succ_mul]
  exact Nat.mul_le_mul_right _ (by omega)
theorem Fu.le {α : Type} [Dat α] {B : Nat} {xs : List α} : (Fu B xs).le (D xs) := fun A w v ⟨b, cs, h1, h2, h3, h4, h5⟩ => by rw [h1]; exact Row.reads h3 h4 h5
instance {α : Type} [i : Dat α] {B : Nat} {x : List α} : AsL (Fu B x) α i x := ⟨Fu.le⟩
instance {α : Type} [i : Dat α] {B : Nat} {x : List α} : AsD (Fu B x) (List α) instList x := ⟨Fu.le⟩
instance {α : Type} {i : Dat α} {B : Nat} {x : List α} : ToD (Fu B x) (List α) instList x := ⟨Fu.le⟩

/-- a new row, all of whose room is filled -/
def NewF {α : Type} [Dat α] (A : Nat → Prop) (w : World) (xs : List α) (v : Value) (w' : World) : Prop :=
  ∃ cs d e, v = .slice (some ⟨w.heap.size, 0, none⟩) xs.length xs.length ∧ w' = ({ w with drawn := d } : World).alloc (.cells cs.toArray e) ∧ (Row xs xs.length).p A w cs
theorem NewF.new {α : Type} [Dat α] {A : Nat → Prop} {w : World} {xs : List α} {v : Value} {w' : World} (h : NewF A w xs v w') : NewR A w xs v w' := let ⟨cs, d, e, h⟩ := h; ⟨_, cs, d, e, h⟩
theorem NewF.fu {α : Type} [Dat α] {A : Nat → Prop} {w : World} {xs : List α} {v : Value} {w' : World} {B : Nat} (h : NewF A w xs v w') (hB : B ≤ w.heap.size) (hA : ∀ k, w.heap.size ≤ k → A k) : (Fu B xs).p A w' v := by
  have hg : Grow 0 w w' := h.new.grow (Nat.zero_le _)
  obtain ⟨cs, d, e, rfl, rfl, hr⟩ := h
  exact ⟨_, cs, rfl, hB, hA _ (Nat.le_refl _), Blk.new rfl, (Row xs xs.length).keep (Keep.grow hg) hr⟩

section run
variable {P : Program} {B0 : Nat} {A : Nat → Prop} {Γ : Env} {dst : Option Tmp} {ty : TypeId} {pos : String} {aft : Array Edge} {gd : Option (Nat × Bool)}
variable {α : Type} {i : Dat α} {t e : TypeId} {bt : Nat}

theorem run_buildSlice [S : TSl P t e] [T : TEl P e α i bt] {n : Nat} {parts : Array (Nat × Operand)} {a : Act} {w : World} (xs : List Operand) {ys : List α} [h : HasAll Γ xs α i ys]
    (hp : parts = (xs.zipIdx.map fun p => (p.2, p.1)).toArray) (hn : xs.length = n) (hs : n * Dat.sz α ≤ 16777216) (hl : ∀ s, .tmp s ∈ (Op.buildSlice t n parts).operands.toList → (Γ s).p A w (a.tmps.getD s undef)) :
    ∃ v w', (execOp a.eval ⟨dst, .buildSlice t n parts, ty, pos, aft, gd⟩).run P w = .ok (.value v) w' ∧ NewF A w ys v w' := by
  obtain ⟨ti, z, hi1, hi2, hi3, hi4, hi5⟩ := T.h
  subst hp
  have hin : ∀ t, .tmp t ∈ xs → (Γ t).p A w (a.tmps.getD t undef) := fun t ht => hl t (by
    simp only [Op.operands]
    obtain ⟨j, hj, e1⟩ := List.getElem_of_mem ht
    simp only [List.map_map, List.mem_map, Function.comp]
    exact ⟨(.tmp t, j), by rw [List.mem_zipIdx_iff_getElem?]; rw [List.getElem?_eq_getElem hj, e1], rfl⟩)
  have hlen : xs.length = ys.length := h.len
  have hsz := Dat.pos (α := α)
  let zs : List Value := ((List.range (n * Dat.sz α)).map fun j => (z.cells[j % z.cells.size]!))
  obtain ⟨cs', f1, f2, f3, -⟩ := fill_row (α := α) (A := A) (w := w) (xs.map a.eval) ys 0 zs (by simpa using hlen) (by simp [zs, hn]) fun j hj hj' => by
    rw [List.getElem_map]; exact h.h a A w hin j (by simpa using hj) hj'
  have e2 : (xs.zipIdx.map fun p => (p.2, p.1)).map (fun q : Nat × Operand => (q.1, a.eval q.2)) = ((xs.map a.eval).zipIdx 0).map fun p => (p.2, p.1) := by
    rw [List.zipIdx_map]; simp [List.map_map, Function.comp_def]
  have hcs : cs'.length = ys.length * Dat.sz α := by rw [f2]; simp [zs]; rw [← hn, hlen]
  have hrun : (execOp a.eval ⟨dst, .buildSlice t n (xs.zipIdx.map fun p => (p.2, p.1)).toArray, ty, pos, aft, gd⟩).run P w = .ok (.value (.slice (some ⟨w.heap.size, 0, none⟩) n n)) (w.alloc (.cells cs'.toArray e)) := by
    have h1 : ¬ (16777216 < n * Dat.sz α) := by omega
    have f1' : Instr.fill (fun i => some (i * Dat.sz α, Dat.sz α)) ((Array.range (n * Dat.sz α)).map (z.cells[· % z.cells.size]!)) (((xs.zipIdx.map fun p => (p.2, p.1)).map (fun q : Nat × Operand => (q.1, a.eval q.2)))) = some cs'.toArray := by
      rw [e2, ← f1]; congr 1; apply Array.ext'; simp [zs]
    by_cases h0 : n * Dat.sz α = 0
    · have hz0 : n = 0 := by rcases Nat.mul_eq_zero.1 h0 with h | h <;> omega
      subst hz0
      have hx0 : xs = [] := List.eq_nil_of_length_eq_zero hn
      subst hx0
      have hc0 : cs' = [] := List.eq_nil_of_length_eq_zero (by rw [hcs, ← hlen]; simp)
      subst hc0
      simp [execOp, Instr.buildSlice, run_underlying S.h, sizeOf, typeInfo, hi1, Instr.fill, newRow, Array.range_zero']
    · simp only [execOp, Instr.buildSlice, Sem.run_bind, run_underlying S.h, Result.andThen_ok, sizeOf, typeInfo, run_program, hi1, Sem.run_pure, hi3]
      rw [if_neg (by simpa using h1)]
      simp only [Sem.run_pure, Result.andThen_ok, if_neg h0, Sem.run_bind, zeroValue, typeInfo, run_program, hi1, hi2, List.map_toArray, f1']
      simp [newRow]
  refine ⟨_, _, hrun, cs', w.drawn, e, by rw [← hlen, hn], rfl, hcs, Nat.le_refl _, ?_, ?_, fun j hj => ?_⟩
  · have : ys.length ≤ ys.length * Dat.sz α := Nat.le_mul_of_pos_right _ hsz
    rw [← hlen, hn] at this ⊢
    unfold maxLen; omega
  · have : ys.length ≤ ys.length * Dat.sz α := Nat.le_mul_of_pos_right _ hsz
    rw [← hlen, hn] at this ⊢
    unfold most; omega
  · have := f3 j hj
    rwa [Nat.zero_add] at this
/-- make with a length and a room -/
theorem run_makeSlice2 [S : TSl P t e] [T : TEl P e α i bt] {x y : Operand} {τ σ : Ty} {m n : Int} {a : Act} {w : World} [hx : Has Γ x τ] [kx : AsI τ m] [hy : Has Γ y σ] [k : AsI σ n] (hm0 : 0 ≤ m) (h0 : m ≤ n) (hb : bt * n.toNat ≤ 281474976710656) (hm : n ≤ 140737488351232) (hl : ∀ s, .tmp s ∈ (Op.makeSlice t x y).operands.toList → (Γ s).p A w (a.tmps.getD s undef)) :
    ∃ cs, (execOp a.eval ⟨dst, .makeSlice t x y, ty, pos, aft, gd⟩).run P w = .ok (.value (.slice (some ⟨w.heap.size, 0, none⟩) m.toNat n.toNat)) (({ w with drawn := w.drawn } : World).alloc (.cells cs.toArray e)) ∧ (Row (List.replicate n.toNat (Dat.z (α := α))) n.toNat).p A w cs := by
  obtain ⟨ti, z, hi1, hi2, hi3, hi4, hi5⟩ := T.h
  have e0 : a.eval x = .int .i64 m := kx.le _ _ _ (Has.ev (x := x) (τ := τ) (op := .makeSlice t x y) (by simp [Op.operands]) hl)
  have e1 : a.eval y = .int .i64 n := k.le _ _ _ (Has.ev (x := y) (τ := σ) (op := .makeSlice t x y) (by simp [Op.operands]) hl)
  have hbb : (bt : Int) * n ≤ 281474976710656 := by
    have h1 : ((bt * n.toNat : Nat) : Int) ≤ 281474976710656 := by omega
    rw [Int.natCast_mul, Int.toNat_of_nonneg (by omega)] at h1; exact h1
  have hr := run_make (P := P) w t e ti z S.h hi1 hi2 .i64 .i64 m n hm0 h0 (by rw [hi4]; exact hbb) (by omega)
  have hrun : (execOp a.eval ⟨dst, .makeSlice t x y, ty, pos, aft, gd⟩).run P w = .ok (.value (.slice (some ⟨w.heap.size, 0, none⟩) m.toNat n.toNat)) (w.alloc (.cells (madeCells z.cells (n.toNat * ti.size)) e)) := by
    simp only [execOp, Sem.run_bind, Sem.run_pure, e0, e1, hr, Result.andThen_ok]
  have hsz := Dat.pos (α := α)
  have hzl : z.cells.size = Dat.sz α := by rw [hi5]; simpa using Dat.len (Dat.zrd (α := α) (A := fun _ => True) (w := w))
  refine ⟨(madeCells z.cells (n.toNat * ti.size)).toList, by rw [hrun, Array.toArray_toList], ?_, by simp, ?_, ?_, fun j hj => ?_⟩
  · simp [size_madeCells, hi3]
  · unfold maxLen; omega
  · simp; unfold most; omega
  · simp only [List.length_replicate] at hj
    have e2 : seg (madeCells z.cells (n.toNat * ti.size)).toList (j * Dat.sz α) (Dat.sz α) = Dat.zc α := by
      have hle : j * Dat.sz α + Dat.sz α ≤ n.toNat * Dat.sz α := by rw [← Nat.succ_mul]; exact Nat.mul_le_mul_right _ (by omega)
      have hzc : (Dat.zc α).length = Dat.sz α := Dat.len (Dat.zrd (α := α) (A := fun _ => True) (w := w))
      refine getD_ext (by rw [seg_length (by simpa [size_madeCells, hi3] using hle), hzc]) fun q hq => ?_
      rw [seg_length (by simpa [size_madeCells, hi3] using hle)] at hq
      rw [seg_getD hq]
      have h3 : j * Dat.sz α + q < n.toNat * Dat.sz α := by omega
      have h4 : (j * Dat.sz α + q) % Dat.sz α = q := by rw [Nat.mul_comm, Nat.mul_add_mod, Nat.mod_eq_of_lt hq]
      have h5 : (madeCells z.cells (n.toNat * ti.size)).toList.getD (j * Dat.sz α + q) undef = z.cells[(j * Dat.sz α + q) % z.cells.size]! := by
        simp [madeCells, List.getD_eq_getElem?_getD, hi3, h3]
      rw [h5, hzl, h4, hi5, getElem!_pos _ _ (by simpa [hzc] using hq)]
      simp [List.getD_eq_getElem?_getD, hzc, hq]
    rw [e2, List.getElem_replicate]; exact Dat.zrd
theorem run_makeSlice [S : TSl P t e] [T : TEl P e α i bt] {x : Operand} {τ : Ty} {n : Int} {a : Act} {w : World} [hx : Has Γ x τ] [k : AsI τ n] (h0 : 0 ≤ n) (hb : bt * n.toNat ≤ 281474976710656) (hm : n ≤ 140737488351232) (hl : ∀ s, .tmp s ∈ (Op.makeSlice t x x).operands.toList → (Γ s).p A w (a.tmps.getD s undef)) :
    ∃ v w', (execOp a.eval ⟨dst, .makeSlice t x x, ty, pos, aft, gd⟩).run P w = .ok (.value v) w' ∧ NewF A w (List.replicate n.toNat (Dat.z (α := α))) v w' := by
  obtain ⟨cs, h1, h2⟩ := run_makeSlice2 (P := P) (t := t) (e := e) (bt := bt) (A := A) (dst := dst) (ty := ty) (pos := pos) (aft := aft) (gd := gd) (α := α) (x := x) (y := x) (a := a) (w := w) h0 (Int.le_refl _) hb hm hl
  refine ⟨_, _, h1, cs, w.drawn, e, by simp, rfl, by simpa using h2⟩
end run

section ops
variable {P : Program} {B0 : Nat} {A : Nat → Prop} {Ω : List Pe} {Γ : Env} {dst : Option Tmp} {ty : TypeId} {pos : String} {aft : Array Edge} {gd : Option (Nat × Bool)}
variable {α : Type} {i : Dat α} {t e : TypeId} {bt : Nat}

/-- a literal -/
theorem OpY.buildSlice [S : TSl P t e] [T : TEl P e α i bt] {n : Nat} {parts : Array (Nat × Operand)} (xs : List Operand) {ys : List α} [h : HasAll Γ xs α i ys]
    (hp : parts = (xs.zipIdx.map fun p => (p.2, p.1)).toArray) (hn : xs.length = n) (hs : n * Dat.sz α ≤ 16777216) : OpY P B0 A Ω Γ ⟨dst, .buildSlice t n parts, ty, pos, aft, gd⟩ (Fu B0 ys) := fun a w hB hu _ hl => by
  obtain ⟨v, w', h1, h2⟩ := run_buildSlice (P := P) (A := A) (dst := dst) (ty := ty) (pos := pos) (aft := aft) (gd := gd) xs (ys := ys) hp hn hs hl
  rw [h1]
  exact ⟨h2.new.grow hB, h2.fu hB hu⟩
theorem OpY.makeSlice [S : TSl P t e] [T : TEl P e α i bt] {x : Operand} {τ : Ty} {n : Int} [hx : Has Γ x τ] [k : AsI τ n] (h0 : 0 ≤ n) (hb : bt * n.toNat ≤ 281474976710656) (hm : n ≤ 140737488351232) :
    OpY P B0 A Ω Γ ⟨dst, .makeSlice t x x, ty, pos, aft, gd⟩ (Fu B0 (List.replicate n.toNat (Dat.z (α := α)))) := fun a w hB hu _ hl => by
  obtain ⟨v, w', h1, h2⟩ := run_makeSlice (P := P) (A := A) (dst := dst) (ty := ty) (pos := pos) (aft := aft) (gd := gd) (α := α) (x := x) h0 hb hm hl
  rw [h1]
  exact ⟨h2.new.grow hB, h2.fu hB hu⟩

theorem app_run {a : Act} {w w' : World} {s x : Operand} {v : Value} (h : (Builtin.append_ #[t, t] ty #[a.eval s, a.eval x]).run P w = .ok v w') :
    (execOp a.eval ⟨dst, .call { callee := .builtin .append, args := #[s, x], argTypes := #[t, t] }, ty, pos, aft, gd⟩).run P w = .ok (.value v) w' := by
  simp only [execOp, resolve, invoke, builtin, Sem.run_bind, Sem.run_pure, Result.andThen_ok, List.map_toArray, List.map_cons, List.map_nil, h]

/-- a slice that append leaves as it is: nil, or without spare room -/
class AsFu (τ : Ty) (α : outParam Type) (i : outParam (Dat α)) (xs : outParam (List α)) : Prop where
  h : ∀ {A w v}, τ.p A w v → (v = .slice none 0 0 ∧ xs = []) ∨ ∃ b cs, v = .slice (some ⟨b, 0, none⟩) xs.length xs.length ∧ A b ∧ Blk w b cs ∧ (Row xs xs.length).p A w cs
instance {B : Nat} {xs : List α} : AsFu (Fu B xs) α i xs := ⟨fun ⟨b, cs, h1, h2, h3, h4, h5⟩ => .inr ⟨b, cs, h1, h3, h4, h5⟩⟩
instance {p : Prop} {τ : Ty} {xs : List α} [h : Ft p] [k : AsFu τ α i xs] : AsFu (Cond p τ) α i xs := ⟨fun x => k.h (x.1 h.h)⟩
/-- append onto a slice without spare room -/
theorem OpY.appendFu [S : TSl P t e] [T : TEl P e α i bt] {s x : Operand} {τ σ : Ty} {xs ys : List α} [hs : Has Γ s τ] [hf : AsFu τ α i xs] [hx : Has Γ x σ] [hl : AsL σ α i ys]
    (hn : (xs.length + ys.length) * bt ≤ 140737488355328) (hm : xs.length + ys.length ≤ most) : OpY P B0 A Ω Γ ⟨dst, .call { callee := .builtin .append, args := #[s, x], argTypes := #[t, t] }, ty, pos, aft, gd⟩ (D (xs ++ ys)) := fun a w hB hu _ hl' => by
  have h1 := hf.h (Has.ev (x := s) (τ := τ) (op := .call { callee := .builtin .append, args := #[s, x], argTypes := #[t, t] }) (by simp [Op.operands, Call.operands]) hl')
  have h2 := hl.le _ _ _ (Has.ev (x := x) (τ := σ) (op := .call { callee := .builtin .append, args := #[s, x], argTypes := #[t, t] }) (by simp [Op.operands, Call.operands]) hl')
  obtain ⟨b, hv, hd⟩ : ∃ b, ((a.eval s = .slice none 0 0 ∧ xs = []) ∨ ∃ c cs, a.eval s = .slice (some ⟨b, 0, none⟩) xs.length c ∧ Blk w b cs ∧ (Row xs c).p A w cs) ∧ (D xs).p A w (a.eval s) ∧ (∀ c, a.eval s = .slice (some ⟨b, 0, none⟩) xs.length c → c = xs.length) := by
    rcases h1 with ⟨h1, rfl⟩ | ⟨b, cs, h1, h3, h4, h5⟩
    · exact ⟨0, .inl ⟨h1, rfl⟩, by rw [h1]; exact NilS.le _ _ _ rfl, fun c e => by rw [h1] at e; cases e⟩
    · exact ⟨b, .inr ⟨_, cs, h1, h4, h5⟩, by rw [h1]; exact Row.reads h3 h4 h5, fun c e => by rw [h1] at e; injection e with _ _ e; exact e.symm⟩
  obtain ⟨v', w', r1, r2⟩ := run_append (P := P) (t := t) (e := e) (bt := bt) (ty := ty) hv (Src.of_D h2) hn hm
  rw [app_run r1]
  rcases r2 with ⟨rfl, rfl, rfl⟩ | r2 | ⟨c, cs, news, e1, e2, e3, _⟩
  · exact ⟨Grow.refl _ _, by simpa using hd.1⟩
  · exact ⟨r2.grow hB, r2.reads hu⟩
  · have := hd.2 c e1; omega
end ops
end Go.Proofs.Ytfdmajkeihdhnaa.Tr
