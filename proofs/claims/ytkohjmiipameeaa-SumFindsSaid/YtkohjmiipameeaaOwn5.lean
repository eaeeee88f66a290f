/- More operations: on slices of the call's own, on nil, unsigned division. Conditions: none. -/
import Derived.Test.YtkohjmiipameeaaOwn4
import Derived.WalkSpells
namespace Go.Proofs.Ytkohjmiipameeaa.Tr
open Go Go.RowKit
set_option linter.unusedVariables false
set_option linter.unnecessarySimpa false

theorem D.old {α : Type} [Dat α] {A : Nat → Prop} {x : α} {w : World} {v : Value} (h : (D A x).p w v) : (D (Old A w.heap.size) x).p w v := D.keep (fun k hk ha => ⟨⟨ha, hk⟩, SameCells.refl _⟩) h
theorem OwnB_le {α : Type} [Dat α] {b : Nat} {A : Nat → Prop} {xs ys : List α} (h : xs = ys) : (OwnB b A xs).le (OwnB b A ys) := h ▸ Ty.le.refl _
theorem Full_OwnB {α : Type} [Dat α] {B : Nat} {A : Nat → Prop} {xs : List α} {w : World} {v : Value} (h : (Full B A xs).p w v) : ∃ b, B ≤ b ∧ (OwnB b A xs).p w v := Own.open (Full.own w v h)
/-- what stands in flat cells may be seen by anybody -/
theorem Own.vis {α : Type} [Dat α] [Flat α] {B : Nat} {A A' : Nat → Prop} {xs : List α} : (Own B A xs).le (Own B A' xs) := fun w v h => by
  rcases h with h | ⟨b, c, cs, h1, h2, h3, h4, h5, h6, h7, h8⟩
  · exact .inl h
  · exact .inr ⟨b, c, cs, h1, h2, h3, h4, h5, h6, h7, h8.flat⟩
instance {B : Nat} {A : Nat → Prop} : Up B (fun k => A k ∨ B ≤ k) := ⟨fun k h => .inr h⟩
instance upAll {B : Nat} : Up B (fun _ => True) := ⟨fun _ _ => trivial⟩

/-! ### a new beginning: what is there now is old -/
class Reb (B : Nat) (τ : Ty) (σ : outParam Ty) : Prop where
  h : ∀ w v, w.heap.size = B → τ.p w v → σ.p w v
instance (priority := 10) {N : Nat} {τ : Ty} : Reb N τ Ty.any := ⟨fun _ _ _ _ => trivial⟩
instance {N : Nat} {v : Value} : Reb N (Ex v) (Ex v) := ⟨fun _ _ _ h => h⟩
instance {N : Nat} {n : Int} : Reb N (I n) (I n) := ⟨fun _ _ _ h => h⟩
instance {N : Nat} {n : Bool} : Reb N (B n) (B n) := ⟨fun _ _ _ h => h⟩
instance {N : Nat} {n : UInt8} : Reb N (U8 n) (U8 n) := ⟨fun _ _ _ h => h⟩
instance {N : Nat} {n : UInt16} : Reb N (U16 n) (U16 n) := ⟨fun _ _ _ h => h⟩
instance {N : Nat} {n : UInt32} : Reb N (U32 n) (U32 n) := ⟨fun _ _ _ h => h⟩
instance {N : Nat} {n : UInt64} : Reb N (U64 n) (U64 n) := ⟨fun _ _ _ h => h⟩
instance {N : Nat} {l : List UInt8} : Reb N (Str l) (Str l) := ⟨fun _ _ _ h => h⟩
instance {N : Nat} : Reb N NilS NilS := ⟨fun _ _ _ h => h⟩
instance {N : Nat} {α : Type} [Dat α] {A : Nat → Prop} {x : α} : Reb N (D A x) (D (Old A N) x) := ⟨fun w v e h => e ▸ D.old h⟩
instance {N : Nat} {α : Type} [Dat α] {A : Nat → Prop} {x : α} : Reb N (PtrD A x) (PtrD (Old A N) x) := ⟨fun w v e ⟨b, off, cs, h1, h2, h3, h4⟩ => by
  subst e
  have hb : b < w.heap.size := cell_lt (h3 0 (by rw [Dat.len h4]; exact Dat.pos))
  exact ⟨b, off, cs, h1, ⟨h2, hb⟩, h3, Dat.mono (fun k hk ha => ⟨⟨ha, hk⟩, SameCells.refl _⟩) h4⟩⟩
instance {N B : Nat} {α : Type} [Dat α] {A : Nat → Prop} {x : List α} [Up B A] : Reb N (Own B A x) (D (Old A N) x) := ⟨fun w v e h => e ▸ D.old (Own.le _ _ h)⟩
instance {N B : Nat} {α : Type} [Dat α] {A : Nat → Prop} {x : List α} [Up B A] : Reb N (Full B A x) (D (Old A N) x) := ⟨fun w v e h => e ▸ D.old (Own.le _ _ (Full.own _ _ h))⟩
class Rebs (N : Nat) (Γ : Env) (Δ : outParam Env) : Prop where
  h : ∀ w t v, w.heap.size = N → (Γ t).p w v → (Δ t).p w v
instance {N : Nat} : Rebs N Env.nil Env.nil := ⟨fun _ _ _ _ _ => trivial⟩
instance {N : Nat} {Γ Δ : Env} {d : Tmp} {τ σ : Ty} [h : Rebs N Γ Δ] [k : Reb N τ σ] : Rebs N (Env.set Γ d τ) (Env.set Δ d σ) := ⟨fun w t v e hx => by
  unfold Env.set at *
  split
  · rename_i e'; rw [if_pos e'] at hx; exact k.h w v e hx
  · rename_i e'; rw [if_neg e'] at hx; exact h.h w t v e hx⟩
/-- from here on what is there is old -/
theorem TC.rebase {P : Program} {w0 : World} {n : Nat} {Γ : Env} {Δ : Nat → Env} {Q : Exit → Act → World → Prop} {c : Code} [r : ∀ N, Rebs N Γ (Δ N)] (k : ∀ w1, Grow w0.heap.size w0 w1 → TC P w1 n (Δ w1.heap.size) c Q) : TC P w0 n Γ c Q :=
  fun a w hw ha => k w hw a w (Grow.refl _ _) ⟨ha.1, ha.2.1, fun t => (r w.heap.size).h w t _ rfl (ha.2.2 t)⟩
theorem TE.rb {P : Program} {w0 w1 : World} {n : Nat} {Γ : Env} {fn : Func} {σ : Ty} (hg : Grow w0.heap.size w0 w1) (h : TE w1 n Γ (bodyPost P fn (Ret w1 σ)) .ret) : TE w1 n Γ (bodyPost P fn (Ret w0 σ)) .ret := fun a w hw ha => by
  obtain ⟨h1, v, h2, u, h3, h4, h5⟩ := h a w hw ha
  exact ⟨h1, v, h2, u, h3, hg.trans (hw.mono hg.size), h5⟩

/-- a bool of which something is known -/
def BE (φ : Bool → Prop) : Ty := ⟨fun _ v => ∃ b, v = .bool b ∧ φ b, fun _ h => h⟩
theorem TC.condE {P : Program} {w0 : World} {n : Nat} {Γ : Env} {Q : Exit → Act → World → Prop} {c : Operand} {x y : Code} {φ : Bool → Prop} [hc : Has Γ c (BE φ)]
    (h1 : φ true → TC P w0 n Γ x Q) (h2 : φ false → TC P w0 n Γ y Q) : TC P w0 n Γ (.cond c x y) Q := fun a w hw ha => by
  obtain ⟨b, e, h⟩ := hc.le a w fun t _ => ha.2.2 t
  cases b
  · exact wp_cond_split e (fun x => by cases x) (fun _ => h2 h a w hw ha)
  · exact wp_cond_split e (fun _ => h1 h a w hw ha) (fun x => by cases x)

section ops
variable {P : Program} {B0 : Nat} {Γ : Env} {dst : Option Tmp} {ty : TypeId} {pos : String} {aft : Array Edge} {gd : Option (Nat × Bool)}
variable {α : Type} {i : Dat α} {t e : TypeId} {A : Nat → Prop} {bt : Nat}

theorem OpY.lenOwn {x : Operand} {b : Nat} {xs : List α} [Has Γ x (OwnB b A xs)] [S : TSl P t e] :
    OpY P B0 Γ ⟨dst, .call { callee := .builtin .len, args := #[x], argTypes := #[t] }, ty, pos, aft, gd⟩ (I xs.length) :=
  OpY.val fun a w hl => by
    have h := Has.ev (x := x) (τ := OwnB b A xs) (op := .call { callee := .builtin .len, args := #[x], argTypes := #[t] }) (by simp [Op.operands, Call.operands]) hl
    rcases h with ⟨e1, rfl⟩ | ⟨c, cs, e1, _⟩
    · exact ⟨.int .i64 0, by simp [execOp, resolve, invoke, builtin, e1, Builtin.len_, run_underlying S.h, goInt], rfl⟩
    · exact ⟨.int .i64 xs.length, by simp [execOp, resolve, invoke, builtin, e1, Builtin.len_, run_underlying S.h, goInt], rfl⟩
theorem OpY.lenOf {x : Operand} {τ : Ty} {B : Nat} {xs : List α} [Has Γ x τ] [ho : AsOwn τ α i B A xs] [S : TSl P t e] :
    OpY P B0 Γ ⟨dst, .call { callee := .builtin .len, args := #[x], argTypes := #[t] }, ty, pos, aft, gd⟩ (I xs.length) :=
  OpY.val fun a w hl => by
    have h := ho.le _ _ (Has.ev (x := x) (τ := τ) (op := .call { callee := .builtin .len, args := #[x], argTypes := #[t] }) (by simp [Op.operands, Call.operands]) hl)
    rcases h with ⟨e1, rfl⟩ | ⟨b, c, cs, _, e1, _⟩
    · exact ⟨.int .i64 0, by simp [execOp, resolve, invoke, builtin, e1, Builtin.len_, run_underlying S.h, goInt], rfl⟩
    · exact ⟨.int .i64 xs.length, by simp [execOp, resolve, invoke, builtin, e1, Builtin.len_, run_underlying S.h, goInt], rfl⟩
theorem OpY.capNil {x : Operand} [Has Γ x NilS] [S : TSl P t e] :
    OpY P B0 Γ ⟨dst, .call { callee := .builtin .cap, args := #[x], argTypes := #[t] }, ty, pos, aft, gd⟩ (I 0) :=
  OpY.val fun a w hl => by
    have e1 : a.eval x = .slice none 0 0 := Has.ev (x := x) (τ := NilS) (op := .call { callee := .builtin .cap, args := #[x], argTypes := #[t] }) (by simp [Op.operands, Call.operands]) hl
    exact ⟨.int .i64 0, by simp [execOp, resolve, invoke, builtin, e1, Builtin.cap_, run_underlying S.h, goInt], rfl⟩
/-- nil[:0] -/
theorem OpY.sliceNil {x z : Operand} {σ : Ty} [Has Γ x NilS] [Has Γ z σ] [hz : AsI σ 0] [S : TSl P t e] [T : TDat P e α i] : OpY P B0 Γ ⟨dst, .slice t x none (some z) none, ty, pos, aft, gd⟩ NilS :=
  OpY.val fun a w hl => by
    have e1 : a.eval x = .slice none 0 0 := Has.ev (x := x) (τ := NilS) (op := .slice t x none (some z) none) (by simp [Op.operands]) hl
    have e2 : a.eval z = .int .i64 0 := hz.le _ _ (Has.ev (x := z) (τ := σ) (op := .slice t x none (some z) none) (by simp [Op.operands]) hl)
    exact ⟨.slice none 0 0, by simp [execOp, e1, e2, Instr.sliceAt, Instr.slice, run_underlying S.h, Instr.sliceBounds, Instr.sliceBound, asIntOf, T.sz], rfl⟩
/-- x[:k] of a slice of the call's own -/
theorem OpY.sliceOwnTo {x z : Operand} {τ σ : Ty} {B : Nat} {xs : List α} {k : Int} [Has Γ x τ] [ho : AsOwn τ α i B A xs] [Has Γ z σ] [hz : AsI σ k] [S : TSl P t e] [T : TDat P e α i] (h0 : 0 ≤ k) (h1 : k ≤ xs.length) :
    OpY P B0 Γ ⟨dst, .slice t x none (some z) none, ty, pos, aft, gd⟩ (Own B A (xs.take k.toNat)) :=
  OpY.val fun a w hl => by
    have h := ho.le _ _ (Has.ev (x := x) (τ := τ) (op := .slice t x none (some z) none) (by simp [Op.operands]) hl)
    have e2 : a.eval z = .int .i64 k := hz.le _ _ (Has.ev (x := z) (τ := σ) (op := .slice t x none (some z) none) (by simp [Op.operands]) hl)
    rcases h with ⟨e1, rfl⟩ | ⟨b, c, cs, hb, e1, g2, g3, g4, g5, g6, g7⟩
    · have hk : k = 0 := by simp at h1; omega
      subst hk
      exact ⟨.slice none 0 0, by simp [execOp, e1, e2, Instr.sliceAt, Instr.slice, run_underlying S.h, Instr.sliceBounds, Instr.sliceBound, asIntOf, T.sz], .inl ⟨rfl, by simp⟩⟩
    · have c1 : 0 ≤ k ∧ k ≤ (c : Int) := by unfold maxLen at g5; omega
      have hlen : (xs.take k.toNat).length = k.toNat := by simp; omega
      refine ⟨.slice (some ⟨b, 0, none⟩) k.toNat c, ?_, .inr ⟨b, c, cs, hb, by rw [hlen], g2, g3, by rw [hlen]; omega, g5, by rw [hlen]; unfold most at *; omega, fun q hq => ?_⟩⟩
      · have h2 : Addr.add ⟨b, 0, none⟩ 0 = ⟨b, 0, none⟩ := by simp [Addr.add]
        simp only [execOp, e1, e2, Instr.sliceAt, Instr.slice, Option.map_some, Option.map_none, Sem.run_bind, run_underlying S.h, Result.andThen_ok, Instr.sliceBounds, Instr.sliceBound, asIntOf, Sem.run_pure, c1, and_self, if_true, T.sz, Nat.sub_zero]
        simp [h2]
      · rw [List.getElem_take]; exact g7 q (by rw [hlen] at hq; omega)
/-- append(nil, make([]T, n)...) -/
theorem OpY.appendMake {u : TypeId} [S : TSl P t e] [T : TEl P e α i bt] [U : TIn P u .i64] {s x : Operand} {σ : Ty} {n : Int} [hs : Has Γ s NilS] [hx : Has Γ x σ] [k : AsI σ n] (h0 : 0 < n) (h1 : n.toNat * bt ≤ 140737488355328) (hm : n ≤ 281474976710656) :
    OpY P B0 Γ ⟨dst, .call { callee := .builtin .append, args := #[s, x], argTypes := #[t, u] }, ty, pos, aft, gd⟩ (Own B0 A (List.replicate n.toNat (Dat.z (α := α)))) := fun a w hB hl => by
  obtain ⟨m, rfl⟩ := Int.eq_ofNat_of_zero_le (show 0 ≤ n by omega)
  simp only [Int.toNat_natCast] at h1 ⊢
  obtain ⟨ti, z, hi1, hi2, hi3, hi4, hi5⟩ := T.h
  have e1 : a.eval s = .slice none 0 0 := Has.ev (x := s) (τ := NilS) (op := .call { callee := .builtin .append, args := #[s, x], argTypes := #[t, u] }) (by simp [Op.operands, Call.operands]) hl
  have e2 : a.eval x = .int .i64 m := k.le _ _ (Has.ev (x := x) (τ := σ) (op := .call { callee := .builtin .append, args := #[s, x], argTypes := #[t, u] }) (by simp [Op.operands, Call.operands]) hl)
  have hsz := Dat.pos (α := α)
  have hzl : z.cells.size = Dat.sz α := by rw [hi5]; simpa using Dat.len (Dat.zrd (α := α) (A := fun _ => True) (w := w))
  have hw : IntKind.i64.wrap (m : Int) = m := wrap64_in (by omega) (by omega)
  have n0 : ¬ m = 0 := by omega
  have n1 : ¬ (m : Int) < 0 := by omega
  have hb : (m : Int) * (ti.bytes : Int) ≤ 281474976710656 := by
    rw [hi4]
    have h2 : ((m * bt : Nat) : Int) ≤ 140737488355328 := by omega
    rw [Int.natCast_mul] at h2
    omega
  have n2 : ¬ (281474976710656 < (m : Int) * (ti.bytes : Int)) := by omega
  have n3 : ¬ ((9223372036854775807 : Int) < (m : Int)) := by omega
  have n4 : ¬ (281474976710656 < Builtin.nextslicecap m 0 * ti.bytes) := by rw [nextslicecap_zero (by omega), hi4]; omega
  have n5 : ¬ m * Dat.sz α = 0 := by intro h; rcases Nat.mul_eq_zero.1 h with h | h <;> omega
  have ge := grownCap_ge w m 0 e
  have cm := grownCap_le_maxLen w m 0 e (by unfold maxLen; omega)
  have hrun : (execOp a.eval ⟨dst, .call { callee := .builtin .append, args := #[s, x], argTypes := #[t, u] }, ty, pos, aft, gd⟩).run P w =
      .ok (.value (.slice (some ⟨w.heap.size, 0, none⟩) m (grownCap w m 0 e))) (w.drew.alloc (.cells (Builtin.zeroCells z.cells m ++ Builtin.zeroCells z.cells (grownCap w m 0 e - m)) e)) := by
    simp [execOp, resolve, invoke, builtin, e1, e2, Builtin.append_, run_underlying S.h, run_underlying U.h, sizeOf, typeInfo, zeroValue, hi1, hi2, hi3, asInt, asIntOf, hw, n0, n1, n2, n3, n4, n5, Question.forced, Builtin.firstCells, newRow, grownCap]
  rw [hrun]
  generalize grownCap w m 0 e = gc at *
  refine ⟨(Grow.drawn (w.drawn + 1)).trans (Grow.push _ hB), .inr ⟨w.heap.size, gc, (Builtin.zeroCells z.cells m ++ Builtin.zeroCells z.cells (gc - m)).toList, hB, by simp, ?_, ?_, by simpa using ge, cm, by simp; unfold most; omega, fun j hj => ?_⟩⟩
  · generalize Builtin.zeroCells z.cells m ++ Builtin.zeroCells z.cells (gc - m) = q
    have := Blk.new (w := w.drew) (cs := q.toList) (e := e) rfl
    rwa [Array.toArray_toList] at this
  · simp only [Array.length_toList, Array.size_append, size_zeroCells, hzl, ← Nat.add_mul]; congr 1; omega
  · simp only [List.length_replicate] at hj
    have hzc : (Dat.zc α).length = Dat.sz α := Dat.len (Dat.zrd (α := α) (A := fun _ => True) (w := w))
    have hle : j * Dat.sz α + Dat.sz α ≤ m * Dat.sz α := by rw [← Nat.succ_mul]; exact Nat.mul_le_mul_right _ (by omega)
    have e3 : seg (Builtin.zeroCells z.cells m ++ Builtin.zeroCells z.cells (gc - m)).toList (j * Dat.sz α) (Dat.sz α) = Dat.zc α := by
      rw [Array.toList_append, seg_left (by rw [Array.length_toList, size_zeroCells, hzl]; exact hle)]
      refine getD_ext (by rw [seg_length (by rw [Array.length_toList, size_zeroCells, hzl]; exact hle), hzc]) fun q hq => ?_
      rw [seg_length (by rw [Array.length_toList, size_zeroCells, hzl]; exact hle)] at hq
      rw [seg_getD hq]
      have h3 : j * Dat.sz α + q < m * Dat.sz α := by omega
      have h4 : (j * Dat.sz α + q) % Dat.sz α = q := by rw [Nat.mul_comm, Nat.mul_add_mod, Nat.mod_eq_of_lt hq]
      have h5 : (Builtin.zeroCells z.cells m).toList.getD (j * Dat.sz α + q) undef = z.cells[(j * Dat.sz α + q) % z.cells.size]! := by
        simp [Builtin.zeroCells, List.getD_eq_getElem?_getD, hzl, h3]
      rw [h5, hzl, h4, hi5, getElem!_pos _ _ (by simpa [hzc] using hq)]
      simp [List.getD_eq_getElem?_getD, hzc, hq]
    rw [e3, List.getElem_replicate]; exact Dat.zrd
/-- bytes of a constant text -/
theorem OpY.conv_slice_slice {x : Operand} {τ : Ty} {xs : List UInt8} [hs : Has Γ x τ] [ho : AsOwn τ UInt8 inferInstance B0 A xs] [S : TSl P t e] [E : TIn P e .u8] (hx : 0 < xs.length) :
    OpY P B0 Γ ⟨dst, .convert t t x, ty, pos, aft, gd⟩ (Own B0 A xs) := fun a w hB hl => by
  have h := ho.le _ _ (Has.ev (x := x) (τ := τ) (op := .convert t t x) (by simp [Op.operands]) hl)
  rcases h with ⟨e1, rfl⟩ | ⟨b, c, cs, hb, e1, g2, g3, g4, g5, g6, g7⟩
  · simp at hx
  obtain ⟨el, f, g2, gf⟩ := g2
  have hlt : b < w.heap.size := by
    rcases Nat.lt_or_ge b w.heap.size with h1 | h1
    · exact h1
    · rw [Array.getElem?_eq_none h1] at g2; cases g2
  have hrun : (execOp a.eval ⟨dst, .convert t t x, ty, pos, aft, gd⟩).run P w = .ok (.value (.slice (some ⟨b, 0, none⟩) xs.length c)) (w.freeze ⟨b, cs.length, none⟩ 1) := by
    have hs : w.shape? b = some (el, cs.length) := by simp [World.shape?, g2]
    simp [execOp, e1, convert, run_underlying S.h, run_underlying E.h, markStringish, hs]
  rw [hrun]
  have hother : ∀ k, k ≠ b → (w.freeze ⟨b, cs.length, none⟩ 1).heap[k]? = w.heap[k]? := fun k hk => by
    simp [World.freeze, Array.getElem?_modify, Ne.symm hk]
  have hself : ∃ f', (w.freeze ⟨b, cs.length, none⟩ 1).heap[b]? = some (.cells cs.toArray el f') ∧ cs.length ≤ f'.1 := by
    rcases gf with rfl | gf
    · exact ⟨_, by simp [World.freeze, Array.getElem?_modify, g2]; rfl, Nat.le_refl _⟩
    · by_cases hlh : f.1 = f.2
      · exact ⟨(cs.length, cs.length + 1), by simp [World.freeze, Array.getElem?_modify, g2, hlh], Nat.le_refl _⟩
      · exact ⟨(min f.1 cs.length, max f.2 (cs.length + 1)), by simp [World.freeze, Array.getElem?_modify, g2, hlh], by simp; omega⟩
  obtain ⟨f', hs1, hs2⟩ := hself
  have hg : Grow B0 w (w.freeze ⟨b, cs.length, none⟩ 1) := by
    refine ⟨rfl, rfl, rfl, by simp [World.freeze], fun k hk => hother k (by omega), fun k hk => ?_⟩
    by_cases hkb : k = b
    · subst hkb; rw [g2, hs1]; exact ⟨f', rfl, .inr ⟨by simpa using hs2, by simpa using gf⟩⟩
    · rw [hother k hkb]; exact SameCells.refl _
  exact ⟨hg, .inr ⟨b, c, cs, hb, rfl, ⟨el, f', hs1, .inr hs2⟩, g3, g4, g5, g6, g7.keep (Keep.grow (hg.mono (Nat.zero_le _)))⟩⟩
/-- a slice against nil -/
theorem OpY.eql_slice {x : Operand} {τ : Ty} {xs : List α} [Has Γ x τ] [hx : AsL τ α i A xs] [S : TSl P t e] :
    OpY P B0 Γ ⟨dst, .binOp .eql t x (.const (.slice none 0 0)) t, ty, pos, aft, gd⟩ (BE fun b => b = true → xs = []) :=
  OpY.val fun a w hl => by
    obtain ⟨cs, ⟨ad, c, h1, h2, h3, h3', h4⟩, h5⟩ := hx.le _ _ (Has.ev (x := x) (τ := τ) (op := .binOp .eql t x (.const (.slice none 0 0)) t) (by simp [Op.operands]) hl)
    subst h1
    have e1 : a.eval x = .slice ad xs.length c := h5
    refine ⟨.bool ad.isNone, ?_, ad.isNone, rfl, fun h => ?_⟩
    · have : (binOp .eql t (.slice ad xs.length c) (.slice none 0 0)).run P w = .ok (.bool ad.isNone) w := by
        exact Lib.run_eql_slice_nil w t e ad xs.length c 0 0 S.h
      simp only [execOp, e1, evC, eqGuard_at_slice, Sem.run_bind, Sem.run_pure, Result.andThen_ok, this]
    · cases ad with
      | some ad => simp at h
      | none =>
        apply List.eq_nil_of_length_eq_zero
        rcases Nat.eq_zero_or_pos xs.length with h0 | h0
        · exact h0
        · obtain ⟨b, off, e, _⟩ := h4 0 h0; cases e

section dv8
variable {x y : Operand} {τ σ : Ty} {u : TypeId} {m n : UInt8} [hsx : Has Γ x τ] [hx : AsU8 τ m] [hsy : Has Γ y σ] [hy : AsU8 σ n]
include hsx hx hsy hy
theorem OpY.quo8 (h : n ≠ 0) : OpY P B0 Γ ⟨dst, .binOp .quo t x y u, ty, pos, aft, gd⟩ (U8 (m / n)) :=
  OpY.val fun a w hl => ⟨.int .u8 (m / n).toNat, by
    obtain ⟨e1, e2⟩ := evU8 (m := m) (n := n) hl
    have h1 := natU8 (m / n)
    have h3 : n.toNat ≠ 0 := fun e => h (by rw [← UInt8.toNat_inj]; simpa using e)
    have h4 : ¬ ((n.toNat : Int) = 0) := by omega
    have e3 : IntKind.u8.wrap ((m.toNat : Int).tdiv (n.toNat : Int)) = ((m / n).toNat : Int) := by
      rw [wrapU8, Int.tdiv_eq_ediv_of_nonneg (by omega), ← Int.natCast_ediv, ← UInt8.toNat_div]; omega
    simp only [execOp, e1, e2, eqGuard_quo, binOp_quo, Op.intDiv, h4, if_false, e3, Sem.run_bind, Sem.run_pure, Result.andThen_ok], rfl⟩
theorem OpY.rem8 (h : n ≠ 0) : OpY P B0 Γ ⟨dst, .binOp .rem t x y u, ty, pos, aft, gd⟩ (U8 (m % n)) :=
  OpY.val fun a w hl => ⟨.int .u8 (m % n).toNat, by
    obtain ⟨e1, e2⟩ := evU8 (m := m) (n := n) hl
    have h3 : n.toNat ≠ 0 := fun e => h (by rw [← UInt8.toNat_inj]; simpa using e)
    have h4 : ¬ ((n.toNat : Int) = 0) := by omega
    have e3 : ((m.toNat : Int).tmod (n.toNat : Int)) = ((m % n).toNat : Int) := by
      rw [Int.tmod_eq_emod_of_nonneg (by omega), ← Int.natCast_emod, ← UInt8.toNat_mod]
    simp only [execOp, e1, e2, eqGuard_rem, binOp_rem, Op.intDiv, h4, if_false, e3, Sem.run_bind, Sem.run_pure, Result.andThen_ok], rfl⟩
end dv8

section dv16
variable {x y : Operand} {τ σ : Ty} {u : TypeId} {m n : UInt16} [hsx : Has Γ x τ] [hx : AsU16 τ m] [hsy : Has Γ y σ] [hy : AsU16 σ n]
include hsx hx hsy hy
theorem OpY.quo16 (h : n ≠ 0) : OpY P B0 Γ ⟨dst, .binOp .quo t x y u, ty, pos, aft, gd⟩ (U16 (m / n)) :=
  OpY.val fun a w hl => ⟨.int .u16 (m / n).toNat, by
    obtain ⟨e1, e2⟩ := evU16 (m := m) (n := n) hl
    have h1 := natU16 (m / n)
    have h3 : n.toNat ≠ 0 := fun e => h (by rw [← UInt16.toNat_inj]; simpa using e)
    have h4 : ¬ ((n.toNat : Int) = 0) := by omega
    have e3 : IntKind.u16.wrap ((m.toNat : Int).tdiv (n.toNat : Int)) = ((m / n).toNat : Int) := by
      rw [wrapU16, Int.tdiv_eq_ediv_of_nonneg (by omega), ← Int.natCast_ediv, ← UInt16.toNat_div]; omega
    simp only [execOp, e1, e2, eqGuard_quo, binOp_quo, Op.intDiv, h4, if_false, e3, Sem.run_bind, Sem.run_pure, Result.andThen_ok], rfl⟩
theorem OpY.rem16 (h : n ≠ 0) : OpY P B0 Γ ⟨dst, .binOp .rem t x y u, ty, pos, aft, gd⟩ (U16 (m % n)) :=
  OpY.val fun a w hl => ⟨.int .u16 (m % n).toNat, by
    obtain ⟨e1, e2⟩ := evU16 (m := m) (n := n) hl
    have h3 : n.toNat ≠ 0 := fun e => h (by rw [← UInt16.toNat_inj]; simpa using e)
    have h4 : ¬ ((n.toNat : Int) = 0) := by omega
    have e3 : ((m.toNat : Int).tmod (n.toNat : Int)) = ((m % n).toNat : Int) := by
      rw [Int.tmod_eq_emod_of_nonneg (by omega), ← Int.natCast_emod, ← UInt16.toNat_mod]
    simp only [execOp, e1, e2, eqGuard_rem, binOp_rem, Op.intDiv, h4, if_false, e3, Sem.run_bind, Sem.run_pure, Result.andThen_ok], rfl⟩
end dv16

section dv32
variable {x y : Operand} {τ σ : Ty} {u : TypeId} {m n : UInt32} [hsx : Has Γ x τ] [hx : AsU32 τ m] [hsy : Has Γ y σ] [hy : AsU32 σ n]
include hsx hx hsy hy
theorem OpY.quo32 (h : n ≠ 0) : OpY P B0 Γ ⟨dst, .binOp .quo t x y u, ty, pos, aft, gd⟩ (U32 (m / n)) :=
  OpY.val fun a w hl => ⟨.int .u32 (m / n).toNat, by
    obtain ⟨e1, e2⟩ := evU32 (m := m) (n := n) hl
    have h1 := natU32 (m / n)
    have h3 : n.toNat ≠ 0 := fun e => h (by rw [← UInt32.toNat_inj]; simpa using e)
    have h4 : ¬ ((n.toNat : Int) = 0) := by omega
    have e3 : IntKind.u32.wrap ((m.toNat : Int).tdiv (n.toNat : Int)) = ((m / n).toNat : Int) := by
      rw [wrapU32, Int.tdiv_eq_ediv_of_nonneg (by omega), ← Int.natCast_ediv, ← UInt32.toNat_div]; omega
    simp only [execOp, e1, e2, eqGuard_quo, binOp_quo, Op.intDiv, h4, if_false, e3, Sem.run_bind, Sem.run_pure, Result.andThen_ok], rfl⟩
theorem OpY.rem32 (h : n ≠ 0) : OpY P B0 Γ ⟨dst, .binOp .rem t x y u, ty, pos, aft, gd⟩ (U32 (m % n)) :=
  OpY.val fun a w hl => ⟨.int .u32 (m % n).toNat, by
    obtain ⟨e1, e2⟩ := evU32 (m := m) (n := n) hl
    have h3 : n.toNat ≠ 0 := fun e => h (by rw [← UInt32.toNat_inj]; simpa using e)
    have h4 : ¬ ((n.toNat : Int) = 0) := by omega
    have e3 : ((m.toNat : Int).tmod (n.toNat : Int)) = ((m % n).toNat : Int) := by
      rw [Int.tmod_eq_emod_of_nonneg (by omega), ← Int.natCast_emod, ← UInt32.toNat_mod]
    simp only [execOp, e1, e2, eqGuard_rem, binOp_rem, Op.intDiv, h4, if_false, e3, Sem.run_bind, Sem.run_pure, Result.andThen_ok], rfl⟩
end dv32

section dv64
variable {x y : Operand} {τ σ : Ty} {u : TypeId} {m n : UInt64} [hsx : Has Γ x τ] [hx : AsU64 τ m] [hsy : Has Γ y σ] [hy : AsU64 σ n]
include hsx hx hsy hy
theorem OpY.quo64 (h : n ≠ 0) : OpY P B0 Γ ⟨dst, .binOp .quo t x y u, ty, pos, aft, gd⟩ (U64 (m / n)) :=
  OpY.val fun a w hl => ⟨.int .u64 (m / n).toNat, by
    obtain ⟨e1, e2⟩ := evU64 (m := m) (n := n) hl
    have h1 := natU64 (m / n)
    have h3 : n.toNat ≠ 0 := fun e => h (by rw [← UInt64.toNat_inj]; simpa using e)
    have h4 : ¬ ((n.toNat : Int) = 0) := by omega
    have e3 : IntKind.u64.wrap ((m.toNat : Int).tdiv (n.toNat : Int)) = ((m / n).toNat : Int) := by
      rw [wrapU64, Int.tdiv_eq_ediv_of_nonneg (by omega), ← Int.natCast_ediv, ← UInt64.toNat_div]; omega
    simp only [execOp, e1, e2, eqGuard_quo, binOp_quo, Op.intDiv, h4, if_false, e3, Sem.run_bind, Sem.run_pure, Result.andThen_ok], rfl⟩
theorem OpY.rem64 (h : n ≠ 0) : OpY P B0 Γ ⟨dst, .binOp .rem t x y u, ty, pos, aft, gd⟩ (U64 (m % n)) :=
  OpY.val fun a w hl => ⟨.int .u64 (m % n).toNat, by
    obtain ⟨e1, e2⟩ := evU64 (m := m) (n := n) hl
    have h3 : n.toNat ≠ 0 := fun e => h (by rw [← UInt64.toNat_inj]; simpa using e)
    have h4 : ¬ ((n.toNat : Int) = 0) := by omega
    have e3 : ((m.toNat : Int).tmod (n.toNat : Int)) = ((m % n).toNat : Int) := by
      rw [Int.tmod_eq_emod_of_nonneg (by omega), ← Int.natCast_emod, ← UInt64.toNat_mod]
    simp only [execOp, e1, e2, eqGuard_rem, binOp_rem, Op.intDiv, h4, if_false, e3, Sem.run_bind, Sem.run_pure, Result.andThen_ok], rfl⟩
end dv64
end ops
end Go.Proofs.Ytkohjmiipameeaa.Tr
