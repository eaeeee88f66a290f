/- Opening, reading and writing what a call owns; texts; lesser operations. Conditions: none. -/
import Derived.Test.YtkohjmiipameeaaOwn3
import Derived.Laws.BytesString
import Derived.Laws.Strings
namespace Go.Proofs.Ytkohjmiipameeaa.Tr
open Go Go.RowKit
set_option linter.unusedVariables false
set_option linter.unnecessarySimpa false

section opens
variable {P : Program} {w0 : World} {n : Nat} {Γ : Env} {Q : Exit → Act → World → Prop} {c : Code} {α : Type} {i : Dat α}

theorem TC.open (s : Tmp) {τ : Ty} {B : Nat} {A : Nat → Prop} {xs : List α} [h : Has Γ (.tmp s) τ] [o : AsOwn τ α i B A xs] (k : ∀ b, B ≤ b → TC P w0 n (Γ.set s (OwnB b A xs)) c Q) : TC P w0 n Γ c Q := fun a w hw ha => by
  obtain ⟨b, hb, h1⟩ := Own.open (o.le _ _ (h.at w _ (ha.2.2 s)))
  refine k b hb a w hw ⟨ha.1, ha.2.1, fun t => ?_⟩
  unfold Env.set
  split
  · rename_i e; subst e; exact h1
  · exact ha.2.2 t
end opens

instance {S A : Nat → Prop} {α : Type} [Dat α] {b : Nat} {x : List α} [h : Avoid (One b) S] [k : Avoid (But A b) S] : Surv S (OwnB b A x) (OwnB b A x) := ⟨fun m hx => by
  rcases hx with hx | ⟨c, cs, h2, h3, h4, h5, h6, h7, h8⟩
  · exact .inl hx
  · exact .inr ⟨c, cs, h2, h3.keep (m.keep h.h) rfl, h4, h5, h6, h7, h8.keep (m.keep k.h)⟩⟩

section ops
variable {P : Program} {B0 : Nat} {Γ : Env} {dst : Option Tmp} {ty : TypeId} {pos : String} {aft : Array Edge} {gd : Option (Nat × Bool)}
variable {α : Type} {i : Dat α} {t e : TypeId} {A : Nat → Prop}

/-- the place of an element of a slice of the call's own -/
theorem OpY.indexOwn [S : TSl P t e] [T : TDat P e α i] {x y : Operand} {σ : Ty} {b : Nat} {xs : List α} {k : Int} [Has Γ x (OwnB b A xs)] [Has Γ y σ] [hy : AsI σ k] (h0 : 0 ≤ k) (h1 : k < xs.length) :
    OpY P B0 Γ ⟨dst, .indexAddr t x y, ty, pos, aft, gd⟩ (Ex (.pointer (some ⟨b, k.toNat * Dat.sz α, none⟩))) :=
  OpY.val fun a w hl => by
    have h2 := Has.ev (x := x) (τ := OwnB b A xs) (op := .indexAddr t x y) (by simp [Op.operands]) hl
    have e2 : a.eval y = .int .i64 k := hy.le _ _ (Has.ev (x := y) (τ := σ) (op := .indexAddr t x y) (by simp [Op.operands]) hl)
    rcases h2 with ⟨_, h2⟩ | ⟨c, cs, e1, _⟩
    · subst h2; simp at h1; omega
    · refine ⟨_, ?_, rfl⟩
      have hin : 0 ≤ k ∧ k < (xs.length : Int) := ⟨h0, h1⟩
      simp only [execOp, e1, e2, Instr.indexAt, asIntOf, Sem.run_bind, Sem.run_pure, Result.andThen_ok, run_underlying S.h, hin, and_self, if_true, T.sz, addr_add, Nat.zero_add]

/-! texts -/
theorem push_toArray (l : List UInt8) (x : UInt8) : (ByteArray.mk l.toArray).push x = ⟨(l ++ [x]).toArray⟩ := by
  simp [ByteArray.push]
theorem fold_push : ∀ (ns l : List UInt8), (ns.map fun x : UInt8 => (x.toNat : Int)).foldl (fun (r : ByteArray) n => r.push (UInt8.ofNat n.toNat)) ⟨l.toArray⟩ = ⟨(l ++ ns).toArray⟩
  | [], l => by simp
  | x :: ns, l => by
    simp only [List.map_cons, List.foldl_cons]
    rw [show UInt8.ofNat ((x.toNat : Int)).toNat = x by simp, push_toArray, fold_push ns (l ++ [x])]
    simp

theorem OpY.conv_slice_string {s d : TypeId} [S : TSl P s e] [E : TIn P e .u8] [T : TStr P d] {x : Operand} {τ : Ty} {xs : List UInt8} [Has Γ x τ] [hx : AsL τ UInt8 inferInstance A xs] :
    OpY P B0 Γ ⟨dst, .convert s d x, ty, pos, aft, gd⟩ (Str xs) :=
  OpY.val fun a w hl => by
    obtain ⟨cs, ⟨ad, c, h1, h2, h3, h3', h4⟩, h5⟩ := hx.le _ _ (Has.ev (x := x) (τ := τ) (op := .convert s d x) (by simp [Op.operands]) hl)
    subst h1
    have e1 : a.eval x = .slice ad xs.length c := h5
    refine ⟨.string ⟨xs.toArray⟩, ?_, rfl⟩
    simp only [execOp, e1, Sem.run_bind, run_convert_bytes_string w s d e ad xs.length c S.h E.h T.h]
    have : (Conv.bytesToString (.slice ad xs.length c)).run P w = .ok (.string ⟨xs.toArray⟩) w := by
      rcases Nat.eq_zero_or_pos xs.length with h0 | h0
      · have hx0 : xs = [] := List.eq_nil_of_length_eq_zero h0
        subst hx0
        cases ad with
        | none => simp [Conv.bytesToString]; rfl
        | some ad => 
          have := run_bytesToString (P := P) w ad 0 c [] (by simp [loadCells, loadCellsFrom])
          simp only [List.foldl_nil] at this
          exact this
      · obtain ⟨b, off, news, rfl, _, hl', hr, he⟩ := h4.flat h0
        have hn : news = xs.map fun x => Value.int .u8 (x.toNat : Int) := by
          have hsz : Dat.sz UInt8 = 1 := rfl
          refine getD_ext (by rw [hl', hsz]; simp) fun j hj => ?_
          rw [hl', hsz] at hj
          have h6 := he j (by omega)
          have h6 : seg news (j * 1) 1 = [.int .u8 (xs[j]'(by omega)).toNat] := h6
          have h7 := seg_getD (cs := news) (o := j * 1) (n := 1) (j := 0) (by omega)
          rw [h6] at h7
          simp only [Nat.mul_one, Nat.add_zero] at h7
          rw [← h7]
          simp [List.getD_eq_getElem?_getD, List.getElem?_eq_getElem (show j < xs.length by omega)]
        have h8 := run_loadCells (P := P) hr
        rw [hl', show Dat.sz UInt8 = 1 from rfl, Nat.mul_one, hn] at h8
        have h9 := run_bytesToString (P := P) w ⟨b, off, none⟩ xs.length c (xs.map fun x : UInt8 => (x.toNat : Int)) (by rw [h8]; simp [List.map_map, Function.comp_def])
        rw [h9]
        have := fold_push xs []
        simp only [List.nil_append] at this
        rw [← this]; rfl
    rw [this]; rfl

theorem str_beq (l m : List UInt8) : ((ByteArray.mk l.toArray).toList == (ByteArray.mk m.toArray).toList) = decide (l = m) := by
  have h : ∀ l : List UInt8, (ByteArray.mk l.toArray).toList = l := fun l => by
    rw [ByteArray.toList_eq]
  rw [h, h]
  rw [Bool.eq_iff_iff]; simp

theorem OpY.eql_string {x y : Operand} {τ σ : Ty} {u : TypeId} {l m : List UInt8} [Has Γ x τ] [hx : AsStr τ l] [Has Γ y σ] [hy : AsStr σ m] :
    OpY P B0 Γ ⟨dst, .binOp .eql t x y u, ty, pos, aft, gd⟩ (B (decide (l = m))) :=
  OpY.val fun a w hl => ⟨.bool (decide (l = m)), by
    have e1 : a.eval x = .string ⟨l.toArray⟩ := hx.le _ _ (Has.ev (x := x) (τ := τ) (op := .binOp .eql t x y u) (by simp [Op.operands]) hl)
    have e2 : a.eval y = .string ⟨m.toArray⟩ := hy.le _ _ (Has.ev (x := y) (τ := σ) (op := .binOp .eql t x y u) (by simp [Op.operands]) hl)
    simp only [execOp, e1, e2, eqGuard_at_string, binOp_string_eql, str_beq, Sem.run_bind, Sem.run_pure, Result.andThen_ok], rfl⟩
theorem OpY.neq_string {x y : Operand} {τ σ : Ty} {u : TypeId} {l m : List UInt8} [Has Γ x τ] [hx : AsStr τ l] [Has Γ y σ] [hy : AsStr σ m] :
    OpY P B0 Γ ⟨dst, .binOp .neq t x y u, ty, pos, aft, gd⟩ (B (decide (l ≠ m))) :=
  OpY.val fun a w hl => ⟨.bool (decide (l ≠ m)), by
    have e1 : a.eval x = .string ⟨l.toArray⟩ := hx.le _ _ (Has.ev (x := x) (τ := τ) (op := .binOp .neq t x y u) (by simp [Op.operands]) hl)
    have e2 : a.eval y = .string ⟨m.toArray⟩ := hy.le _ _ (Has.ev (x := y) (τ := σ) (op := .binOp .neq t x y u) (by simp [Op.operands]) hl)
    simp only [execOp, e1, e2, eqGuard_at_string, binOp_string_neq, str_beq, Sem.run_bind, Sem.run_pure, Result.andThen_ok, decide_not], rfl⟩
/-- a slice against nil: known not to be nil, or empty -/
theorem OpY.minI {x y : Operand} {τ σ : Ty} {ts : Array TypeId} {m k : Int} [Has Γ x τ] [hx : AsI τ m] [Has Γ y σ] [hy : AsI σ k] :
    OpY P B0 Γ ⟨dst, .call { callee := .builtin .min, args := #[x, y], argTypes := ts }, ty, pos, aft, gd⟩ (I (min m k)) :=
  OpY.val fun a w hl => ⟨.int .i64 (min m k), by
    have e1 : a.eval x = .int .i64 m := hx.le _ _ (Has.ev (x := x) (τ := τ) (op := .call { callee := .builtin .min, args := #[x, y], argTypes := ts }) (by simp [Op.operands, Call.operands]) hl)
    have e2 : a.eval y = .int .i64 k := hy.le _ _ (Has.ev (x := y) (τ := σ) (op := .call { callee := .builtin .min, args := #[x, y], argTypes := ts }) (by simp [Op.operands, Call.operands]) hl)
    have e3 : (if k < m then k else m) = min m k := by split <;> omega
    simp [execOp, resolve, invoke, builtin, e1, e2, Builtin.min_, Builtin.min2, e3], rfl⟩
theorem OpY.maxI {x y : Operand} {τ σ : Ty} {ts : Array TypeId} {m k : Int} [Has Γ x τ] [hx : AsI τ m] [Has Γ y σ] [hy : AsI σ k] :
    OpY P B0 Γ ⟨dst, .call { callee := .builtin .max, args := #[x, y], argTypes := ts }, ty, pos, aft, gd⟩ (I (max m k)) :=
  OpY.val fun a w hl => ⟨.int .i64 (max m k), by
    have e1 : a.eval x = .int .i64 m := hx.le _ _ (Has.ev (x := x) (τ := τ) (op := .call { callee := .builtin .max, args := #[x, y], argTypes := ts }) (by simp [Op.operands, Call.operands]) hl)
    have e2 : a.eval y = .int .i64 k := hy.le _ _ (Has.ev (x := y) (τ := σ) (op := .call { callee := .builtin .max, args := #[x, y], argTypes := ts }) (by simp [Op.operands, Call.operands]) hl)
    have e3 : (if k > m then k else m) = max m k := by split <;> omega
    simp [execOp, resolve, invoke, builtin, e1, e2, Builtin.max_, Builtin.max2, e3], rfl⟩
end ops

section ts
variable {P : Program} {w0 : World} {n : Nat} {ops : Array Oper} {k : Nat} {Γ Δ : Env} {Q : Exit → Act → World → Prop}
variable {α : Type} {i : Dat α} {t : TypeId} {A : Nat → Prop}

theorem run_storeVar {w : World} {b o : Nat} {cs : List Value} {v : Value} {y : α} {A' : Nat → Prop} [T : TDat P t α i] (hb : Blk w b cs) (hl : o + Dat.sz α ≤ cs.length) (hy : (D A' y).p w v) :
    ∃ w' ds, (storeVar t ⟨b, o, none⟩ v).run P w = .ok () w' ∧ Dat.rd A' w ds y ∧ Blk w' b (setSeg cs o ds) ∧ Mut (One b) w w' ∧ w'.heap.size = w.heap.size := by
  obtain ⟨ds, e1, r1⟩ := D_cells hy
  have l1 := Dat.len r1
  obtain ⟨w', h1, h2, h3, h4⟩ := run_storeCells' (P := P) hb (by rw [l1]; exact hl) (Dat.scal r1)
  refine ⟨w', ds, ?_, r1, h2, h3, h4⟩
  unfold storeVar
  rw [Sem.run_bind, T.sz]
  simp only [Result.andThen_ok, e1, List.size_toArray, l1, ne_eq, not_true, if_false]
  exact h1

/-- a store into an element of a slice of the call's own -/
theorem TS.store [T : TDat P t α i] (s : Tmp) {b j : Nat} {xs : List α} {y : α} {p x : Operand} {σ : Ty} {ty : TypeId} {pos : String} {aft : Array Edge} {rest : List Oper} [hs : Has Γ (.tmp s) (OwnB b A xs)] [hp : Has Γ p (Ex (.pointer (some ⟨b, j * Dat.sz α, none⟩)))] [hx : Has Γ x σ] [hy : ToD σ α i (But A b) y]
    [sv : Survs (One b) Γ Δ] (hb : w0.heap.size ≤ b) (hj : j < xs.length) (hn : Nat.blt s n = true)
    (hk : TS P w0 n ops rest (k + 1) (Δ.set s (OwnB b A (xs.set j y))) Q) : TS P w0 n ops (⟨none, .store t p x, ty, pos, aft, none⟩ :: rest) k Γ Q :=
  TS.m rfl (fun a w hw ha => by
    have e1 : a.eval p = .pointer (some ⟨b, j * Dat.sz α, none⟩) := hp.le a w fun t _ => ha.2.2 t
    have h2 := hy.le _ _ (hx.le a w fun t _ => ha.2.2 t)
    rcases hs.at w _ (ha.2.2 s) with ⟨_, h3⟩ | ⟨c, cs, g1, g2, g3, g4, g5, g6, g7⟩
    · subst h3; simp at hj
    have hfit : j * Dat.sz α + Dat.sz α ≤ cs.length := by rw [g3, ← Nat.succ_mul]; exact Nat.mul_le_mul_right _ (by omega)
    obtain ⟨w', ds, r1, r2, r3, r4, r5⟩ := run_storeVar (P := P) (t := t) g2 hfit h2
    have l2 := Dat.len r2
    have k1 : Keep (But A b) (But A b) w w' := r4.keep fun k h => by unfold One; exact h.2
    refine ⟨undef, w', .inr ⟨by simp only [execOp, Instr.storeAt, e1, Instr.sureAddr, Sem.run_bind, Sem.run_pure, Result.andThen_ok, r1], rfl⟩, Mut.grow hw r4 (fun k h => by unfold One at h; omega), ?_⟩
    have h5 := ha.mut (Δ := Δ) r4
    refine ⟨h5.1, h5.2.1, fun u => ?_⟩
    unfold Env.set
    split
    · rename_i e; subst e
      refine .inr ⟨c, _, by simpa [Act.put] using g1, r3, by rw [setSeg_length (by omega)]; exact g3, by simpa using g4, g5, by simpa using g6, fun q hq => ?_⟩
      simp only [List.length_set] at hq
      by_cases hqj : q = j
      · subst hqj
        have e9 := seg_setSeg_same (cs := cs) (o := q * Dat.sz α) (vs := ds) (by omega)
        rw [l2] at e9
        rw [e9, List.getElem_set_self]
        exact Dat.mono k1 r2
      · rw [seg_setSeg_other (by omega) (by rw [g3, ← Nat.succ_mul]; exact Nat.mul_le_mul_right _ (by omega)) ?_, List.getElem_set_ne (fun h => hqj h.symm)]
        · exact Dat.mono k1 (g7 q hq)
        · rcases Nat.lt_or_ge q j with h6 | h6
          · left; rw [← Nat.succ_mul]; exact Nat.mul_le_mul_right _ (by omega)
          · right; rw [l2, ← Nat.succ_mul]; exact Nat.mul_le_mul_right _ (by omega)
    · exact h5.2.2 u) hk
end ts
end Go.Proofs.Ytkohjmiipameeaa.Tr
