/- More operations that write nothing: texts, comparisons, divisions. Conditions: none. -/
import Derived.Test.YtfdmajkeihdhnaaEnt
import Derived.WalkSpells
import Derived.Laws.Small
namespace Go.Proofs.Ytfdmajkeihdhnaa.Tr
open Go Go.RowKit
set_option linter.unusedVariables false
set_option linter.unnecessarySimpa false

/-- all the cells of a slice -/
theorem elemsAt.flat {α : Type} [Dat α] {A : Nat → Prop} {w : World} {a : Option Addr} {xs : List α} (h : elemsAt A w a xs) (hx : 0 < xs.length) :
    ∃ b off news, a = some ⟨b, off, none⟩ ∧ A b ∧ news.length = xs.length * Dat.sz α ∧ rowAt w b off news ∧ elemsIn A w news xs := by
  obtain ⟨b, off, rfl, hb, -⟩ := h 0 hx
  have hs := Dat.pos (α := α)
  have hcell : ∀ j, j < xs.length * Dat.sz α → w.cell? ⟨b, off + j, none⟩ = some ((w.cell? ⟨b, off + j, none⟩).getD undef) := fun j hj => by
    have hi : j / Dat.sz α < xs.length := Nat.div_lt_of_lt_mul (by rw [Nat.mul_comm]; exact hj)
    obtain ⟨b', off', he, _, es, h3, h4⟩ := h _ hi
    injection he with he; injection he with e1 e2; subst e1; subst e2
    have := h3 (j % Dat.sz α) (by rw [Dat.len h4]; exact Nat.mod_lt _ hs)
    rw [Nat.add_assoc, Nat.mul_comm, Nat.div_add_mod] at this
    rw [this]; rfl
  refine ⟨b, off, (List.range (xs.length * Dat.sz α)).map fun j => (w.cell? ⟨b, off + j, none⟩).getD undef, rfl, hb, by simp, fun j hj => ?_, fun i hi => ?_⟩
  · simp only [List.length_map, List.length_range] at hj
    rw [hcell j hj]
    simp [List.getD_eq_getElem?_getD, hj]
  · obtain ⟨b', off', he, _, es, h3, h4⟩ := h i hi
    injection he with he; injection he with e1 e2; subst e1; subst e2
    have hle : i * Dat.sz α + Dat.sz α ≤ xs.length * Dat.sz α := by rw [← Nat.succ_mul]; exact Nat.mul_le_mul_right _ (by omega)
    have : seg ((List.range (xs.length * Dat.sz α)).map fun j => (w.cell? ⟨b, off + j, none⟩).getD undef) (i * Dat.sz α) (Dat.sz α) = es := by
      refine getD_ext (by rw [seg_length (by simpa using hle), Dat.len h4]) fun j hj => ?_
      rw [seg_length (by simpa using hle)] at hj
      rw [seg_getD hj]
      have h5 := h3 j (by rw [Dat.len h4]; exact hj)
      rw [Nat.add_assoc] at h5
      simp [List.getD_eq_getElem?_getD, show i * Dat.sz α + j < xs.length * Dat.sz α by omega, h5]
    rw [this]; exact h4


section ops
variable {P : Program} {B0 : Nat} {A : Nat → Prop} {Ω : List Pe} {Γ : Env} {dst : Option Tmp} {ty : TypeId} {pos : String} {aft : Array Edge} {gd : Option (Nat × Bool)}
variable {α : Type} {i : Dat α} {t e : TypeId}
/-! texts -/
theorem push_toArray (l : List UInt8) (x : UInt8) : (ByteArray.mk l.toArray).push x = ⟨(l ++ [x]).toArray⟩ := by
  simp [ByteArray.push]
theorem fold_push : ∀ (ns l : List UInt8), (ns.map fun x : UInt8 => (x.toNat : Int)).foldl (fun (r : ByteArray) n => r.push (UInt8.ofNat n.toNat)) ⟨l.toArray⟩ = ⟨(l ++ ns).toArray⟩
  | [], l => by simp
  | x :: ns, l => by
    simp only [List.map_cons, List.foldl_cons]
    rw [show UInt8.ofNat ((x.toNat : Int)).toNat = x by simp, push_toArray, fold_push ns (l ++ [x])]
    simp

theorem OpY.conv_slice_string {s d : TypeId} [S : TSl P s e] [E : TIn P e .u8] [T : TStr P d] {x : Operand} {τ : Ty} {xs : List UInt8} [Has Γ x τ] [hx : AsL τ UInt8 inferInstance xs] :
    OpY P B0 A Ω Γ ⟨dst, .convert s d x, ty, pos, aft, gd⟩ (Str xs) :=
  OpY.val fun a w hl => by
    obtain ⟨cs, ⟨ad, c, h1, h2, h3, h3', h4⟩, h5⟩ := hx.le _ _ _ (Has.ev (x := x) (τ := τ) (op := .convert s d x) (by simp [Op.operands]) hl)
    subst h1
    have e1 : a.eval x = .slice ad xs.length c := h5
    refine ⟨.string ⟨xs.toArray⟩, ?_, rfl⟩
    simp only [execOp, e1, Sem.run_bind, run_convert_bytes_string w s d e ad xs.length c S.h E.h T.h]
    have : (Conv.bytesToString (.slice ad xs.length c)).run P w = .ok (.string ⟨xs.toArray⟩) w := by
      rcases Nat.eq_zero_or_pos xs.length with h0 | h0
      · have hx0 : xs = [] := List.eq_nil_of_length_eq_zero h0
        subst hx0
        cases ad with
        | none => simp [Conv.bytesToString]; rfl
        | some ad => 
          have := run_bytesToString (P := P) w ad 0 c [] (by simp [loadCells, loadCellsFrom])
          simp only [List.foldl_nil] at this
          exact this
      · obtain ⟨b, off, news, rfl, _, hl', hr, he⟩ := h4.flat h0
        have hn : news = xs.map fun x => Value.int .u8 (x.toNat : Int) := by
          have hsz : Dat.sz UInt8 = 1 := rfl
          refine getD_ext (by rw [hl', hsz]; simp) fun j hj => ?_
          rw [hl', hsz] at hj
          have h6 := he j (by omega)
          have h6 : seg news (j * 1) 1 = [.int .u8 (xs[j]'(by omega)).toNat] := h6
          have h7 := seg_getD (cs := news) (o := j * 1) (n := 1) (j := 0) (by omega)
          rw [h6] at h7
          simp only [Nat.mul_one, Nat.add_zero] at h7
          rw [← h7]
          simp [List.getD_eq_getElem?_getD, List.getElem?_eq_getElem (show j < xs.length by omega)]
        have h8 := run_loadCells (P := P) hr
        rw [hl', show Dat.sz UInt8 = 1 from rfl, Nat.mul_one, hn] at h8
        have h9 := run_bytesToString (P := P) w ⟨b, off, none⟩ xs.length c (xs.map fun x : UInt8 => (x.toNat : Int)) (by rw [h8]; simp [List.map_map, Function.comp_def])
        rw [h9]
        have := fold_push xs []
        simp only [List.nil_append] at this
        rw [← this]; rfl
    rw [this]; rfl

theorem str_beq (l m : List UInt8) : ((ByteArray.mk l.toArray).toList == (ByteArray.mk m.toArray).toList) = decide (l = m) := by
  have h : ∀ l : List UInt8, (ByteArray.mk l.toArray).toList = l := fun l => by
    rw [ByteArray.toList_eq]
  rw [h, h]
  rw [Bool.eq_iff_iff]; simp

theorem OpY.eql_string {x y : Operand} {τ σ : Ty} {u : TypeId} {l m : List UInt8} [Has Γ x τ] [hx : AsStr τ l] [Has Γ y σ] [hy : AsStr σ m] :
    OpY P B0 A Ω Γ ⟨dst, .binOp .eql t x y u, ty, pos, aft, gd⟩ (B (decide (l = m))) :=
  OpY.val fun a w hl => ⟨.bool (decide (l = m)), by
    have e1 : a.eval x = .string ⟨l.toArray⟩ := hx.le _ _ _ (Has.ev (x := x) (τ := τ) (op := .binOp .eql t x y u) (by simp [Op.operands]) hl)
    have e2 : a.eval y = .string ⟨m.toArray⟩ := hy.le _ _ _ (Has.ev (x := y) (τ := σ) (op := .binOp .eql t x y u) (by simp [Op.operands]) hl)
    simp only [execOp, e1, e2, eqGuard_at_string, binOp_string_eql, str_beq, Sem.run_bind, Sem.run_pure, Result.andThen_ok], rfl⟩
theorem OpY.neq_string {x y : Operand} {τ σ : Ty} {u : TypeId} {l m : List UInt8} [Has Γ x τ] [hx : AsStr τ l] [Has Γ y σ] [hy : AsStr σ m] :
    OpY P B0 A Ω Γ ⟨dst, .binOp .neq t x y u, ty, pos, aft, gd⟩ (B (decide (l ≠ m))) :=
  OpY.val fun a w hl => ⟨.bool (decide (l ≠ m)), by
    have e1 : a.eval x = .string ⟨l.toArray⟩ := hx.le _ _ _ (Has.ev (x := x) (τ := τ) (op := .binOp .neq t x y u) (by simp [Op.operands]) hl)
    have e2 : a.eval y = .string ⟨m.toArray⟩ := hy.le _ _ _ (Has.ev (x := y) (τ := σ) (op := .binOp .neq t x y u) (by simp [Op.operands]) hl)
    simp only [execOp, e1, e2, eqGuard_at_string, binOp_string_neq, str_beq, Sem.run_bind, Sem.run_pure, Result.andThen_ok, decide_not], rfl⟩
/-- a slice against nil: known not to be nil, or empty -/
theorem OpY.minI {x y : Operand} {τ σ : Ty} {ts : Array TypeId} {m k : Int} [Has Γ x τ] [hx : AsI τ m] [Has Γ y σ] [hy : AsI σ k] :
    OpY P B0 A Ω Γ ⟨dst, .call { callee := .builtin .min, args := #[x, y], argTypes := ts }, ty, pos, aft, gd⟩ (I (min m k)) :=
  OpY.val fun a w hl => ⟨.int .i64 (min m k), by
    have e1 : a.eval x = .int .i64 m := hx.le _ _ _ (Has.ev (x := x) (τ := τ) (op := .call { callee := .builtin .min, args := #[x, y], argTypes := ts }) (by simp [Op.operands, Call.operands]) hl)
    have e2 : a.eval y = .int .i64 k := hy.le _ _ _ (Has.ev (x := y) (τ := σ) (op := .call { callee := .builtin .min, args := #[x, y], argTypes := ts }) (by simp [Op.operands, Call.operands]) hl)
    have e3 : (if k < m then k else m) = min m k := by split <;> omega
    simp [execOp, resolve, invoke, builtin, e1, e2, Builtin.min_, Builtin.min2, e3], rfl⟩
theorem OpY.maxI {x y : Operand} {τ σ : Ty} {ts : Array TypeId} {m k : Int} [Has Γ x τ] [hx : AsI τ m] [Has Γ y σ] [hy : AsI σ k] :
    OpY P B0 A Ω Γ ⟨dst, .call { callee := .builtin .max, args := #[x, y], argTypes := ts }, ty, pos, aft, gd⟩ (I (max m k)) :=
  OpY.val fun a w hl => ⟨.int .i64 (max m k), by
    have e1 : a.eval x = .int .i64 m := hx.le _ _ _ (Has.ev (x := x) (τ := τ) (op := .call { callee := .builtin .max, args := #[x, y], argTypes := ts }) (by simp [Op.operands, Call.operands]) hl)
    have e2 : a.eval y = .int .i64 k := hy.le _ _ _ (Has.ev (x := y) (τ := σ) (op := .call { callee := .builtin .max, args := #[x, y], argTypes := ts }) (by simp [Op.operands, Call.operands]) hl)
    have e3 : (if k > m then k else m) = max m k := by split <;> omega
    simp [execOp, resolve, invoke, builtin, e1, e2, Builtin.max_, Builtin.max2, e3], rfl⟩
theorem OpY.capNil {x : Operand} [Has Γ x NilS] [S : TSl P t e] :
    OpY P B0 A Ω Γ ⟨dst, .call { callee := .builtin .cap, args := #[x], argTypes := #[t] }, ty, pos, aft, gd⟩ (I 0) :=
  OpY.val fun a w hl => by
    have e1 : a.eval x = .slice none 0 0 := Has.ev (x := x) (τ := NilS) (op := .call { callee := .builtin .cap, args := #[x], argTypes := #[t] }) (by simp [Op.operands, Call.operands]) hl
    exact ⟨.int .i64 0, by simp [execOp, resolve, invoke, builtin, e1, Builtin.cap_, run_underlying S.h, goInt], rfl⟩
/-- nil[:0] -/
theorem OpY.sliceNil {x z : Operand} {σ : Ty} [Has Γ x NilS] [Has Γ z σ] [hz : AsI σ 0] [S : TSl P t e] [T : TDat P e α i] : OpY P B0 A Ω Γ ⟨dst, .slice t x none (some z) none, ty, pos, aft, gd⟩ NilS :=
  OpY.val fun a w hl => by
    have e1 : a.eval x = .slice none 0 0 := Has.ev (x := x) (τ := NilS) (op := .slice t x none (some z) none) (by simp [Op.operands]) hl
    have e2 : a.eval z = .int .i64 0 := hz.le _ _ _ (Has.ev (x := z) (τ := σ) (op := .slice t x none (some z) none) (by simp [Op.operands]) hl)
    exact ⟨.slice none 0 0, by simp [execOp, e1, e2, Instr.sliceAt, Instr.slice, run_underlying S.h, Instr.sliceBounds, Instr.sliceBound, asIntOf, T.sz], rfl⟩
theorem OpY.eql_slice {x : Operand} {τ : Ty} {xs : List α} [Has Γ x τ] [hx : AsL τ α i xs] [S : TSl P t e] :
    OpY P B0 A Ω Γ ⟨dst, .binOp .eql t x (.const (.slice none 0 0)) t, ty, pos, aft, gd⟩ (BE fun b => b = true → xs = []) :=
  OpY.val fun a w hl => by
    obtain ⟨cs, ⟨ad, c, h1, h2, h3, h3', h4⟩, h5⟩ := hx.le _ _ _ (Has.ev (x := x) (τ := τ) (op := .binOp .eql t x (.const (.slice none 0 0)) t) (by simp [Op.operands]) hl)
    subst h1
    have e1 : a.eval x = .slice ad xs.length c := h5
    refine ⟨.bool ad.isNone, ?_, ad.isNone, rfl, fun h => ?_⟩
    · have : (binOp .eql t (.slice ad xs.length c) (.slice none 0 0)).run P w = .ok (.bool ad.isNone) w := by
        exact Lib.run_eql_slice_nil w t e ad xs.length c 0 0 S.h
      simp only [execOp, e1, evC, eqGuard_at_slice, Sem.run_bind, Sem.run_pure, Result.andThen_ok, this]
    · cases ad with
      | some ad => simp at h
      | none =>
        apply List.eq_nil_of_length_eq_zero
        rcases Nat.eq_zero_or_pos xs.length with h0 | h0
        · exact h0
        · obtain ⟨b, off, e, _⟩ := h4 0 h0; cases e

section dv8
variable {x y : Operand} {τ σ : Ty} {u : TypeId} {m n : UInt8} [hsx : Has Γ x τ] [hx : AsU8 τ m] [hsy : Has Γ y σ] [hy : AsU8 σ n]
include hsx hx hsy hy
theorem OpY.quo8 (h : n ≠ 0) : OpY P B0 A Ω Γ ⟨dst, .binOp .quo t x y u, ty, pos, aft, gd⟩ (U8 (m / n)) :=
  OpY.val fun a w hl => ⟨.int .u8 (m / n).toNat, by
    obtain ⟨e1, e2⟩ := evU8 (m := m) (n := n) hl
    have h1 := natU8 (m / n)
    have h3 : n.toNat ≠ 0 := fun e => h (by rw [← UInt8.toNat_inj]; simpa using e)
    have h4 : ¬ ((n.toNat : Int) = 0) := by omega
    have e3 : IntKind.u8.wrap ((m.toNat : Int).tdiv (n.toNat : Int)) = ((m / n).toNat : Int) := by
      rw [wrapU8, Int.tdiv_eq_ediv_of_nonneg (by omega), ← Int.natCast_ediv, ← UInt8.toNat_div]; omega
    simp only [execOp, e1, e2, eqGuard_quo, binOp_quo, Op.intDiv, h4, if_false, e3, Sem.run_bind, Sem.run_pure, Result.andThen_ok], rfl⟩
theorem OpY.rem8 (h : n ≠ 0) : OpY P B0 A Ω Γ ⟨dst, .binOp .rem t x y u, ty, pos, aft, gd⟩ (U8 (m % n)) :=
  OpY.val fun a w hl => ⟨.int .u8 (m % n).toNat, by
    obtain ⟨e1, e2⟩ := evU8 (m := m) (n := n) hl
    have h3 : n.toNat ≠ 0 := fun e => h (by rw [← UInt8.toNat_inj]; simpa using e)
    have h4 : ¬ ((n.toNat : Int) = 0) := by omega
    have e3 : ((m.toNat : Int).tmod (n.toNat : Int)) = ((m % n).toNat : Int) := by
      rw [Int.tmod_eq_emod_of_nonneg (by omega), ← Int.natCast_emod, ← UInt8.toNat_mod]
    simp only [execOp, e1, e2, eqGuard_rem, binOp_rem, Op.intDiv, h4, if_false, e3, Sem.run_bind, Sem.run_pure, Result.andThen_ok], rfl⟩
end dv8

section dv16
variable {x y : Operand} {τ σ : Ty} {u : TypeId} {m n : UInt16} [hsx : Has Γ x τ] [hx : AsU16 τ m] [hsy : Has Γ y σ] [hy : AsU16 σ n]
include hsx hx hsy hy
theorem OpY.quo16 (h : n ≠ 0) : OpY P B0 A Ω Γ ⟨dst, .binOp .quo t x y u, ty, pos, aft, gd⟩ (U16 (m / n)) :=
  OpY.val fun a w hl => ⟨.int .u16 (m / n).toNat, by
    obtain ⟨e1, e2⟩ := evU16 (m := m) (n := n) hl
    have h1 := natU16 (m / n)
    have h3 : n.toNat ≠ 0 := fun e => h (by rw [← UInt16.toNat_inj]; simpa using e)
    have h4 : ¬ ((n.toNat : Int) = 0) := by omega
    have e3 : IntKind.u16.wrap ((m.toNat : Int).tdiv (n.toNat : Int)) = ((m / n).toNat : Int) := by
      rw [wrapU16, Int.tdiv_eq_ediv_of_nonneg (by omega), ← Int.natCast_ediv, ← UInt16.toNat_div]; omega
    simp only [execOp, e1, e2, eqGuard_quo, binOp_quo, Op.intDiv, h4, if_false, e3, Sem.run_bind, Sem.run_pure, Result.andThen_ok], rfl⟩
theorem OpY.rem16 (h : n ≠ 0) : OpY P B0 A Ω Γ ⟨dst, .binOp .rem t x y u, ty, pos, aft, gd⟩ (U16 (m % n)) :=
  OpY.val fun a w hl => ⟨.int .u16 (m % n).toNat, by
    obtain ⟨e1, e2⟩ := evU16 (m := m) (n := n) hl
    have h3 : n.toNat ≠ 0 := fun e => h (by rw [← UInt16.toNat_inj]; simpa using e)
    have h4 : ¬ ((n.toNat : Int) = 0) := by omega
    have e3 : ((m.toNat : Int).tmod (n.toNat : Int)) = ((m % n).toNat : Int) := by
      rw [Int.tmod_eq_emod_of_nonneg (by omega), ← Int.natCast_emod, ← UInt16.toNat_mod]
    simp only [execOp, e1, e2, eqGuard_rem, binOp_rem, Op.intDiv, h4, if_false, e3, Sem.run_bind, Sem.run_pure, Result.andThen_ok], rfl⟩
end dv16

section dv32
variable {x y : Operand} {τ σ : Ty} {u : TypeId} {m n : UInt32} [hsx : Has Γ x τ] [hx : AsU32 τ m] [hsy : Has Γ y σ] [hy : AsU32 σ n]
include hsx hx hsy hy
theorem OpY.quo32 (h : n ≠ 0) : OpY P B0 A Ω Γ ⟨dst, .binOp .quo t x y u, ty, pos, aft, gd⟩ (U32 (m / n)) :=
  OpY.val fun a w hl => ⟨.int .u32 (m / n).toNat, by
    obtain ⟨e1, e2⟩ := evU32 (m := m) (n := n) hl
    have h1 := natU32 (m / n)
    have h3 : n.toNat ≠ 0 := fun e => h (by rw [← UInt32.toNat_inj]; simpa using e)
    have h4 : ¬ ((n.toNat : Int) = 0) := by omega
    have e3 : IntKind.u32.wrap ((m.toNat : Int).tdiv (n.toNat : Int)) = ((m / n).toNat : Int) := by
      rw [wrapU32, Int.tdiv_eq_ediv_of_nonneg (by omega), ← Int.natCast_ediv, ← UInt32.toNat_div]; omega
    simp only [execOp, e1, e2, eqGuard_quo, binOp_quo, Op.intDiv, h4, if_false, e3, Sem.run_bind, Sem.run_pure, Result.andThen_ok], rfl⟩
theorem OpY.rem32 (h : n ≠ 0) : OpY P B0 A Ω Γ ⟨dst, .binOp .rem t x y u, ty, pos, aft, gd⟩ (U32 (m % n)) :=
  OpY.val fun a w hl => ⟨.int .u32 (m % n).toNat, by
    obtain ⟨e1, e2⟩ := evU32 (m := m) (n := n) hl
    have h3 : n.toNat ≠ 0 := fun e => h (by rw [← UInt32.toNat_inj]; simpa using e)
    have h4 : ¬ ((n.toNat : Int) = 0) := by omega
    have e3 : ((m.toNat : Int).tmod (n.toNat : Int)) = ((m % n).toNat : Int) := by
      rw [Int.tmod_eq_emod_of_nonneg (by omega), ← Int.natCast_emod, ← UInt32.toNat_mod]
    simp only [execOp, e1, e2, eqGuard_rem, binOp_rem, Op.intDiv, h4, if_false, e3, Sem.run_bind, Sem.run_pure, Result.andThen_ok], rfl⟩
end dv32

section dv64
variable {x y : Operand} {τ σ : Ty} {u : TypeId} {m n : UInt64} [hsx : Has Γ x τ] [hx : AsU64 τ m] [hsy : Has Γ y σ] [hy : AsU64 σ n]
include hsx hx hsy hy
theorem OpY.quo64 (h : n ≠ 0) : OpY P B0 A Ω Γ ⟨dst, .binOp .quo t x y u, ty, pos, aft, gd⟩ (U64 (m / n)) :=
  OpY.val fun a w hl => ⟨.int .u64 (m / n).toNat, by
    obtain ⟨e1, e2⟩ := evU64 (m := m) (n := n) hl
    have h1 := natU64 (m / n)
    have h3 : n.toNat ≠ 0 := fun e => h (by rw [← UInt64.toNat_inj]; simpa using e)
    have h4 : ¬ ((n.toNat : Int) = 0) := by omega
    have e3 : IntKind.u64.wrap ((m.toNat : Int).tdiv (n.toNat : Int)) = ((m / n).toNat : Int) := by
      rw [wrapU64, Int.tdiv_eq_ediv_of_nonneg (by omega), ← Int.natCast_ediv, ← UInt64.toNat_div]; omega
    simp only [execOp, e1, e2, eqGuard_quo, binOp_quo, Op.intDiv, h4, if_false, e3, Sem.run_bind, Sem.run_pure, Result.andThen_ok], rfl⟩
theorem OpY.rem64 (h : n ≠ 0) : OpY P B0 A Ω Γ ⟨dst, .binOp .rem t x y u, ty, pos, aft, gd⟩ (U64 (m % n)) :=
  OpY.val fun a w hl => ⟨.int .u64 (m % n).toNat, by
    obtain ⟨e1, e2⟩ := evU64 (m := m) (n := n) hl
    have h3 : n.toNat ≠ 0 := fun e => h (by rw [← UInt64.toNat_inj]; simpa using e)
    have h4 : ¬ ((n.toNat : Int) = 0) := by omega
    have e3 : ((m.toNat : Int).tmod (n.toNat : Int)) = ((m % n).toNat : Int) := by
      rw [Int.tmod_eq_emod_of_nonneg (by omega), ← Int.natCast_emod, ← UInt64.toNat_mod]
    simp only [execOp, e1, e2, eqGuard_rem, binOp_rem, Op.intDiv, h4, if_false, e3, Sem.run_bind, Sem.run_pure, Result.andThen_ok], rfl⟩
end dv64
theorem OpY.eql_bool {x y : Operand} {τ σ : Ty} {u : TypeId} {l m : Bool} [Has Γ x τ] [hx : AsB τ l] [Has Γ y σ] [hy : AsB σ m] (hb : P.underlying t = some .bool) :
    OpY P B0 A Ω Γ ⟨dst, .binOp .eql t x y u, ty, pos, aft, gd⟩ (B (decide (l = m))) :=
  OpY.val fun a w hl => ⟨.bool (decide (l = m)), by
    have e1 : a.eval x = .bool l := hx.le _ _ _ (Has.ev (x := x) (τ := τ) (op := .binOp .eql t x y u) (by simp [Op.operands]) hl)
    have e2 : a.eval y = .bool m := hy.le _ _ _ (Has.ev (x := y) (τ := σ) (op := .binOp .eql t x y u) (by simp [Op.operands]) hl)
    have e3 : (l == m) = decide (l = m) := by rw [Bool.eq_iff_iff]; simp
    simp only [execOp, e1, e2, eqGuard_at_bool, run_eql_bool w t l m hb, e3, Sem.run_bind, Sem.run_pure, Result.andThen_ok], rfl⟩
theorem OpY.neq_bool {x y : Operand} {τ σ : Ty} {u : TypeId} {l m : Bool} [Has Γ x τ] [hx : AsB τ l] [Has Γ y σ] [hy : AsB σ m] (hb : P.underlying t = some .bool) :
    OpY P B0 A Ω Γ ⟨dst, .binOp .neq t x y u, ty, pos, aft, gd⟩ (B (decide (l ≠ m))) :=
  OpY.val fun a w hl => ⟨.bool (decide (l ≠ m)), by
    have e1 : a.eval x = .bool l := hx.le _ _ _ (Has.ev (x := x) (τ := τ) (op := .binOp .neq t x y u) (by simp [Op.operands]) hl)
    have e2 : a.eval y = .bool m := hy.le _ _ _ (Has.ev (x := y) (τ := σ) (op := .binOp .neq t x y u) (by simp [Op.operands]) hl)
    have e3 : (l == m) = decide (l = m) := by rw [Bool.eq_iff_iff]; simp
    simp only [execOp, e1, e2, eqGuard_at_bool, run_neq_bool w t l m hb, e3, decide_not, Sem.run_bind, Sem.run_pure, Result.andThen_ok], rfl⟩
end ops
end Go.Proofs.Ytfdmajkeihdhnaa.Tr
