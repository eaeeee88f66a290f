/- What the operations on memory, conversions and calls do to the slots' types. Conditions: none. -/
import Derived.Test.YtfdmajkeihdhnaaOp
namespace Go.Proofs.Ytfdmajkeihdhnaa.Tr
open Go Go.RowKit
set_option linter.unusedVariables false
set_option linter.unnecessarySimpa false

/-! ### what a program's tables say of a type -/
class TSl (P : Program) (t : TypeId) (e : outParam TypeId) : Prop where
  h : P.underlying t = some (.slice e)
class TIn (P : Program) (t : TypeId) (k : outParam IntKind) : Prop where
  h : P.underlying t = some (.int k)
class TStr (P : Program) (t : TypeId) : Prop where
  h : P.underlying t = some .string
/-- type t holds data of α -/
class TDat (P : Program) (t : TypeId) (α : outParam Type) (i : outParam (Dat α)) : Prop where
  ag : ∀ w, (isAgg t).run P w = .ok (Dat.agg α) w
  sz : ∀ w, (sizeOf t).run P w = .ok (Dat.sz α) w
/-- field f of type t: its type, and where it lies -/
class TFld (P : Program) (t : TypeId) (f : Nat) (u : outParam TypeId) (off : outParam Nat) : Prop where
  h : ∃ fs fl, P.underlying t = some (.struct fs) ∧ fs[f]? = some fl ∧ fl.type = u ∧ fl.offset = off

class AsD (τ : Ty) (α : outParam Type) (i : outParam (Dat α)) (x : outParam α) : Prop where
  le : τ.le (D x)
instance {α : Type} [i : Dat α] {x : α} : AsD (D x) α i x := ⟨Ty.le.refl _⟩
instance {p : Prop} {τ : Ty} {α : Type} {i : Dat α} {x : α} [h : Ft p] [k : AsD τ α i x] : AsD (Cond p τ) α i x := ⟨fun A w v y => k.le A w v (y.1 h.h)⟩
class AsL (τ : Ty) (α : outParam Type) (i : outParam (Dat α)) (x : outParam (List α)) : Prop where
  le : τ.le (D x)
instance {α : Type} [i : Dat α] {x : List α} : AsL (D x) α i x := ⟨Ty.le.refl _⟩
instance {p : Prop} {τ : Ty} {α : Type} {i : Dat α} {x : List α} [h : Ft p] [k : AsL τ α i x] : AsL (Cond p τ) α i x := ⟨fun A w v y => k.le A w v (y.1 h.h)⟩
class AsPtr (τ : Ty) (α : outParam Type) (i : outParam (Dat α)) (x : outParam α) : Prop where
  le : τ.le (PtrD x)
instance {α : Type} [i : Dat α] {x : α} : AsPtr (PtrD x) α i x := ⟨Ty.le.refl _⟩
instance {p : Prop} {τ : Ty} {α : Type} {i : Dat α} {x : α} [h : Ft p] [k : AsPtr τ α i x] : AsPtr (Cond p τ) α i x := ⟨fun A w v y => k.le A w v (y.1 h.h)⟩

theorem run_loadCellsFrom {P : Program} {w : World} {b off : Nat} (cs : List Value) : ∀ (k i : Nat) (acc : Array Value), i + k = cs.length → rowAt w b off cs →
    (loadCellsFrom ⟨b, off, none⟩ i k acc).run P w = .ok (acc ++ (cs.drop i).toArray) w
  | 0, i, acc, h, _ => by
    have : cs.drop i = [] := List.drop_eq_nil_of_le (by omega)
    simp [loadCellsFrom, this]
  | k + 1, i, acc, h, hr => by
    have hi : i < cs.length := by omega
    have hc := hr i hi
    have ha : Addr.add ⟨b, off, none⟩ i = ⟨b, off + i, none⟩ := by
      unfold Addr.add; split
      · subst_vars; rfl
      · rfl
    have hd : cs.drop i = cs.getD i undef :: cs.drop (i + 1) := by
      rw [List.drop_eq_getElem_cons hi, List.getD_eq_getElem?_getD, List.getElem?_eq_getElem hi]; rfl
    unfold loadCellsFrom
    rw [Sem.run_bind, ha, run_load, hc]
    simp only [Result.andThen_ok]
    rw [run_loadCellsFrom cs k (i + 1) _ (by omega) hr, hd]
    simp

theorem run_loadCells {P : Program} {w : World} {b off : Nat} {cs : List Value} (h : rowAt w b off cs) : (loadCells ⟨b, off, none⟩ cs.length).run P w = .ok cs.toArray w := by
  unfold loadCells
  rw [run_loadCellsFrom cs cs.length 0 #[] (by omega) h]
  simp

theorem run_loadVar {P : Program} {w : World} {t : TypeId} {α : Type} [i : Dat α] [T : TDat P t α i] {A : Nat → Prop} {b off : Nat} {cs : List Value} {x : α} (h : rowAt w b off cs) (hr : Dat.rd A w cs x) :
    (loadVar t ⟨b, off, none⟩).run P w = .ok (mkV α cs) w := by
  unfold loadVar mkV
  rw [Sem.run_bind, T.ag]
  simp only [Result.andThen_ok]
  cases ha : Dat.agg α with
  | true =>
    simp only [if_true]
    rw [Sem.run_bind, T.sz]
    simp only [Result.andThen_ok]
    rw [← Dat.len hr, Sem.run_bind, run_loadCells h]
    rfl
  | false =>
    simp only [Bool.false_eq_true, if_false]
    have hl : 0 < cs.length := by rw [Dat.len hr]; exact Dat.pos
    have := h 0 hl
    simp only [Nat.add_zero] at this
    rw [run_load, this]

section
variable {P : Program} {B0 : Nat} {A : Nat → Prop} {Ω : List Pe} {Γ : Env} {dst : Option Tmp} {ty : TypeId} {pos : String} {aft : Array Edge} {gd : Option (Nat × Bool)}

theorem OpY.load {t : TypeId} {x : Operand} {τ : Ty} {α : Type} {i : Dat α} {v : α} [Has Γ x τ] [hx : AsPtr τ α i v] [T : TDat P t α i] :
    OpY P B0 A Ω Γ ⟨dst, .load t x, ty, pos, aft, gd⟩ (D v) :=
  OpY.val fun a w hl => by
    obtain ⟨b, off, cs, h1, h2, h3, h4⟩ := hx.le _ _ _ (Has.ev (x := x) (τ := τ) (op := .load t x) (by simp [Op.operands]) hl)
    refine ⟨mkV α cs, ?_, cs, h4, rfl⟩
    simp only [execOp, Instr.loadAt, h1, Instr.sureAddr, Sem.run_bind, Sem.run_pure, Result.andThen_ok]
    rw [run_loadVar (t := t) h3 h4]
    simp only [Result.andThen_ok]

theorem addr_add (b off n : Nat) : Addr.add ⟨b, off, none⟩ n = ⟨b, off + n, none⟩ := by
  unfold Addr.add; split
  · subst_vars; rfl
  · rfl

theorem OpY.indexAddr {t e : TypeId} {x y : Operand} {τ σ : Ty} {α : Type} {i : Dat α} {xs : List α} {k : Int} {v : α} [Has Γ x τ] [hx : AsL τ α i xs] [Has Γ y σ] [hy : AsIx σ k] [S : TSl P t e] [T : TDat P e α i]
    (h0 : 0 ≤ k) (hv : xs[k.toNat]? = some v) : OpY P B0 A Ω Γ ⟨dst, .indexAddr t x y, ty, pos, aft, gd⟩ (PtrD v) :=
  OpY.val fun a w hl => by
    obtain ⟨cs, ⟨ad, c, h1, h2, h3, h3', h4⟩, h5⟩ := hx.le _ _ _ (Has.ev (x := x) (τ := τ) (op := .indexAddr t x y) (by simp [Op.operands]) hl)
    obtain ⟨kd, e2⟩ := hy.h (Has.ev (x := y) (τ := σ) (op := .indexAddr t x y) (by simp [Op.operands]) hl)
    subst h1
    have e1 : a.eval x = .slice ad xs.length c := h5
    obtain ⟨hk, rfl⟩ := List.getElem?_eq_some_iff.1 hv
    obtain ⟨b, off, rfl, g2, es, g3, g4⟩ := h4 _ hk
    refine ⟨.pointer (some ⟨b, off + k.toNat * Dat.sz α, none⟩), ?_, b, _, es, rfl, g2, g3, g4⟩
    have hin : 0 ≤ k ∧ k < (xs.length : Int) := by omega
    simp only [execOp, e1, e2, Instr.indexAt, asIntOf, Sem.run_bind, Sem.run_pure, Result.andThen_ok, run_underlying S.h, hin, and_self, if_true, T.sz, addr_add]

/-- an index that is a natural number -/
theorem OpY.indexN {t e : TypeId} {x y : Operand} {τ σ : Ty} {α : Type} {i : Dat α} {xs : List α} {j : Nat} {v : α} [Has Γ x τ] [hx : AsL τ α i xs] [Has Γ y σ] [hy : AsI σ (j : Int)] [S : TSl P t e] [T : TDat P e α i]
    (hv : xs[j]? = some v) : OpY P B0 A Ω Γ ⟨dst, .indexAddr t x y, ty, pos, aft, gd⟩ (PtrD v) :=
  OpY.indexAddr (k := (j : Int)) (by omega) (by simpa using hv)

theorem OpY.len {t : TypeId} {e : TypeId} {x : Operand} {τ : Ty} {α : Type} {i : Dat α} {xs : List α} [Has Γ x τ] [hx : AsL τ α i xs] [S : TSl P t e] :
    OpY P B0 A Ω Γ ⟨dst, .call { callee := .builtin .len, args := #[x], argTypes := #[t] }, ty, pos, aft, gd⟩ (I xs.length) :=
  OpY.val fun a w hl => by
    obtain ⟨cs, ⟨ad, c, h1, h2, h3, h3', h4⟩, h5⟩ := hx.le _ _ _ (Has.ev (x := x) (τ := τ) (op := .call { callee := .builtin .len, args := #[x], argTypes := #[t] }) (by simp [Op.operands, Call.operands]) hl)
    subst h1
    have e1 : a.eval x = .slice ad xs.length c := h5
    exact ⟨.int .i64 xs.length, by simp [execOp, resolve, invoke, builtin, e1, Builtin.len_, run_underlying S.h, goInt], rfl⟩

theorem OpY.lenNil {t : TypeId} {e : TypeId} {x : Operand} [hs : Has Γ x NilS] [S : TSl P t e] :
    OpY P B0 A Ω Γ ⟨dst, .call { callee := .builtin .len, args := #[x], argTypes := #[t] }, ty, pos, aft, gd⟩ (I 0) :=
  OpY.val fun a w hl => by
    have e1 : a.eval x = .slice none 0 0 := Has.ev (x := x) (τ := NilS) (op := .call { callee := .builtin .len, args := #[x], argTypes := #[t] }) (by simp [Op.operands, Call.operands]) hl
    exact ⟨.int .i64 0, by simp [execOp, resolve, invoke, builtin, e1, Builtin.len_, run_underlying S.h, goInt], rfl⟩

/-! ### conversions between integers -/
section conv
variable {s d : TypeId} {x : Operand} {τ : Ty} [hsx : Has Γ x τ]
include hsx
theorem OpY.conv {ks kd : IntKind} {z z' : Int} {σ : Ty} (S : P.underlying s = some (.int ks)) (T : P.underlying d = some (.int kd)) (e : ∀ w v, τ.p A w v → v = .int ks z) (h : kd.wrap z = z') (hσ : ∀ w, σ.p A w (.int kd z')) :
    OpY P B0 A Ω Γ ⟨dst, .convert s d x, ty, pos, aft, gd⟩ σ :=
  OpY.val fun a w hl => ⟨.int kd z', by
    have e := e w _ (Has.ev (x := x) (τ := τ) (op := .convert s d x) (by simp [Op.operands]) hl)
    simp only [execOp, e, convert, Sem.run_bind, run_underlying S, run_underlying T, Result.andThen_ok, Conv.intToInt, Sem.run_pure, h], hσ w⟩
theorem OpY.conv8_8 {m : UInt8} [hx : AsU8 τ m] [S : TIn P s .u8] [T : TIn P d .u8] : OpY P B0 A Ω Γ ⟨dst, .convert s d x, ty, pos, aft, gd⟩ (U8 m) :=
  OpY.conv S.h T.h (fun w v h => hx.le _ w v h) (by rw [wrapU8]; have := natU8 m; omega) (fun _ => rfl)
theorem OpY.conv8_16 {m : UInt8} [hx : AsU8 τ m] [S : TIn P s .u8] [T : TIn P d .u16] : OpY P B0 A Ω Γ ⟨dst, .convert s d x, ty, pos, aft, gd⟩ (U16 m.toUInt16) :=
  OpY.conv S.h T.h (fun w v h => hx.le _ w v h) (z' := (m.toUInt16.toNat : Int)) (by rw [wrapU16, UInt8.toNat_toUInt16]; have := natU8 m; omega) (fun _ => rfl)
theorem OpY.conv8_32 {m : UInt8} [hx : AsU8 τ m] [S : TIn P s .u8] [T : TIn P d .u32] : OpY P B0 A Ω Γ ⟨dst, .convert s d x, ty, pos, aft, gd⟩ (U32 m.toUInt32) :=
  OpY.conv S.h T.h (fun w v h => hx.le _ w v h) (z' := (m.toUInt32.toNat : Int)) (by rw [wrapU32, UInt8.toNat_toUInt32]; have := natU8 m; omega) (fun _ => rfl)
theorem OpY.conv8_64 {m : UInt8} [hx : AsU8 τ m] [S : TIn P s .u8] [T : TIn P d .u64] : OpY P B0 A Ω Γ ⟨dst, .convert s d x, ty, pos, aft, gd⟩ (U64 m.toUInt64) :=
  OpY.conv S.h T.h (fun w v h => hx.le _ w v h) (z' := (m.toUInt64.toNat : Int)) (by rw [wrapU64, UInt8.toNat_toUInt64]; have := natU8 m; omega) (fun _ => rfl)
theorem OpY.conv8_i {m : UInt8} [hx : AsU8 τ m] [S : TIn P s .u8] [T : TIn P d .i64] : OpY P B0 A Ω Γ ⟨dst, .convert s d x, ty, pos, aft, gd⟩ (I m.toNat) :=
  OpY.conv S.h T.h (fun w v h => hx.le _ w v h) (by have := natU8 m; rw [wrap64_in (by omega) (by omega)]) (fun _ => rfl)
theorem OpY.convi_8 {z : Int} [hx : AsI τ z] [S : TIn P s .i64] [T : TIn P d .u8] : OpY P B0 A Ω Γ ⟨dst, .convert s d x, ty, pos, aft, gd⟩ (U8 (UInt8.ofInt z)) :=
  OpY.conv S.h T.h (fun w v h => hx.le _ w v h) (by rw [wrapU8, ofIntU8]) (fun _ => rfl)
theorem OpY.conv16_8 {m : UInt16} [hx : AsU16 τ m] [S : TIn P s .u16] [T : TIn P d .u8] : OpY P B0 A Ω Γ ⟨dst, .convert s d x, ty, pos, aft, gd⟩ (U8 m.toUInt8) :=
  OpY.conv S.h T.h (fun w v h => hx.le _ w v h) (z' := (m.toUInt8.toNat : Int)) (by rw [wrapU8, UInt16.toNat_toUInt8]; have := natU16 m; omega) (fun _ => rfl)
theorem OpY.conv16_16 {m : UInt16} [hx : AsU16 τ m] [S : TIn P s .u16] [T : TIn P d .u16] : OpY P B0 A Ω Γ ⟨dst, .convert s d x, ty, pos, aft, gd⟩ (U16 m) :=
  OpY.conv S.h T.h (fun w v h => hx.le _ w v h) (by rw [wrapU16]; have := natU16 m; omega) (fun _ => rfl)
theorem OpY.conv16_32 {m : UInt16} [hx : AsU16 τ m] [S : TIn P s .u16] [T : TIn P d .u32] : OpY P B0 A Ω Γ ⟨dst, .convert s d x, ty, pos, aft, gd⟩ (U32 m.toUInt32) :=
  OpY.conv S.h T.h (fun w v h => hx.le _ w v h) (z' := (m.toUInt32.toNat : Int)) (by rw [wrapU32, UInt16.toNat_toUInt32]; have := natU16 m; omega) (fun _ => rfl)
theorem OpY.conv16_64 {m : UInt16} [hx : AsU16 τ m] [S : TIn P s .u16] [T : TIn P d .u64] : OpY P B0 A Ω Γ ⟨dst, .convert s d x, ty, pos, aft, gd⟩ (U64 m.toUInt64) :=
  OpY.conv S.h T.h (fun w v h => hx.le _ w v h) (z' := (m.toUInt64.toNat : Int)) (by rw [wrapU64, UInt16.toNat_toUInt64]; have := natU16 m; omega) (fun _ => rfl)
theorem OpY.conv16_i {m : UInt16} [hx : AsU16 τ m] [S : TIn P s .u16] [T : TIn P d .i64] : OpY P B0 A Ω Γ ⟨dst, .convert s d x, ty, pos, aft, gd⟩ (I m.toNat) :=
  OpY.conv S.h T.h (fun w v h => hx.le _ w v h) (by have := natU16 m; rw [wrap64_in (by omega) (by omega)]) (fun _ => rfl)
theorem OpY.convi_16 {z : Int} [hx : AsI τ z] [S : TIn P s .i64] [T : TIn P d .u16] : OpY P B0 A Ω Γ ⟨dst, .convert s d x, ty, pos, aft, gd⟩ (U16 (UInt16.ofInt z)) :=
  OpY.conv S.h T.h (fun w v h => hx.le _ w v h) (by rw [wrapU16, ofIntU16]) (fun _ => rfl)
theorem OpY.conv32_8 {m : UInt32} [hx : AsU32 τ m] [S : TIn P s .u32] [T : TIn P d .u8] : OpY P B0 A Ω Γ ⟨dst, .convert s d x, ty, pos, aft, gd⟩ (U8 m.toUInt8) :=
  OpY.conv S.h T.h (fun w v h => hx.le _ w v h) (z' := (m.toUInt8.toNat : Int)) (by rw [wrapU8, UInt32.toNat_toUInt8]; have := natU32 m; omega) (fun _ => rfl)
theorem OpY.conv32_16 {m : UInt32} [hx : AsU32 τ m] [S : TIn P s .u32] [T : TIn P d .u16] : OpY P B0 A Ω Γ ⟨dst, .convert s d x, ty, pos, aft, gd⟩ (U16 m.toUInt16) :=
  OpY.conv S.h T.h (fun w v h => hx.le _ w v h) (z' := (m.toUInt16.toNat : Int)) (by rw [wrapU16, UInt32.toNat_toUInt16]; have := natU32 m; omega) (fun _ => rfl)
theorem OpY.conv32_32 {m : UInt32} [hx : AsU32 τ m] [S : TIn P s .u32] [T : TIn P d .u32] : OpY P B0 A Ω Γ ⟨dst, .convert s d x, ty, pos, aft, gd⟩ (U32 m) :=
  OpY.conv S.h T.h (fun w v h => hx.le _ w v h) (by rw [wrapU32]; have := natU32 m; omega) (fun _ => rfl)
theorem OpY.conv32_64 {m : UInt32} [hx : AsU32 τ m] [S : TIn P s .u32] [T : TIn P d .u64] : OpY P B0 A Ω Γ ⟨dst, .convert s d x, ty, pos, aft, gd⟩ (U64 m.toUInt64) :=
  OpY.conv S.h T.h (fun w v h => hx.le _ w v h) (z' := (m.toUInt64.toNat : Int)) (by rw [wrapU64, UInt32.toNat_toUInt64]; have := natU32 m; omega) (fun _ => rfl)
theorem OpY.conv32_i {m : UInt32} [hx : AsU32 τ m] [S : TIn P s .u32] [T : TIn P d .i64] : OpY P B0 A Ω Γ ⟨dst, .convert s d x, ty, pos, aft, gd⟩ (I m.toNat) :=
  OpY.conv S.h T.h (fun w v h => hx.le _ w v h) (by have := natU32 m; rw [wrap64_in (by omega) (by omega)]) (fun _ => rfl)
theorem OpY.convi_32 {z : Int} [hx : AsI τ z] [S : TIn P s .i64] [T : TIn P d .u32] : OpY P B0 A Ω Γ ⟨dst, .convert s d x, ty, pos, aft, gd⟩ (U32 (UInt32.ofInt z)) :=
  OpY.conv S.h T.h (fun w v h => hx.le _ w v h) (by rw [wrapU32, ofIntU32]) (fun _ => rfl)
theorem OpY.conv64_8 {m : UInt64} [hx : AsU64 τ m] [S : TIn P s .u64] [T : TIn P d .u8] : OpY P B0 A Ω Γ ⟨dst, .convert s d x, ty, pos, aft, gd⟩ (U8 m.toUInt8) :=
  OpY.conv S.h T.h (fun w v h => hx.le _ w v h) (z' := (m.toUInt8.toNat : Int)) (by rw [wrapU8, UInt64.toNat_toUInt8]; have := natU64 m; omega) (fun _ => rfl)
theorem OpY.conv64_16 {m : UInt64} [hx : AsU64 τ m] [S : TIn P s .u64] [T : TIn P d .u16] : OpY P B0 A Ω Γ ⟨dst, .convert s d x, ty, pos, aft, gd⟩ (U16 m.toUInt16) :=
  OpY.conv S.h T.h (fun w v h => hx.le _ w v h) (z' := (m.toUInt16.toNat : Int)) (by rw [wrapU16, UInt64.toNat_toUInt16]; have := natU64 m; omega) (fun _ => rfl)
theorem OpY.conv64_32 {m : UInt64} [hx : AsU64 τ m] [S : TIn P s .u64] [T : TIn P d .u32] : OpY P B0 A Ω Γ ⟨dst, .convert s d x, ty, pos, aft, gd⟩ (U32 m.toUInt32) :=
  OpY.conv S.h T.h (fun w v h => hx.le _ w v h) (z' := (m.toUInt32.toNat : Int)) (by rw [wrapU32, UInt64.toNat_toUInt32]; have := natU64 m; omega) (fun _ => rfl)
theorem OpY.conv64_64 {m : UInt64} [hx : AsU64 τ m] [S : TIn P s .u64] [T : TIn P d .u64] : OpY P B0 A Ω Γ ⟨dst, .convert s d x, ty, pos, aft, gd⟩ (U64 m) :=
  OpY.conv S.h T.h (fun w v h => hx.le _ w v h) (by rw [wrapU64]; have := natU64 m; omega) (fun _ => rfl)
theorem OpY.conv64_i {m : UInt64} [hx : AsU64 τ m] [S : TIn P s .u64] [T : TIn P d .i64] (hm : m.toNat ≤ 9223372036854775807) : OpY P B0 A Ω Γ ⟨dst, .convert s d x, ty, pos, aft, gd⟩ (I m.toNat) :=
  OpY.conv S.h T.h (fun w v h => hx.le _ w v h) (by rw [wrap64_in (by omega) (by omega)]) (fun _ => rfl)
theorem OpY.convi_64 {z : Int} [hx : AsI τ z] [S : TIn P s .i64] [T : TIn P d .u64] : OpY P B0 A Ω Γ ⟨dst, .convert s d x, ty, pos, aft, gd⟩ (U64 (UInt64.ofInt z)) :=
  OpY.conv S.h T.h (fun w v h => hx.le _ w v h) (by rw [wrapU64, ofIntU64]) (fun _ => rfl)
theorem OpY.convi_i {z : Int} [hx : AsI τ z] [S : TIn P s .i64] [T : TIn P d .i64] (h1 : -9223372036854775808 ≤ z) (h2 : z ≤ 9223372036854775807) : OpY P B0 A Ω Γ ⟨dst, .convert s d x, ty, pos, aft, gd⟩ (I z) :=
  OpY.conv S.h T.h (fun w v h => hx.le _ w v h) (wrap64_in h1 h2) (fun _ => rfl)
end conv

/-! ### slices of slices, strings -/
theorem elemsAt.cut {α : Type} [Dat α] {A : Nat → Prop} {w : World} {a : Option Addr} {xs : List α} (h : elemsAt A w a xs) (l r : Nat) (hr : r ≤ xs.length) :
    elemsAt A w (a.map (·.add (l * Dat.sz α))) ((xs.take r).drop l) := fun i hi => by
  have hi' : l + i < xs.length := by simp at hi; omega
  obtain ⟨b, off, rfl, h2, es, h3, h4⟩ := h (l + i) hi'
  refine ⟨b, off + l * Dat.sz α, by simp [addr_add], h2, es, ?_, ?_⟩
  · rw [Nat.add_assoc, ← Nat.add_mul]; exact h3
  · rw [List.getElem_drop, List.getElem_take]; exact h4

theorem elemsAt.nil {α : Type} [Dat α] {A : Nat → Prop} {w : World} {a : Option Addr} : elemsAt A w a ([] : List α) := fun i hi => absurd hi (by simp)

section cut
variable {t e : TypeId} {x y z : Operand} {τ σ ρ : Ty} {α : Type} {i : Dat α} {xs : List α} {l r : Int}

theorem cut_reads {α : Type} [Dat α] {A : Nat → Prop} {w : World} {ad : Option Addr} {c : Nat} {xs : List α} {l r : Nat} (hl : l ≤ r) (hr : r ≤ xs.length) (h2 : xs.length ≤ c) (h3 : c ≤ maxLen) (h3' : xs.length ≤ most) (h4 : elemsAt A w ad xs) :
    (D ((xs.take r).drop l)).p A w (.slice (if c = l then ad else ad.map (·.add (l * Dat.sz α))) (r - l) (c - l)) := by
  have hlen : ((xs.take r).drop l).length = r - l := by simp; omega
  refine ⟨[_], ⟨_, c - l, by rw [hlen], by rw [hlen]; omega, by omega, by rw [hlen]; omega, ?_⟩, rfl⟩
  split
  · have : (xs.take r).drop l = [] := by apply List.eq_nil_of_length_eq_zero; rw [hlen]; omega
    rw [this]; exact elemsAt.nil
  · exact h4.cut l r hr

/-- x[l:r] -/
theorem OpY.slice2 [hsx : Has Γ x τ] [hx : AsL τ α i xs] [hsy : Has Γ y σ] [hy : AsI σ l] [hsz : Has Γ z ρ] [hz : AsI ρ r] [S : TSl P t e] [T : TDat P e α i]
    (h0 : 0 ≤ l) (h1 : l ≤ r) (h2 : r ≤ xs.length) : OpY P B0 A Ω Γ ⟨dst, .slice t x (some y) (some z) none, ty, pos, aft, gd⟩ (D ((xs.take r.toNat).drop l.toNat)) :=
  OpY.val fun a w hl => by
    obtain ⟨cs, ⟨ad, c, g1, g2, g3, g3', g4⟩, g5⟩ := hx.le _ _ _ (Has.ev (x := x) (τ := τ) (op := .slice t x (some y) (some z) none) (by simp [Op.operands]) hl)
    have ey : a.eval y = .int .i64 l := hy.le _ _ _ (Has.ev (x := y) (τ := σ) (op := .slice t x (some y) (some z) none) (by simp [Op.operands]) hl)
    have ez : a.eval z = .int .i64 r := hz.le _ _ _ (Has.ev (x := z) (τ := ρ) (op := .slice t x (some y) (some z) none) (by simp [Op.operands]) hl)
    subst g1
    have ex : a.eval x = .slice ad xs.length c := g5
    refine ⟨_, ?_, cut_reads (l := l.toNat) (r := r.toNat) (by omega) (by omega) g2 g3 g3' g4⟩
    have c1 : 0 ≤ r ∧ r ≤ (c : Int) := by unfold maxLen at g3; omega
    have c2 : 0 ≤ l ∧ l ≤ (r.toNat : Int) := by omega
    simp only [execOp, ex, ey, ez, Instr.sliceAt, Instr.slice, Option.map_some, Option.map_none, Sem.run_bind, run_underlying S.h, Result.andThen_ok, Instr.sliceBounds, Instr.sliceBound, asIntOf, Sem.run_pure, c1, c2, and_self, if_true, T.sz]
/-- x[:r] -/
theorem OpY.sliceTo [hsx : Has Γ x τ] [hx : AsL τ α i xs] [hsz : Has Γ z ρ] [hz : AsI ρ r] [S : TSl P t e] [T : TDat P e α i]
    (h1 : 0 ≤ r) (h2 : r ≤ xs.length) : OpY P B0 A Ω Γ ⟨dst, .slice t x none (some z) none, ty, pos, aft, gd⟩ (D (xs.take r.toNat)) :=
  OpY.val fun a w hl => by
    obtain ⟨cs, ⟨ad, c, g1, g2, g3, g3', g4⟩, g5⟩ := hx.le _ _ _ (Has.ev (x := x) (τ := τ) (op := .slice t x none (some z) none) (by simp [Op.operands]) hl)
    have ez : a.eval z = .int .i64 r := hz.le _ _ _ (Has.ev (x := z) (τ := ρ) (op := .slice t x none (some z) none) (by simp [Op.operands]) hl)
    subst g1
    have ex : a.eval x = .slice ad xs.length c := g5
    refine ⟨.slice (if c = 0 then ad else ad.map (·.add (0 * Dat.sz α))) r.toNat c, ?_, by simpa using cut_reads (l := 0) (r := r.toNat) (by omega) (by omega) g2 g3 g3' g4⟩
    have c1 : 0 ≤ r ∧ r ≤ (c : Int) := by unfold maxLen at g3; omega
    simp only [execOp, ex, ez, Instr.sliceAt, Instr.slice, Option.map_some, Option.map_none, Sem.run_bind, run_underlying S.h, Result.andThen_ok, Instr.sliceBounds, Instr.sliceBound, asIntOf, Sem.run_pure, c1, and_self, if_true, T.sz, Nat.sub_zero]
/-- x[l:] -/
theorem OpY.sliceFrom [hsx : Has Γ x τ] [hx : AsL τ α i xs] [hsy : Has Γ y σ] [hy : AsI σ l] [S : TSl P t e] [T : TDat P e α i]
    (h0 : 0 ≤ l) (h1 : l ≤ xs.length) : OpY P B0 A Ω Γ ⟨dst, .slice t x (some y) none none, ty, pos, aft, gd⟩ (D (xs.drop l.toNat)) :=
  OpY.val fun a w hl => by
    obtain ⟨cs, ⟨ad, c, g1, g2, g3, g3', g4⟩, g5⟩ := hx.le _ _ _ (Has.ev (x := x) (τ := τ) (op := .slice t x (some y) none none) (by simp [Op.operands]) hl)
    have ey : a.eval y = .int .i64 l := hy.le _ _ _ (Has.ev (x := y) (τ := σ) (op := .slice t x (some y) none none) (by simp [Op.operands]) hl)
    subst g1
    have ex : a.eval x = .slice ad xs.length c := g5
    refine ⟨_, ?_, by simpa using cut_reads (l := l.toNat) (r := xs.length) (by omega) (by omega) g2 g3 g3' g4⟩
    have c1 : 0 ≤ l ∧ l ≤ (xs.length : Int) := by omega
    simp only [execOp, ex, ey, Instr.sliceAt, Instr.slice, Option.map_some, Option.map_none, Sem.run_bind, run_underlying S.h, Result.andThen_ok, Instr.sliceBounds, Instr.sliceBound, asIntOf, Sem.run_pure, c1, and_self, if_true, T.sz]
end cut

/-! ### calls -/
theorem Ret.yields {w w' : World} {τ : Ty} {e : Ending} (hB : B0 ≤ w.heap.size) (h : Ret A w τ e w') : ∃ v, e = .returned v ∧ Grow B0 w w' ∧ τ.p A w' v :=
  let ⟨v, h1, h2, h3⟩ := h; ⟨v, h1, h2.mono hB, h3⟩

/-- function f is one with a body -/
class Fun (P : Program) (f : FuncId) : Prop where
  h : ∀ args w, (callFunc f args).run P w = .ok (.enter f args) w

theorem OpY.callN {f : FuncId} {xs : Array Operand} {ts : Array TypeId} {τ : Ty} [F : Fun P f]
    (h : ∀ (a : Act) w, (∀ k, w.heap.size ≤ k → A k) → (∀ t, .tmp t ∈ xs.toList → (Γ t).p A w (a.tmps.getD t undef)) → Calls P f (xs.map a.eval) w (Ret A w τ)) :
    OpY P B0 A Ω Γ ⟨dst, .call { callee := .value (.func f), args := xs, argTypes := ts }, ty, pos, aft, gd⟩ τ := fun a w hB hu hp hl => by
  have h4 := h a w hu fun t ht => hl t (by
    simp only [Op.operands, Call.operands, Array.toList_append, List.mem_append]
    exact .inr ht)
  have : (execOp a.eval ⟨dst, .call { callee := .value (.func f), args := xs, argTypes := ts }, ty, pos, aft, gd⟩).run P w = .ok (.enter f (xs.map a.eval)) w := by
    have e1 : a.eval (.func f) = .func (.func f) #[] #[] := rfl
    simp only [execOp, resolve, Deferred.ofValue, e1, Sem.run_bind, Sem.run_pure, Result.andThen_ok, invoke, F.h, Array.append_empty, Array.empty_append]
  rw [this]
  exact ⟨Grow.refl _ _, h4.mono fun e w' hr => hr.yields hB⟩
theorem OpY.call0 {f : FuncId} {ts : Array TypeId} {τ : Ty} [F : Fun P f] 
    (h : ∀ w, (∀ k, w.heap.size ≤ k → A k) → Calls P f #[] w (Ret A w τ)) :
    OpY P B0 A Ω Γ ⟨dst, .call { callee := .value (.func f), args := #[], argTypes := ts }, ty, pos, aft, gd⟩ τ :=
  OpY.callN fun a w hu _ => by rw [Array.map_empty]; exact h w hu
theorem OpY.call1 {f : FuncId} {ts : Array TypeId} {τ : Ty} [F : Fun P f] {x1 : Operand} {τ1 σ1 : Ty} [h1 : Has Γ x1 τ1] [k1 : AsT τ1 σ1]
    (h : ∀ w v1, (∀ k, w.heap.size ≤ k → A k) → σ1.p A w v1 → Calls P f #[v1] w (Ret A w τ)) :
    OpY P B0 A Ω Γ ⟨dst, .call { callee := .value (.func f), args := #[x1], argTypes := ts }, ty, pos, aft, gd⟩ τ :=
  OpY.callN fun a w hu hl => by
    rw [show (#[x1].map a.eval) = #[a.eval x1] by simp]
    exact h w _ hu (k1.le _ _ _ (h1.le a A w fun t e => hl t (by simp [e])))
theorem OpY.call2 {f : FuncId} {ts : Array TypeId} {τ : Ty} [F : Fun P f] {x1 x2 : Operand} {τ1 σ1 τ2 σ2 : Ty} [h1 : Has Γ x1 τ1] [k1 : AsT τ1 σ1] [h2 : Has Γ x2 τ2] [k2 : AsT τ2 σ2]
    (h : ∀ w v1 v2, (∀ k, w.heap.size ≤ k → A k) → σ1.p A w v1 → σ2.p A w v2 → Calls P f #[v1, v2] w (Ret A w τ)) :
    OpY P B0 A Ω Γ ⟨dst, .call { callee := .value (.func f), args := #[x1, x2], argTypes := ts }, ty, pos, aft, gd⟩ τ :=
  OpY.callN fun a w hu hl => by
    rw [show (#[x1, x2].map a.eval) = #[a.eval x1, a.eval x2] by simp]
    exact h w _ _ hu (k1.le _ _ _ (h1.le a A w fun t e => hl t (by simp [e]))) (k2.le _ _ _ (h2.le a A w fun t e => hl t (by simp [e])))
theorem OpY.call3 {f : FuncId} {ts : Array TypeId} {τ : Ty} [F : Fun P f] {x1 x2 x3 : Operand} {τ1 σ1 τ2 σ2 τ3 σ3 : Ty} [h1 : Has Γ x1 τ1] [k1 : AsT τ1 σ1] [h2 : Has Γ x2 τ2] [k2 : AsT τ2 σ2] [h3 : Has Γ x3 τ3] [k3 : AsT τ3 σ3]
    (h : ∀ w v1 v2 v3, (∀ k, w.heap.size ≤ k → A k) → σ1.p A w v1 → σ2.p A w v2 → σ3.p A w v3 → Calls P f #[v1, v2, v3] w (Ret A w τ)) :
    OpY P B0 A Ω Γ ⟨dst, .call { callee := .value (.func f), args := #[x1, x2, x3], argTypes := ts }, ty, pos, aft, gd⟩ τ :=
  OpY.callN fun a w hu hl => by
    rw [show (#[x1, x2, x3].map a.eval) = #[a.eval x1, a.eval x2, a.eval x3] by simp]
    exact h w _ _ _ hu (k1.le _ _ _ (h1.le a A w fun t e => hl t (by simp [e]))) (k2.le _ _ _ (h2.le a A w fun t e => hl t (by simp [e]))) (k3.le _ _ _ (h3.le a A w fun t e => hl t (by simp [e])))
theorem OpY.call4 {f : FuncId} {ts : Array TypeId} {τ : Ty} [F : Fun P f] {x1 x2 x3 x4 : Operand} {τ1 σ1 τ2 σ2 τ3 σ3 τ4 σ4 : Ty} [h1 : Has Γ x1 τ1] [k1 : AsT τ1 σ1] [h2 : Has Γ x2 τ2] [k2 : AsT τ2 σ2] [h3 : Has Γ x3 τ3] [k3 : AsT τ3 σ3] [h4 : Has Γ x4 τ4] [k4 : AsT τ4 σ4]
    (h : ∀ w v1 v2 v3 v4, (∀ k, w.heap.size ≤ k → A k) → σ1.p A w v1 → σ2.p A w v2 → σ3.p A w v3 → σ4.p A w v4 → Calls P f #[v1, v2, v3, v4] w (Ret A w τ)) :
    OpY P B0 A Ω Γ ⟨dst, .call { callee := .value (.func f), args := #[x1, x2, x3, x4], argTypes := ts }, ty, pos, aft, gd⟩ τ :=
  OpY.callN fun a w hu hl => by
    rw [show (#[x1, x2, x3, x4].map a.eval) = #[a.eval x1, a.eval x2, a.eval x3, a.eval x4] by simp]
    exact h w _ _ _ _ hu (k1.le _ _ _ (h1.le a A w fun t e => hl t (by simp [e]))) (k2.le _ _ _ (h2.le a A w fun t e => hl t (by simp [e]))) (k3.le _ _ _ (h3.le a A w fun t e => hl t (by simp [e]))) (k4.le _ _ _ (h4.le a A w fun t e => hl t (by simp [e])))
theorem OpY.call5 {f : FuncId} {ts : Array TypeId} {τ : Ty} [F : Fun P f] {x1 x2 x3 x4 x5 : Operand} {τ1 σ1 τ2 σ2 τ3 σ3 τ4 σ4 τ5 σ5 : Ty} [h1 : Has Γ x1 τ1] [k1 : AsT τ1 σ1] [h2 : Has Γ x2 τ2] [k2 : AsT τ2 σ2] [h3 : Has Γ x3 τ3] [k3 : AsT τ3 σ3] [h4 : Has Γ x4 τ4] [k4 : AsT τ4 σ4] [h5 : Has Γ x5 τ5] [k5 : AsT τ5 σ5]
    (h : ∀ w v1 v2 v3 v4 v5, (∀ k, w.heap.size ≤ k → A k) → σ1.p A w v1 → σ2.p A w v2 → σ3.p A w v3 → σ4.p A w v4 → σ5.p A w v5 → Calls P f #[v1, v2, v3, v4, v5] w (Ret A w τ)) :
    OpY P B0 A Ω Γ ⟨dst, .call { callee := .value (.func f), args := #[x1, x2, x3, x4, x5], argTypes := ts }, ty, pos, aft, gd⟩ τ :=
  OpY.callN fun a w hu hl => by
    rw [show (#[x1, x2, x3, x4, x5].map a.eval) = #[a.eval x1, a.eval x2, a.eval x3, a.eval x4, a.eval x5] by simp]
    exact h w _ _ _ _ _ hu (k1.le _ _ _ (h1.le a A w fun t e => hl t (by simp [e]))) (k2.le _ _ _ (h2.le a A w fun t e => hl t (by simp [e]))) (k3.le _ _ _ (h3.le a A w fun t e => hl t (by simp [e]))) (k4.le _ _ _ (h4.le a A w fun t e => hl t (by simp [e]))) (k5.le _ _ _ (h5.le a A w fun t e => hl t (by simp [e])))
theorem OpY.call6 {f : FuncId} {ts : Array TypeId} {τ : Ty} [F : Fun P f] {x1 x2 x3 x4 x5 x6 : Operand} {τ1 σ1 τ2 σ2 τ3 σ3 τ4 σ4 τ5 σ5 τ6 σ6 : Ty} [h1 : Has Γ x1 τ1] [k1 : AsT τ1 σ1] [h2 : Has Γ x2 τ2] [k2 : AsT τ2 σ2] [h3 : Has Γ x3 τ3] [k3 : AsT τ3 σ3] [h4 : Has Γ x4 τ4] [k4 : AsT τ4 σ4] [h5 : Has Γ x5 τ5] [k5 : AsT τ5 σ5] [h6 : Has Γ x6 τ6] [k6 : AsT τ6 σ6]
    (h : ∀ w v1 v2 v3 v4 v5 v6, (∀ k, w.heap.size ≤ k → A k) → σ1.p A w v1 → σ2.p A w v2 → σ3.p A w v3 → σ4.p A w v4 → σ5.p A w v5 → σ6.p A w v6 → Calls P f #[v1, v2, v3, v4, v5, v6] w (Ret A w τ)) :
    OpY P B0 A Ω Γ ⟨dst, .call { callee := .value (.func f), args := #[x1, x2, x3, x4, x5, x6], argTypes := ts }, ty, pos, aft, gd⟩ τ :=
  OpY.callN fun a w hu hl => by
    rw [show (#[x1, x2, x3, x4, x5, x6].map a.eval) = #[a.eval x1, a.eval x2, a.eval x3, a.eval x4, a.eval x5, a.eval x6] by simp]
    exact h w _ _ _ _ _ _ hu (k1.le _ _ _ (h1.le a A w fun t e => hl t (by simp [e]))) (k2.le _ _ _ (h2.le a A w fun t e => hl t (by simp [e]))) (k3.le _ _ _ (h3.le a A w fun t e => hl t (by simp [e]))) (k4.le _ _ _ (h4.le a A w fun t e => hl t (by simp [e]))) (k5.le _ _ _ (h5.le a A w fun t e => hl t (by simp [e]))) (k6.le _ _ _ (h6.le a A w fun t e => hl t (by simp [e])))
theorem OpY.call7 {f : FuncId} {ts : Array TypeId} {τ : Ty} [F : Fun P f] {x1 x2 x3 x4 x5 x6 x7 : Operand} {τ1 σ1 τ2 σ2 τ3 σ3 τ4 σ4 τ5 σ5 τ6 σ6 τ7 σ7 : Ty} [h1 : Has Γ x1 τ1] [k1 : AsT τ1 σ1] [h2 : Has Γ x2 τ2] [k2 : AsT τ2 σ2] [h3 : Has Γ x3 τ3] [k3 : AsT τ3 σ3] [h4 : Has Γ x4 τ4] [k4 : AsT τ4 σ4] [h5 : Has Γ x5 τ5] [k5 : AsT τ5 σ5] [h6 : Has Γ x6 τ6] [k6 : AsT τ6 σ6] [h7 : Has Γ x7 τ7] [k7 : AsT τ7 σ7]
    (h : ∀ w v1 v2 v3 v4 v5 v6 v7, (∀ k, w.heap.size ≤ k → A k) → σ1.p A w v1 → σ2.p A w v2 → σ3.p A w v3 → σ4.p A w v4 → σ5.p A w v5 → σ6.p A w v6 → σ7.p A w v7 → Calls P f #[v1, v2, v3, v4, v5, v6, v7] w (Ret A w τ)) :
    OpY P B0 A Ω Γ ⟨dst, .call { callee := .value (.func f), args := #[x1, x2, x3, x4, x5, x6, x7], argTypes := ts }, ty, pos, aft, gd⟩ τ :=
  OpY.callN fun a w hu hl => by
    rw [show (#[x1, x2, x3, x4, x5, x6, x7].map a.eval) = #[a.eval x1, a.eval x2, a.eval x3, a.eval x4, a.eval x5, a.eval x6, a.eval x7] by simp]
    exact h w _ _ _ _ _ _ _ hu (k1.le _ _ _ (h1.le a A w fun t e => hl t (by simp [e]))) (k2.le _ _ _ (h2.le a A w fun t e => hl t (by simp [e]))) (k3.le _ _ _ (h3.le a A w fun t e => hl t (by simp [e]))) (k4.le _ _ _ (h4.le a A w fun t e => hl t (by simp [e]))) (k5.le _ _ _ (h5.le a A w fun t e => hl t (by simp [e]))) (k6.le _ _ _ (h6.le a A w fun t e => hl t (by simp [e]))) (k7.le _ _ _ (h7.le a A w fun t e => hl t (by simp [e])))

/-! ### several results -/
class AsTup (τ : Ty) (τs : outParam (List Ty)) : Prop where
  le : τ.le (Tup τs)
instance {τs : List Ty} : AsTup (Tup τs) τs := ⟨Ty.le.refl _⟩
instance {p : Prop} {τ : Ty} {τs : List Ty} [h : Ft p] [k : AsTup τ τs] : AsTup (Cond p τ) τs := ⟨fun A w v x => k.le A w v (x.1 h.h)⟩
theorem OpY.extract {x : Operand} {τ σ : Ty} {τs : List Ty} {k : Nat} [Has Γ x τ] [hx : AsTup τ τs] (hk : τs[k]? = some σ) :
    OpY P B0 A Ω Γ ⟨dst, .extract x k, ty, pos, aft, gd⟩ σ :=
  OpY.val fun a w hl => by
    obtain ⟨vs, h1, h2, h3⟩ := hx.le _ _ _ (Has.ev (x := x) (τ := τ) (op := .extract x k) (by simp [Op.operands]) hl)
    obtain ⟨hlt, rfl⟩ := List.getElem?_eq_some_iff.1 hk
    have h4 := h3 k hlt
    have h5 : vs.toArray[k]? = some (vs.getD k undef) := by
      rw [List.getElem?_toArray, List.getD_eq_getElem?_getD, List.getElem?_eq_getElem (by omega)]; rfl
    refine ⟨vs.getD k undef, ?_, h4⟩
    simp only [execOp, h1, Instr.extract, h5, Sem.run_bind, Sem.run_pure, Result.andThen_ok]
end
end Go.Proofs.Ytfdmajkeihdhnaa.Tr
