/- Operations that follow plain ones, which say when they answer. Conditions: none. -/
import Derived.Test.YtfdmajkeihdhnaaVe
namespace Go.Proofs.Ytfdmajkeihdhnaa.Tr
open Go Go.RowKit
set_option linter.unusedVariables false
set_option linter.unnecessarySimpa false

/-! ### plain operations -/
def ok64 (z : Int) : Option Int := if -9223372036854775808 ≤ z ∧ z ≤ 9223372036854775807 then some z else none
def addI (a b : Int) : Option Int := ok64 (a + b)
def subI (a b : Int) : Option Int := ok64 (a - b)
def mulI (a b : Int) : Option Int := ok64 (a * b)
def negI (a : Int) : Option Int := ok64 (-a)
def quoI (a b : Int) : Option Int := if 0 ≤ a ∧ 0 < b then some (a / b) else none
def remI (a b : Int) : Option Int := if 0 ≤ a ∧ 0 < b then some (a % b) else none
def cnt (s : Int) : Option Nat := if 0 ≤ s then some s.toNat else none
/-- what stands in a slice from l to r -/
def cut (n : Nat) (l r : Int) : Option Unit := if 0 ≤ l ∧ l ≤ r ∧ r ≤ n then some () else none
/-- how long a slice may be made -/
def room (bt : Nat) (n : Int) : Option Unit := if 0 ≤ n ∧ n * bt ≤ 140737488355328 ∧ n ≤ 140737488351232 then some () else none
theorem ok64_some {z y : Int} (h : ok64 z = some y) : z = y ∧ -9223372036854775808 ≤ z ∧ z ≤ 9223372036854775807 := by
  unfold ok64 at h; split at h
  · injection h with h; exact ⟨h, ‹_›⟩
  · cases h
theorem cut_some {n : Nat} {l r : Int} {u : Unit} (h : cut n l r = some u) : 0 ≤ l ∧ l ≤ r ∧ r ≤ n := by
  unfold cut at h; split at h
  · rename_i hc; exact hc
  · cases h
theorem room_some {bt : Nat} {n : Int} {u : Unit} (h : room bt n = some u) : 0 ≤ n ∧ n * bt ≤ 140737488355328 ∧ n ≤ 140737488351232 := by
  unfold room at h; split at h
  · rename_i hc; exact hc
  · cases h
theorem cnt_some {s : Int} {k : Nat} (h : cnt s = some k) : 0 ≤ s ∧ s.toNat = k := by
  unfold cnt at h; split at h
  · injection h with h; exact ⟨‹_›, h⟩
  · cases h

section ops
variable {P : Program} {B0 : Nat} {A : Nat → Prop} {Ω : List Pe} {Γ : Env} {dst : Option Tmp} {ty : TypeId} {pos : String} {aft : Array Edge} {gd : Option (Nat × Bool)}
theorem OpY.toD {o : Oper} {τ σ : Ty} (h : τ.le σ) (k : OpY P B0 A Ω Γ o τ) : OpY P B0 A Ω Γ o σ := fun a w hB hu hp hl => by
  have := k a w hB hu hp hl
  generalize (execOp a.eval o).run P w = r at *
  cases r with
  | ok x w' =>
    cases x <;> simp only [Yields] at this ⊢
    case value v => exact ⟨this.1, h _ _ _ this.2⟩
    case skip => exact ⟨this.1, h _ _ _ this.2⟩
    case enter f args => exact ⟨this.1, this.2.mono fun e w'' ⟨v, h1, h2, h3⟩ => ⟨v, h1, h2, h _ _ _ h3⟩⟩
  | halt x w' => simp only [Yields] at this
section int
variable {x y : Operand} {τ σ : Ty} {t u : TypeId} {m k z : Int} [hsx : Has Γ x τ] [hx : AsI τ m] [hsy : Has Γ y σ] [hy : AsI σ k]
include hsx hx hsy hy
theorem OpD.add (h : addI m k = some z) : OpY P B0 A Ω Γ ⟨dst, .binOp .add t x y u, ty, pos, aft, gd⟩ (D z) := by
  obtain ⟨rfl, h1, h2⟩ := ok64_some h; exact OpY.toD (I_D h1 h2) (OpY.add h1 h2)
theorem OpD.sub (h : subI m k = some z) : OpY P B0 A Ω Γ ⟨dst, .binOp .sub t x y u, ty, pos, aft, gd⟩ (D z) := by
  obtain ⟨rfl, h1, h2⟩ := ok64_some h; exact OpY.toD (I_D h1 h2) (OpY.sub h1 h2)
theorem OpD.mul (h : mulI m k = some z) : OpY P B0 A Ω Γ ⟨dst, .binOp .mul t x y u, ty, pos, aft, gd⟩ (D z) := by
  obtain ⟨rfl, h1, h2⟩ := ok64_some h; exact OpY.toD (I_D h1 h2) (OpY.mul h1 h2)
end int
section intD
variable {x y : Operand} {τ σ : Ty} {t u : TypeId} {m k z : Int} [hsx : Has Γ x τ] [hx : ToD τ Int inferInstance m] [hsy : Has Γ y σ] [hy : ToD σ Int inferInstance k]
include hsx hx hsy hy
theorem evD2 {op : BinOp} {a : Act} {w : World} (hl : ∀ s, .tmp s ∈ (Op.binOp op t x y u).operands.toList → (Γ s).p A w (a.tmps.getD s undef)) :
    a.eval x = .int .i64 m ∧ a.eval y = .int .i64 k ∧ intIn m ∧ intIn k := by
  have h1 := hx.le _ _ _ (Has.ev (x := x) (τ := τ) (op := .binOp op t x y u) (by simp [Op.operands]) hl)
  have h2 := hy.le _ _ _ (Has.ev (x := y) (τ := σ) (op := .binOp op t x y u) (by simp [Op.operands]) hl)
  exact ⟨D_I _ _ _ h1, D_I _ _ _ h2, D.wf h1, D.wf h2⟩
theorem OpD.quo (h : quoI m k = some z) : OpY P B0 A Ω Γ ⟨dst, .binOp .quo t x y u, ty, pos, aft, gd⟩ (D z) := fun a w hB hu hp hl => by
  unfold quoI at h; split at h
  · rename_i hc
    injection h with h; subst h
    obtain ⟨e1, e2, hm, hk⟩ := evD2 (x := x) (y := y) (τ := τ) (σ := σ) (t := t) (u := u) (m := m) (k := k) (A := A) (op := .quo) hl
    have hd0 : 0 ≤ m / k := Int.ediv_nonneg hc.1 (by omega)
    have hd1 : m / k ≤ m := Int.ediv_le_self _ hc.1
    haveI : AsI τ m := ⟨hx.le.trans D_I⟩
    haveI : AsI σ k := ⟨hy.le.trans D_I⟩
    exact OpY.toD (I_D (by omega) (by have := hm.2; omega)) (OpY.quo (x := x) (y := y) (τ := τ) (σ := σ) (m := m) (k := k) hc.1 hm.2 hc.2) a w hB hu hp hl
  · cases h
theorem OpD.rem (h : remI m k = some z) : OpY P B0 A Ω Γ ⟨dst, .binOp .rem t x y u, ty, pos, aft, gd⟩ (D z) := fun a w hB hu hp hl => by
  unfold remI at h; split at h
  · rename_i hc
    injection h with h; subst h
    obtain ⟨e1, e2, hm, hk⟩ := evD2 (x := x) (y := y) (τ := τ) (σ := σ) (t := t) (u := u) (m := m) (k := k) (A := A) (op := .rem) hl
    have hd0 : 0 ≤ m % k := Int.emod_nonneg _ (by omega)
    have hd1 : m % k < k := Int.emod_lt_of_pos _ hc.2
    haveI : AsI τ m := ⟨hx.le.trans D_I⟩
    haveI : AsI σ k := ⟨hy.le.trans D_I⟩
    exact OpY.toD (I_D (by omega) (by have := hk.2; omega)) (OpY.rem (x := x) (y := y) (τ := τ) (σ := σ) (m := m) (k := k) hc.1 hc.2) a w hB hu hp hl
  · cases h
end intD
theorem OpD.min {x y : Operand} {τ σ : Ty} {ts : Array TypeId} {m k : Int} [hsx : Has Γ x τ] [hx : ToD τ Int inferInstance m] [hsy : Has Γ y σ] [hy : ToD σ Int inferInstance k] :
    OpY P B0 A Ω Γ ⟨dst, .call { callee := .builtin .min, args := #[x, y], argTypes := ts }, ty, pos, aft, gd⟩ (D (min m k)) := fun a w hB hu hp hl => by
  have h1 := D.wf (hx.le _ _ _ (Has.ev (x := x) (τ := τ) (op := .call { callee := .builtin .min, args := #[x, y], argTypes := ts }) (by simp [Op.operands, Call.operands]) hl))
  have h2 := D.wf (hy.le _ _ _ (Has.ev (x := y) (τ := σ) (op := .call { callee := .builtin .min, args := #[x, y], argTypes := ts }) (by simp [Op.operands, Call.operands]) hl))
  haveI : AsI τ m := ⟨hx.le.trans D_I⟩
  haveI : AsI σ k := ⟨hy.le.trans D_I⟩
  have h1 : intIn m := h1
  have h2 : intIn k := h2
  unfold intIn at h1 h2
  exact OpY.toD (I_D (by omega) (by omega)) (OpY.minI (x := x) (y := y) (τ := τ) (σ := σ) (m := m) (k := k)) a w hB hu hp hl
theorem OpD.max {x y : Operand} {τ σ : Ty} {ts : Array TypeId} {m k : Int} [hsx : Has Γ x τ] [hx : ToD τ Int inferInstance m] [hsy : Has Γ y σ] [hy : ToD σ Int inferInstance k] :
    OpY P B0 A Ω Γ ⟨dst, .call { callee := .builtin .max, args := #[x, y], argTypes := ts }, ty, pos, aft, gd⟩ (D (max m k)) := fun a w hB hu hp hl => by
  have h1 := D.wf (hx.le _ _ _ (Has.ev (x := x) (τ := τ) (op := .call { callee := .builtin .max, args := #[x, y], argTypes := ts }) (by simp [Op.operands, Call.operands]) hl))
  have h2 := D.wf (hy.le _ _ _ (Has.ev (x := y) (τ := σ) (op := .call { callee := .builtin .max, args := #[x, y], argTypes := ts }) (by simp [Op.operands, Call.operands]) hl))
  haveI : AsI τ m := ⟨hx.le.trans D_I⟩
  haveI : AsI σ k := ⟨hy.le.trans D_I⟩
  have h1 : intIn m := h1
  have h2 : intIn k := h2
  unfold intIn at h1 h2
  exact OpY.toD (I_D (by omega) (by omega)) (OpY.maxI (x := x) (y := y) (τ := τ) (σ := σ) (m := m) (k := k)) a w hB hu hp hl
/-! lengths -/
theorem OpD.len {t e : TypeId} {x : Operand} {τ : Ty} {α : Type} {i : Dat α} {xs : List α} [hsx : Has Γ x τ] [hx : AsL τ α i xs] [S : TSl P t e] :
    OpY P B0 A Ω Γ ⟨dst, .call { callee := .builtin .len, args := #[x], argTypes := #[t] }, ty, pos, aft, gd⟩ (D (xs.length : Int)) := fun a w hB hu hp hl => by
  have h1 := (D.wf (hx.le _ _ _ (Has.ev (x := x) (τ := τ) (op := .call { callee := .builtin .len, args := #[x], argTypes := #[t] }) (by simp [Op.operands, Call.operands]) hl))).1
  have h1 : xs.length ≤ most := h1
  unfold most at h1
  exact OpY.toD (I_D (by omega) (by omega)) (OpY.len (x := x) (τ := τ) (xs := xs)) a w hB hu hp hl
theorem OpD.lenNil {t e : TypeId} {x : Operand} [hsx : Has Γ x NilS] [S : TSl P t e] :
    OpY P B0 A Ω Γ ⟨dst, .call { callee := .builtin .len, args := #[x], argTypes := #[t] }, ty, pos, aft, gd⟩ (D (0 : Int)) :=
  OpY.toD (I_D (by omega) (by omega)) OpY.lenNil
theorem OpD.lenSv {t e : TypeId} {x : Operand} {τ : Ty} {b o m n : Nat} {pr : Prop} [hsx : Has Γ x τ] [ka : AsSv τ b pr o m] [S : TSl P t e] (hn : m = n) :
    OpY P B0 A Ω Γ ⟨dst, .call { callee := .builtin .len, args := #[x], argTypes := #[t] }, ty, pos, aft, gd⟩ (D (n : Int)) := fun a w hB hu hp hl => by
  subst hn
  have h := ka.le _ _ _ (Has.ev (x := x) (τ := τ) (op := .call { callee := .builtin .len, args := #[x], argTypes := #[t] }) (by simp [Op.operands, Call.operands]) hl)
  have h1 : m ≤ 9223372036854775807 := by
    rcases h with ⟨_, o', c, _, h2, _⟩ | ⟨_, h2, _⟩
    · unfold maxLen at h2; omega
    · omega
  exact OpY.toD (I_D (by omega) (by omega)) (OpY.lenSv (x := x) (τ := τ) (b := b) (o := o) (m := m) (pr := pr)) a w hB hu hp hl
/-! conversions -/
section cv
variable {s d : TypeId} {x : Operand} {τ : Ty} [hsx : Has Γ x τ]
include hsx
theorem OpD.conv8_i {m : UInt8} [hx : AsU8 τ m] [S : TIn P s .u8] [T : TIn P d .i64] : OpY P B0 A Ω Γ ⟨dst, .convert s d x, ty, pos, aft, gd⟩ (D (m.toNat : Int)) := OpY.toD (I_D (by omega) (by have := natU8 m; omega)) OpY.conv8_i
theorem OpD.conv16_i {m : UInt16} [hx : AsU16 τ m] [S : TIn P s .u16] [T : TIn P d .i64] : OpY P B0 A Ω Γ ⟨dst, .convert s d x, ty, pos, aft, gd⟩ (D (m.toNat : Int)) := OpY.toD (I_D (by omega) (by have := natU16 m; omega)) OpY.conv16_i
theorem OpD.conv32_i {m : UInt32} [hx : AsU32 τ m] [S : TIn P s .u32] [T : TIn P d .i64] : OpY P B0 A Ω Γ ⟨dst, .convert s d x, ty, pos, aft, gd⟩ (D (m.toNat : Int)) := OpY.toD (I_D (by omega) (by have := natU32 m; omega)) OpY.conv32_i
theorem OpD.conv64_i {m : UInt64} {z : Int} [hx : AsU64 τ m] [S : TIn P s .u64] [T : TIn P d .i64] (h : ok64 m.toNat = some z) : OpY P B0 A Ω Γ ⟨dst, .convert s d x, ty, pos, aft, gd⟩ (D z) := by
  obtain ⟨rfl, h1, h2⟩ := ok64_some h; exact OpY.toD (I_D h1 h2) (OpY.conv64_i (by omega))
theorem OpD.convi_i {z : Int} [hx : ToD τ Int inferInstance z] [S : TIn P s .i64] [T : TIn P d .i64] : OpY P B0 A Ω Γ ⟨dst, .convert s d x, ty, pos, aft, gd⟩ (D z) := fun a w hB hu hp hl => by
  have h1 := D.wf (hx.le _ _ _ (Has.ev (x := x) (τ := τ) (op := .convert s d x) (by simp [Op.operands]) hl))
  have h1 : intIn z := h1
  haveI : AsI τ z := ⟨hx.le.trans D_I⟩
  exact OpY.toD (I_D h1.1 h1.2) (OpY.convi_i (x := x) (τ := τ) (z := z) h1.1 h1.2) a w hB hu hp hl
end cv
instance {n : Int} : AsCnt (D n) n := ⟨fun A w v h => ⟨.i64, D_I _ _ _ h⟩⟩
instance {x : UInt8} : AsCnt (D x) x.toNat := ⟨fun A w v h => ⟨.u8, D_U8 _ _ _ h⟩⟩
instance {x : UInt16} : AsCnt (D x) x.toNat := ⟨fun A w v h => ⟨.u16, D_U16 _ _ _ h⟩⟩
instance {x : UInt32} : AsCnt (D x) x.toNat := ⟨fun A w v h => ⟨.u32, D_U32 _ _ _ h⟩⟩
instance {x : UInt64} : AsCnt (D x) x.toNat := ⟨fun A w v h => ⟨.u64, D_U64 _ _ _ h⟩⟩
/-! pieces -/
section sl
variable {t e : TypeId} {x y z : Operand} {τ σ ρ : Ty} {α : Type} {i : Dat α} {xs : List α} {l r : Int} {u : Unit}
theorem OpD.index [Has Γ x τ] [hx : AsL τ α i xs] [Has Γ y σ] [hy : AsIx σ l] [S : TSl P t e] [T : TDat P e α i] {v : α} (h : idx xs l = some v) : OpY P B0 A Ω Γ ⟨dst, .indexAddr t x y, ty, pos, aft, gd⟩ (PtrD v) :=
  OpY.indexAddr (idx_some h).1 (idx_some h).2
theorem OpD.slice2 [hsx : Has Γ x τ] [hx : AsL τ α i xs] [hsy : Has Γ y σ] [hy : AsI σ l] [hsz : Has Γ z ρ] [hz : AsI ρ r] [S : TSl P t e] [T : TDat P e α i] (h : cut xs.length l r = some u) :
    OpY P B0 A Ω Γ ⟨dst, .slice t x (some y) (some z) none, ty, pos, aft, gd⟩ (D ((xs.take r.toNat).drop l.toNat)) := by
  obtain ⟨h1, h2, h3⟩ := cut_some h; exact OpY.slice2 h1 h2 h3
theorem OpD.sliceTo [hsx : Has Γ x τ] [hx : AsL τ α i xs] [hsz : Has Γ z ρ] [hz : AsI ρ r] [S : TSl P t e] [T : TDat P e α i] (h : cut xs.length 0 r = some u) :
    OpY P B0 A Ω Γ ⟨dst, .slice t x none (some z) none, ty, pos, aft, gd⟩ (D (xs.take r.toNat)) := by
  obtain ⟨h1, h2, h3⟩ := cut_some h; exact OpY.sliceTo h2 h3
theorem OpD.sliceFrom [hsx : Has Γ x τ] [hx : AsL τ α i xs] [hsy : Has Γ y σ] [hy : AsI σ l] [S : TSl P t e] [T : TDat P e α i] (h : cut xs.length l xs.length = some u) :
    OpY P B0 A Ω Γ ⟨dst, .slice t x (some y) none none, ty, pos, aft, gd⟩ (D (xs.drop l.toNat)) := by
  obtain ⟨h1, h2, h3⟩ := cut_some h; exact OpY.sliceFrom h1 h2
end sl
end ops
/-- the length of what is appended -/
theorem room_app {bt m k : Nat} {u : Unit} (h : room bt ((m + k : Nat) : Int) = some u) : (m + k) * bt ≤ 140737488355328 ∧ m + k ≤ most := by
  obtain ⟨h1, h2, h3⟩ := room_some h
  rw [← Int.natCast_mul] at h2
  unfold most
  exact ⟨by omega, by omega⟩
theorem room_make {bt : Nat} {n : Int} {u : Unit} (h : room bt n = some u) : 0 ≤ n ∧ bt * n.toNat ≤ 281474976710656 ∧ n ≤ 140737488351232 := by
  obtain ⟨h1, h2, h3⟩ := room_some h
  refine ⟨h1, ?_, h3⟩
  have : ((bt * n.toNat : Nat) : Int) ≤ 281474976710656 := by rw [Int.natCast_mul, Int.toNat_of_nonneg h1, Int.mul_comm]; omega
  omega
end Go.Proofs.Ytfdmajkeihdhnaa.Tr
