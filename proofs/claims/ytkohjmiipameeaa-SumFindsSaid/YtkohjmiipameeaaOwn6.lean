/- More operations: bools against each other. Conditions: none. -/
import Derived.Test.YtkohjmiipameeaaOwn5
import Derived.Laws.Small
namespace Go.Proofs.Ytkohjmiipameeaa.Tr
open Go Go.RowKit
set_option linter.unusedVariables false
set_option linter.unnecessarySimpa false
instance : Ft True := ⟨trivial⟩
section ops
variable {P : Program} {B0 : Nat} {Γ : Env} {A : Nat → Prop}
variable {dst : Option Tmp} {ty : TypeId} {pos : String} {aft : Array Edge} {gd : Option (Nat × Bool)} {t : TypeId}

theorem OpY.eql_bool {x y : Operand} {τ σ : Ty} {u : TypeId} {l m : Bool} [Has Γ x τ] [hx : AsB τ l] [Has Γ y σ] [hy : AsB σ m] (hb : P.underlying t = some .bool) :
    OpY P B0 Γ ⟨dst, .binOp .eql t x y u, ty, pos, aft, gd⟩ (B (decide (l = m))) :=
  OpY.val fun a w hl => ⟨.bool (decide (l = m)), by
    have e1 : a.eval x = .bool l := hx.le _ _ (Has.ev (x := x) (τ := τ) (op := .binOp .eql t x y u) (by simp [Op.operands]) hl)
    have e2 : a.eval y = .bool m := hy.le _ _ (Has.ev (x := y) (τ := σ) (op := .binOp .eql t x y u) (by simp [Op.operands]) hl)
    have e3 : (l == m) = decide (l = m) := by rw [Bool.eq_iff_iff]; simp
    simp only [execOp, e1, e2, eqGuard_at_bool, run_eql_bool w t l m hb, e3, Sem.run_bind, Sem.run_pure, Result.andThen_ok], rfl⟩
theorem OpY.neq_bool {x y : Operand} {τ σ : Ty} {u : TypeId} {l m : Bool} [Has Γ x τ] [hx : AsB τ l] [Has Γ y σ] [hy : AsB σ m] (hb : P.underlying t = some .bool) :
    OpY P B0 Γ ⟨dst, .binOp .neq t x y u, ty, pos, aft, gd⟩ (B (decide (l ≠ m))) :=
  OpY.val fun a w hl => ⟨.bool (decide (l ≠ m)), by
    have e1 : a.eval x = .bool l := hx.le _ _ (Has.ev (x := x) (τ := τ) (op := .binOp .neq t x y u) (by simp [Op.operands]) hl)
    have e2 : a.eval y = .bool m := hy.le _ _ (Has.ev (x := y) (τ := σ) (op := .binOp .neq t x y u) (by simp [Op.operands]) hl)
    have e3 : (l == m) = decide (l = m) := by rw [Bool.eq_iff_iff]; simp
    simp only [execOp, e1, e2, eqGuard_at_bool, run_neq_bool w t l m hb, e3, decide_not, Sem.run_bind, Sem.run_pure, Result.andThen_ok], rfl⟩
end ops
end Go.Proofs.Ytkohjmiipameeaa.Tr
