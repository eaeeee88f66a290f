/- Structs held against each other. Conditions: none. -/
import Derived.Test.YtfdmajkeihdhnaaRs
import Derived.Laws.StructEq
namespace Go.Proofs.Ytfdmajkeihdhnaa.Tr
open Go Go.RowKit
set_option linter.unusedVariables false
set_option linter.unnecessarySimpa false

/-- the values of a type are equal where the data are -/
structure EqN (P : Program) (t : TypeId) (α : Type) (i : Dat α) (n : Nat) [DecidableEq α] : Prop where
  h : ∀ {A : Nat → Prop} (w : World) (d : Nat) {cs ds : List Value} {x y : α}, Dat.rd A w cs x → Dat.rd A w ds y → (Op.equalIn (d + n + 1) t (mkV α cs) (mkV α ds)).run P w = .ok (decide (x = y)) w
section
variable {P : Program} {t u : TypeId} {n : Nat}
theorem EqN.i64 {k : IntKind} (hu : P.underlying t = some (.int k)) : EqN P t Int inferInstance n := ⟨fun {A} w d {cs ds x y} hx hy => by
  obtain ⟨rfl, -⟩ := hx
  obtain ⟨rfl, -⟩ := hy
  show (Op.equalIn (d + n + 1) t (.int .i64 x) (.int .i64 y)).run P w = _
  rw [run_equalIn_int w (d + n) t .i64 k x y hu]
  by_cases h : x = y <;> simp [h]⟩
theorem EqN.u8 {k : IntKind} (hu : P.underlying t = some (.int k)) : EqN P t UInt8 inferInstance n := ⟨fun {A} w d {cs ds x y} hx hy => by
  have hx : cs = [.int .u8 x.toNat] := hx
  have hy : ds = [.int .u8 y.toNat] := hy
  subst hx; subst hy
  show (Op.equalIn (d + n + 1) t (.int .u8 x.toNat) (.int .u8 y.toNat)).run P w = _
  rw [run_equalIn_int w (d + n) t .u8 k _ _ hu]
  have e3 : ((x.toNat : Int) = (y.toNat : Int)) ↔ x = y := by rw [Int.natCast_inj, UInt8.toNat_inj]
  have e4 : ((x.toNat : Int) == (y.toNat : Int)) = decide (x = y) := by rw [Bool.eq_iff_iff]; simp only [beq_iff_eq, e3, decide_eq_true_eq]
  rw [e4]⟩
theorem EqN.bool (hu : P.underlying t = some .bool) : EqN P t Bool inferInstance n := ⟨fun {A} w d {cs ds x y} hx hy => by
  have hx : cs = [.bool x] := hx
  have hy : ds = [.bool y] := hy
  subst hx; subst hy
  show (Op.equalIn (d + n + 1) t (.bool x) (.bool y)).run P w = _
  rw [run_equalIn_bool' w (d + n) t x y hu]
  cases x <;> cases y <;> rfl⟩
theorem eqF_nil {d : Nat} {xs ys : Array Value} {w : World} : (Op.eqFields d xs ys []).run P w = .ok true w := by simp [Op.eqFields]
theorem eqF_cons {f : Field} {rest : List Field} {off : Nat} {β : Type} {j : Dat β} [DecidableEq β] (hn : f.name ≠ "_") (hu : f.type = u) (ho : f.offset = off) [T : TDat P u β j] (E : EqN P u β j n) {A : Nat → Prop} {w : World} {d : Nat} {cs ds : List Value} {a b : β} {r : Bool}
    (la : off + Dat.sz β ≤ cs.length) (lb : off + Dat.sz β ≤ ds.length) (ra : Dat.rd A w (seg cs off (Dat.sz β)) a) (rb : Dat.rd A w (seg ds off (Dat.sz β)) b)
    (hr : (Op.eqFields (d + n + 1) cs.toArray ds.toArray rest).run P w = .ok r w) : (Op.eqFields (d + n + 1) cs.toArray ds.toArray (f :: rest)).run P w = .ok (decide (a = b) && r) w := by
  subst hu; subst ho
  simp only [Op.eqFields, if_pos hn, Sem.run_bind, run_part (P := P) (u := f.type) ra la, run_part (P := P) (u := f.type) rb lb, Result.andThen_ok, E.h w d ra rb]
  by_cases h : a = b
  · simp [h, hr]
  · simp [h]
theorem EqN.struct {α : Type} {i : Dat α} [DecidableEq α] {fs : Array Field} (hu : P.underlying t = some (.struct fs)) (hp : P.stoodInHeld t = false) (ha : Dat.agg α = true)
    (hf : ∀ {A : Nat → Prop} (w : World) (d : Nat) {cs ds : List Value} {x y : α}, Dat.rd A w cs x → Dat.rd A w ds y → (Op.eqFields (d + n + 1) cs.toArray ds.toArray fs.toList).run P w = .ok (decide (x = y)) w) : EqN P t α i (n + 1) := ⟨fun {A} w d {cs ds x y} hx hy => by
  have hfs : P.fieldsOf t = fs := by unfold Program.fieldsOf; rw [hu]
  have e1 : mkV α cs = .agg cs.toArray := by unfold mkV; rw [ha]; rfl
  have e2 : mkV α ds = .agg ds.toArray := by unfold mkV; rw [ha]; rfl
  rw [e1, e2, run_equalIn_agg w (d + (n + 1)) t _ _ (by rw [hfs]; exact hu) hp, hfs]
  exact hf w d hx hy⟩
variable {B0 : Nat} {A : Nat → Prop} {Ω : List Pe} {Γ : Env} {dst : Option Tmp} {ty : TypeId} {pos : String} {aft : Array Edge} {gd : Option (Nat × Bool)}
variable {α : Type} {i : Dat α} [DecidableEq α] {x y : Operand} {τ σ : Ty} {m k : α}
theorem OpY.neq_agg [Has Γ x τ] [hx : AsD τ α i m] [Has Γ y σ] [hy : AsD σ α i k] (E : EqN P t α i n) (hn : n < 10000) (hg : P.eqGuardType P.depth t = false) (ha : Dat.agg α = true) : OpY P B0 A Ω Γ ⟨dst, .binOp .neq t x y u, ty, pos, aft, gd⟩ (B (decide (m ≠ k))) :=
  OpY.val fun a w hl => by
    obtain ⟨cs, h1, h2⟩ := hx.le _ _ _ (Has.ev (x := x) (τ := τ) (op := .binOp .neq t x y u) (by simp [Op.operands]) hl)
    obtain ⟨ds, h3, h4⟩ := hy.le _ _ _ (Has.ev (x := y) (τ := σ) (op := .binOp .neq t x y u) (by simp [Op.operands]) hl)
    have e1 : mkV α cs = .agg cs.toArray := by unfold mkV; rw [ha]; rfl
    have e2 : mkV α ds = .agg ds.toArray := by unfold mkV; rw [ha]; rfl
    have h5 := E.h w (9999 - n) h1 h3
    rw [show 9999 - n + n + 1 = 10000 by omega, e1, e2] at h5
    refine ⟨.bool (decide (m ≠ k)), ?_, rfl⟩
    simp only [execOp, h2, h4, e1, e2, Sem.run_bind, run_eqGuard_agg w .neq t x y _ _ hg, Result.andThen_ok, run_neq_struct, h5, Sem.run_pure]
    by_cases h : m = k <;> simp [h]
theorem OpY.eql_agg [Has Γ x τ] [hx : AsD τ α i m] [Has Γ y σ] [hy : AsD σ α i k] (E : EqN P t α i n) (hn : n < 10000) (hg : P.eqGuardType P.depth t = false) (ha : Dat.agg α = true) : OpY P B0 A Ω Γ ⟨dst, .binOp .eql t x y u, ty, pos, aft, gd⟩ (B (decide (m = k))) :=
  OpY.val fun a w hl => by
    obtain ⟨cs, h1, h2⟩ := hx.le _ _ _ (Has.ev (x := x) (τ := τ) (op := .binOp .eql t x y u) (by simp [Op.operands]) hl)
    obtain ⟨ds, h3, h4⟩ := hy.le _ _ _ (Has.ev (x := y) (τ := σ) (op := .binOp .eql t x y u) (by simp [Op.operands]) hl)
    have e1 : mkV α cs = .agg cs.toArray := by unfold mkV; rw [ha]; rfl
    have e2 : mkV α ds = .agg ds.toArray := by unfold mkV; rw [ha]; rfl
    have h5 := E.h w (9999 - n) h1 h3
    rw [show 9999 - n + n + 1 = 10000 by omega, e1, e2] at h5
    refine ⟨.bool (decide (m = k)), ?_, rfl⟩
    simp only [execOp, h2, h4, e1, e2, Sem.run_bind, run_eqGuard_agg w .eql t x y _ _ hg, Result.andThen_ok, run_eql_struct, h5, Sem.run_pure]
end
end Go.Proofs.Ytfdmajkeihdhnaa.Tr
