/- Function values: data that answer as a plain function does. Conditions: none. -/
import Derived.Test.YtfdmajkeihdhnaaMx
namespace Go.Proofs.Ytfdmajkeihdhnaa.Tr
open Go Go.RowKit
set_option linter.unusedVariables false
set_option linter.unnecessarySimpa false

/-- a function value that is called -/
def CallV (P : Program) (v : Value) (args : List Value) (w : World) (R : Ending → World → Prop) : Prop :=
  ∃ f first captured, v = .func (.func f) first captured ∧ Fun P f ∧ Calls P f (first ++ args.toArray ++ captured) w R
theorem CallV.of {P : Program} {f : FuncId} {first captured : Array Value} {args : List Value} {w : World} {R : Ending → World → Prop} [F : Fun P f] (h : Calls P f (first ++ args.toArray ++ captured) w R) : CallV P (.func (.func f) first captured) args w R := ⟨f, first, captured, rfl, F, h⟩
structure F1 (P : Program) (α β : Type) where
  f : α → Option β
structure F2 (P : Program) (α β γ : Type) where
  f : α → β → Option γ
instance instF1 {P : Program} {α β : Type} [i : Dat α] [j : Dat β] : Dat (F1 P α β) where
  agg := false
  sz := 1
  rd A w cs F := ∃ v, cs = [v] ∧ v.cells = #[v] ∧ v.oneCell' = true ∧ ∀ A' w' u x y, Keep A A' w w' → (∀ k, w'.heap.size ≤ k → A' k) → (D x).p A' w' u → F.f x = some y → CallV P v [u] w' (Ret A' w' (D y))
  wf _ := True
  len := fun ⟨_, h, _⟩ => one_cell h
  one _ := rfl
  pos := Nat.one_pos
  ok _ := trivial
  plain _ := fun ⟨v, h, h2, _⟩ => by simp at h; rw [h]; exact h2
  mono k := fun ⟨v, h1, h2, h3, h4⟩ => ⟨v, h1, h2, h3, fun A' w' u x y hk => h4 A' w' u x y (k.trans hk)⟩
  scal := fun ⟨v, h1, h2, h3, _⟩ u hu => by subst h1; obtain rfl := List.mem_singleton.1 hu; exact h3
  z := ⟨fun _ => none⟩
  zc := [.nilFunc]
  zrd := ⟨_, rfl, rfl, rfl, fun _ _ _ _ _ _ _ _ h => by cases h⟩
instance instF2 {P : Program} {α β γ : Type} [i : Dat α] [j : Dat β] [k : Dat γ] : Dat (F2 P α β γ) where
  agg := false
  sz := 1
  rd A w cs F := ∃ v, cs = [v] ∧ v.cells = #[v] ∧ v.oneCell' = true ∧ ∀ A' w' u1 u2 x1 x2 y, Keep A A' w w' → (∀ k, w'.heap.size ≤ k → A' k) → (D x1).p A' w' u1 → (D x2).p A' w' u2 → F.f x1 x2 = some y → CallV P v [u1, u2] w' (Ret A' w' (D y))
  wf _ := True
  len := fun ⟨_, h, _⟩ => one_cell h
  one _ := rfl
  pos := Nat.one_pos
  ok _ := trivial
  plain _ := fun ⟨v, h, h2, _⟩ => by simp at h; rw [h]; exact h2
  mono k := fun ⟨v, h1, h2, h3, h4⟩ => ⟨v, h1, h2, h3, fun A' w' u1 u2 x1 x2 y hk => h4 A' w' u1 u2 x1 x2 y (k.trans hk)⟩
  scal := fun ⟨v, h1, h2, h3, _⟩ u hu => by subst h1; obtain rfl := List.mem_singleton.1 hu; exact h3
  z := ⟨fun _ _ => none⟩
  zc := [.nilFunc]
  zrd := ⟨_, rfl, rfl, rfl, fun _ _ _ _ _ _ _ _ _ _ _ h => by cases h⟩
/-- the functions of the text as values -/
theorem F1.const {P : Program} {f : FuncId} {α β : Type} [i : Dat α] [j : Dat β] [F : Fun P f] {g : α → Option β}
    (h : ∀ {A : Nat → Prop} {x : α} {y : β} w v0, (∀ k, w.heap.size ≤ k → A k) → (D x).p A w v0 → g x = some y → Calls P f #[v0] w (Ret A w (D y))) {A : Nat → Prop} {w : World} :
    (D (⟨g⟩ : F1 P α β)).p A w (.func (.func f) #[] #[]) := ⟨[_], ⟨_, rfl, rfl, rfl, fun A' w' u x y _ hu hx hy => CallV.of (by simpa using h w' u hu hx hy)⟩, rfl⟩
theorem F2.const {P : Program} {f : FuncId} {α β γ : Type} [i : Dat α] [j : Dat β] [k : Dat γ] [F : Fun P f] {g : α → β → Option γ}
    (h : ∀ {A : Nat → Prop} {x1 : α} {x2 : β} {y : γ} w v0 v1, (∀ k, w.heap.size ≤ k → A k) → (D x1).p A w v0 → (D x2).p A w v1 → g x1 x2 = some y → Calls P f #[v0, v1] w (Ret A w (D y))) {A : Nat → Prop} {w : World} :
    (D (⟨g⟩ : F2 P α β γ)).p A w (.func (.func f) #[] #[]) := ⟨[_], ⟨_, rfl, rfl, rfl, fun A' w' u1 u2 x1 x2 y _ hu h1 h2 hy => CallV.of (by simpa using h w' u1 u2 hu h1 h2 hy)⟩, rfl⟩
/-- what a function of the text is as a value -/
class FnIs (P : Program) (f : FuncId) (α : outParam Type) (i : outParam (Dat α)) (x : outParam α) : Prop where
  h : ∀ (A : Nat → Prop) (w : World), (D x).p A w (.func (.func f) #[] #[])
section ops
variable {P : Program} {B0 : Nat} {A : Nat → Prop} {Ω : List Pe} {Γ : Env} {dst : Option Tmp} {ty : TypeId} {pos : String} {aft : Array Edge} {gd : Option (Nat × Bool)}
variable {α β γ : Type} {i : Dat α} {j : Dat β} {k : Dat γ} {f : FuncId} {ts : Array TypeId}
/-- a call through a function value -/
theorem OpY.callV1 {c x1 : Operand} {σ τ1 : Ty} {F : F1 P α β} {x : α} {y : β} [hc : Has Γ c σ] [kc : ToD σ (F1 P α β) instF1 F] [h1 : Has Γ x1 τ1] [k1 : ToD τ1 α i x] (hy : F.f x = some y) :
    OpY P B0 A Ω Γ ⟨dst, .call { callee := .value c, args := #[x1], argTypes := ts }, ty, pos, aft, gd⟩ (D y) := fun a w hB hu hp hl => by
  obtain ⟨cs, ⟨v, rfl, e2, e3, h4⟩, e5⟩ := kc.le _ _ _ (hc.le a A w fun t e => hl t (by simp [Op.operands, Call.operands, e]))
  have e5 : a.eval c = v := e5
  have g1 := k1.le _ _ _ (h1.le a A w fun t e => hl t (by simp [Op.operands, Call.operands, e]))
  obtain ⟨f, first, captured, rfl, Fn, hcall⟩ := h4 A w _ x y (Keep.refl _ _) hu g1 hy
  have : (execOp a.eval ⟨dst, .call { callee := .value c, args := #[x1], argTypes := ts }, ty, pos, aft, gd⟩).run P w = .ok (.enter f (first ++ #[a.eval x1] ++ captured)) w := by
    simp only [execOp, resolve, Deferred.ofValue, e5, Sem.run_bind, Sem.run_pure, Result.andThen_ok, invoke, Fn.h, List.map_toArray, List.map_cons, List.map_nil]
  rw [this]
  exact ⟨Grow.refl _ _, hcall.mono fun e w' hr => hr.yields hB⟩
theorem OpY.callV2 {c x1 x2 : Operand} {σ τ1 τ2 : Ty} {F : F2 P α β γ} {x : α} {x' : β} {y : γ} [hc : Has Γ c σ] [kc : ToD σ (F2 P α β γ) instF2 F] [h1 : Has Γ x1 τ1] [k1 : ToD τ1 α i x] [h2 : Has Γ x2 τ2] [k2 : ToD τ2 β j x'] (hy : F.f x x' = some y) :
    OpY P B0 A Ω Γ ⟨dst, .call { callee := .value c, args := #[x1, x2], argTypes := ts }, ty, pos, aft, gd⟩ (D y) := fun a w hB hu hp hl => by
  obtain ⟨cs, ⟨v, rfl, e2, e3, h4⟩, e5⟩ := kc.le _ _ _ (hc.le a A w fun t e => hl t (by simp [Op.operands, Call.operands, e]))
  have e5 : a.eval c = v := e5
  have g1 := k1.le _ _ _ (h1.le a A w fun t e => hl t (by simp [Op.operands, Call.operands, e]))
  have g2 := k2.le _ _ _ (h2.le a A w fun t e => hl t (by simp [Op.operands, Call.operands, e]))
  obtain ⟨f, first, captured, rfl, Fn, hcall⟩ := h4 A w _ _ x x' y (Keep.refl _ _) hu g1 g2 hy
  have : (execOp a.eval ⟨dst, .call { callee := .value c, args := #[x1, x2], argTypes := ts }, ty, pos, aft, gd⟩).run P w = .ok (.enter f (first ++ #[a.eval x1, a.eval x2] ++ captured)) w := by
    simp only [execOp, resolve, Deferred.ofValue, e5, Sem.run_bind, Sem.run_pure, Result.andThen_ok, invoke, Fn.h, List.map_toArray, List.map_cons, List.map_nil]
  rw [this]
  exact ⟨Grow.refl _ _, hcall.mono fun e w' hr => hr.yields hB⟩
/-- closures: of one argument, or two, that capture one value, or two -/
theorem OpY.mk1_1 {c1 : Operand} {τ1 σ1 : Ty} [F : Fun P f] [h1 : Has Γ c1 τ1] [k1 : AsT τ1 σ1] {g : α → Option β}
    (h : ∀ {A : Nat → Prop} {x : α} {y : β} w v0 v1, (∀ k, w.heap.size ≤ k → A k) → (D x).p A w v0 → σ1.p A w v1 → g x = some y → Calls P f #[v0, v1] w (Ret A w (D y))) :
    OpY P B0 A Ω Γ ⟨dst, .makeFunc (.func f) #[] #[c1], ty, pos, aft, gd⟩ (D (⟨g⟩ : F1 P α β)) :=
  OpY.val fun a w hl => by
    have e1 := k1.le _ _ _ (h1.le a A w fun t e => hl t (by simp [Op.operands, e]))
    refine ⟨_, ?_, [_], ⟨.func (.func f) #[] #[a.eval c1], rfl, rfl, rfl, fun A' w' u x y hk hu hx hy => CallV.of (by simpa using h w' u _ hu hx (σ1.keep hk e1) hy)⟩, rfl⟩
    simp [execOp, Instr.makeFunc, mkV, Dat.agg]
theorem OpY.mk1_2 {c1 c2 : Operand} {τ1 σ1 τ2 σ2 : Ty} [F : Fun P f] [h1 : Has Γ c1 τ1] [k1 : AsT τ1 σ1] [h2 : Has Γ c2 τ2] [k2 : AsT τ2 σ2] {g : α → Option β}
    (h : ∀ {A : Nat → Prop} {x : α} {y : β} w v0 v1 v2, (∀ k, w.heap.size ≤ k → A k) → (D x).p A w v0 → σ1.p A w v1 → σ2.p A w v2 → g x = some y → Calls P f #[v0, v1, v2] w (Ret A w (D y))) :
    OpY P B0 A Ω Γ ⟨dst, .makeFunc (.func f) #[] #[c1, c2], ty, pos, aft, gd⟩ (D (⟨g⟩ : F1 P α β)) :=
  OpY.val fun a w hl => by
    have e1 := k1.le _ _ _ (h1.le a A w fun t e => hl t (by simp [Op.operands, e]))
    have e2 := k2.le _ _ _ (h2.le a A w fun t e => hl t (by simp [Op.operands, e]))
    refine ⟨_, ?_, [_], ⟨.func (.func f) #[] #[a.eval c1, a.eval c2], rfl, rfl, rfl, fun A' w' u x y hk hu hx hy => CallV.of (by simpa using h w' u _ _ hu hx (σ1.keep hk e1) (σ2.keep hk e2) hy)⟩, rfl⟩
    simp [execOp, Instr.makeFunc, mkV, Dat.agg]
theorem OpY.mk2_0 [F : Fun P f] {g : α → β → Option γ}
    (h : ∀ {A : Nat → Prop} {x1 : α} {x2 : β} {y : γ} w v0 v1, (∀ k, w.heap.size ≤ k → A k) → (D x1).p A w v0 → (D x2).p A w v1 → g x1 x2 = some y → Calls P f #[v0, v1] w (Ret A w (D y))) :
    OpY P B0 A Ω Γ ⟨dst, .makeFunc (.func f) #[] #[], ty, pos, aft, gd⟩ (D (⟨g⟩ : F2 P α β γ)) :=
  OpY.val fun a w hl => ⟨_, by simp [execOp, Instr.makeFunc], F2.const (P := P) (f := f) h⟩
theorem OpY.mk2_1 {c1 : Operand} {τ1 σ1 : Ty} [F : Fun P f] [h1 : Has Γ c1 τ1] [k1 : AsT τ1 σ1] {g : α → β → Option γ}
    (h : ∀ {A : Nat → Prop} {x1 : α} {x2 : β} {y : γ} w v0 v1 v2, (∀ k, w.heap.size ≤ k → A k) → (D x1).p A w v0 → (D x2).p A w v1 → σ1.p A w v2 → g x1 x2 = some y → Calls P f #[v0, v1, v2] w (Ret A w (D y))) :
    OpY P B0 A Ω Γ ⟨dst, .makeFunc (.func f) #[] #[c1], ty, pos, aft, gd⟩ (D (⟨g⟩ : F2 P α β γ)) :=
  OpY.val fun a w hl => by
    have e1 := k1.le _ _ _ (h1.le a A w fun t e => hl t (by simp [Op.operands, e]))
    refine ⟨_, ?_, [_], ⟨.func (.func f) #[] #[a.eval c1], rfl, rfl, rfl, fun A' w' u1 u2 x1 x2 y hk hu hx1 hx2 hy => CallV.of (by simpa using h w' u1 u2 _ hu hx1 hx2 (σ1.keep hk e1) hy)⟩, rfl⟩
    simp [execOp, Instr.makeFunc, mkV, Dat.agg]
end ops
end Go.Proofs.Ytfdmajkeihdhnaa.Tr
