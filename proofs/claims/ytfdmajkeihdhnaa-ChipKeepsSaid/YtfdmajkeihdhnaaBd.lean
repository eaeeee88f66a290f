/- Structs built from parts; private blocks given out. Conditions: none. -/
import Derived.Test.YtfdmajkeihdhnaaSn
namespace Go.Proofs.Ytfdmajkeihdhnaa.Tr
open Go Go.RowKit
set_option linter.unusedVariables false
set_option linter.unnecessarySimpa false

section ops
variable {P : Program} {B0 : Nat} {A : Nat → Prop} {Ω : List Pe} {Γ : Env} {dst : Option Tmp} {ty : TypeId} {pos : String} {aft : Array Edge} {gd : Option (Nat × Bool)}
variable {α β : Type} {i : Dat α} {j : Dat β} {t u : TypeId} {f off : Nat} {get : α → β} {set : β → α → α}
/-! ### built from parts -/
/-- parts put into x0 one behind another make x -/
class HasParts (P : Program) (t : TypeId) (Γ : Env) (ps : List (Nat × Operand)) (α : Type) (i : Dat α) (x0 : α) (x : outParam α) : Prop where
  h : ∀ (a : Act) A w, (∀ k, .tmp k ∈ ps.map (·.2) → (Γ k).p A w (a.tmps.getD k undef)) → ∀ fs places cs, P.underlying t = some (.struct fs) → fs.toList.mapM (fun f => (P.info? f.type).map fun i => (f.offset, i.size)) = some places → Dat.rd A w cs x0 →
    ∃ cs', Instr.fill (places.toArray[·]?) cs.toArray (ps.map fun p => (p.1, a.eval p.2)) = some cs'.toArray ∧ Dat.rd A w cs' x
instance {Γ : Env} {x : α} : HasParts P t Γ [] α i x x := ⟨fun a A w _ fs places cs _ _ h => ⟨cs, by simp [Instr.fill], h⟩⟩

theorem mapM_at {γ δ : Type} {g : γ → Option δ} : ∀ {l : List γ} {r : List δ}, l.mapM g = some r → ∀ (k : Nat) (x : γ), l[k]? = some x → g x = r[k]?
  | [], r, h, k, x, hx => by simp at hx
  | y :: ys, r, h, k, x, hx => by
    simp only [List.mapM_cons, Option.bind_eq_bind, Option.pure_def] at h
    cases hy : g y with
    | none => simp [hy] at h
    | some z =>
      cases hr : ys.mapM g with
      | none => simp [hy, hr] at h
      | some zs =>
        simp [hy, hr] at h
        subst h
        cases k with
        | zero => simp at hx; subst hx; simpa using hy
        | succ k => simpa using mapM_at hr k x (by simpa using hx)

instance {Γ : Env} {x0 x : α} {p : Operand} {ps : List (Nat × Operand)} {τ : Ty} {y : β} {bt : Nat} [F : TFld P t f u off] [T : TEl P u β j bt] [L : Fld α i off β j get set] [hp : Has Γ p τ] [hy : ToD τ β j y] [r : HasParts P t Γ ps α i (set y x0) x] :
    HasParts P t Γ ((f, p) :: ps) α i x0 x := ⟨fun a A w ha fs places cs hu hm hr => by
  obtain ⟨fs', fl, g1, g2, g3, g4⟩ := F.h
  rw [hu] at g1
  injection g1 with g1; injection g1 with g1; subst g1
  obtain ⟨es, e1, e2⟩ := D_cells (hy.le _ _ _ (hp.le a A w fun k e => ha k (by simp [e])))
  obtain ⟨ti, z, i1, i2, i3, i4, i5⟩ := T.h
  have hpl : places[f]? = some (off, Dat.sz β) := by
    have := mapM_at hm f fl (by simpa using g2)
    rw [← this, g3, g4, i1, Option.map_some, i3]
  have l1 : es.length = Dat.sz β := Dat.len e2
  have l2 : cs.length = Dat.sz α := Dat.len hr
  have l3 : off + Dat.sz β ≤ Dat.sz α := L.le
  obtain ⟨cs', r1, r2⟩ := r.h a A w (fun k hk => ha k (List.mem_cons_of_mem _ hk)) fs places _ hu hm (L.st hr e2)
  refine ⟨cs', ?_, r2⟩
  have hpl2 : places.toArray[f]? = some (off, Dat.sz β) := by simpa using hpl
  simp only [List.map_cons, Instr.fill, hpl2, e1]
  rw [if_neg (by simp [l1]; omega)]
  have h5 := foldl_setSeg es 0 off cs (by omega)
  simp only [Nat.add_zero] at h5
  rw [← r1]
  congr 1
  rw [← h5]; simp⟩

theorem OpY.build {parts : Array (Nat × Operand)} {ps : List (Nat × Operand)} {bt : Nat} {x : α} [T : TEl P t α i bt] (hps : parts = ps.toArray) (hu : ∃ fs, P.underlying t = some (.struct fs) ∧ (fs.toList.mapM (fun f => (P.info? f.type).map fun i => (f.offset, i.size))).isSome = true) (ha : Dat.agg α = true)
    [h : HasParts P t Γ ps α i Dat.z x] : OpY P B0 A Ω Γ ⟨dst, .build t parts, ty, pos, aft, gd⟩ (D x) :=
  OpY.val fun a w hl => by
    subst hps
    obtain ⟨fs, u1, u2⟩ := hu
    obtain ⟨places, u2⟩ := Option.isSome_iff_exists.1 u2
    obtain ⟨ti, z, i1, i2, i3, i4, i5⟩ := T.h
    obtain ⟨cs', r1, r2⟩ := h.h a A w (fun k hk => hl k (by simp only [Op.operands]; simpa using hk)) fs places _ u1 u2 Dat.zrd
    refine ⟨.agg cs'.toArray, ?_, cs', r2, by unfold mkV; rw [ha]; rfl⟩
    have hb : P.built t ((ps.toArray.map fun (i, x) => (i, a.eval x)).toList) = some cs'.toArray := by
      unfold Program.built
      rw [i1, u1]
      simp only [i2, u2, i5]
      simpa using r1
    simp only [execOp, Sem.run_bind, run_build w t _ cs'.toArray hb, Result.andThen_ok, Sem.run_pure]
/-- the same, its result as it is written -/
theorem OpY.buildAs {parts : Array (Nat × Operand)} {ps : List (Nat × Operand)} {bt : Nat} {x : α} (y : α) [T : TEl P t α i bt] (hps : parts = ps.toArray) (hu : ∃ fs, P.underlying t = some (.struct fs) ∧ (fs.toList.mapM (fun f => (P.info? f.type).map fun i => (f.offset, i.size))).isSome = true) (ha : Dat.agg α = true)
    [h : HasParts P t Γ ps α i Dat.z x] (hxy : x = y) : OpY P B0 A Ω Γ ⟨dst, .build t parts, ty, pos, aft, gd⟩ (D y) := hxy ▸ OpY.build hps hu ha
/-- append onto nil -/
theorem OpY.appendNil {e : TypeId} {bt : Nat} [S : TSl P t e] [T : TEl P e α i bt] {s x : Operand} {σ : Ty} {ys : List α} [hs : Has Γ s NilS] [hx : Has Γ x σ] [hl : AsL σ α i ys]
    (hn : ys.length * bt ≤ 140737488355328) : OpY P B0 A Ω Γ ⟨dst, .call { callee := .builtin .append, args := #[s, x], argTypes := #[t, t] }, ty, pos, aft, gd⟩ (D ys) := fun a w hB hu _ hl' => by
  have h1 : a.eval s = .slice none 0 0 := Has.ev (x := s) (τ := NilS) (op := .call { callee := .builtin .append, args := #[s, x], argTypes := #[t, t] }) (by simp [Op.operands, Call.operands]) hl'
  have h2 := hl.le _ _ _ (Has.ev (x := x) (τ := σ) (op := .call { callee := .builtin .append, args := #[s, x], argTypes := #[t, t] }) (by simp [Op.operands, Call.operands]) hl')
  have hm : ys.length ≤ most := (D.wf h2).1
  obtain ⟨v', w', r1, r2⟩ := run_append (P := P) (t := t) (e := e) (bt := bt) (ty := ty) (b := 0) (xs := ([] : List α)) (.inl ⟨h1, rfl⟩) (Src.of_D h2) (by simpa using hn) (by simpa using hm)
  rw [app_run r1]
  rcases r2 with ⟨rfl, rfl, rfl⟩ | r2 | ⟨c, cs, news, e1, e2, e3, _⟩
  · exact ⟨Grow.refl _ _, by rw [h1]; exact NilS.le _ _ _ rfl⟩
  · exact ⟨r2.grow hB, r2.reads hu⟩
  · rw [h1] at e1; cases e1
end ops

end Go.Proofs.Ytfdmajkeihdhnaa.Tr
