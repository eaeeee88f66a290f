/- Loops and ways that meet, following a plain program; what a plain program is made of. Conditions: none. -/
import Derived.Test.YtfdmajkeihdhnaaPb
namespace Go.Proofs.Ytfdmajkeihdhnaa.Tr
open Go Go.RowKit
set_option linter.unusedVariables false
set_option linter.unnecessarySimpa false

/-! ### plain programs -/
/-- rounds, so many at most -/
def loopN {σ ε : Type} (f : σ → Option (σ ⊕ ε)) : Nat → σ → Option ε
  | 0, _ => none
  | n + 1, s => match f s with
    | none => none
    | some (.inl s') => loopN f n s'
    | some (.inr e) => some e
/-- rounds, till one says that it is the last -/
def loopO {σ ε : Type} (f : σ → Option (σ ⊕ ε)) (s : σ) : Option ε := loopN f 18446744073709551616 s
theorem loopN_mono {σ ε : Type} {f : σ → Option (σ ⊕ ε)} : ∀ {n : Nat} {s : σ} {e : ε} (m : Nat), loopN f n s = some e → n ≤ m → loopN f m s = some e
  | n + 1, s, e, 0, _, h => by omega
  | n + 1, s, e, m + 1, h, hm => by
    unfold loopN at *
    cases hf : f s with
    | none => rw [hf] at h; cases h
    | some x =>
      rw [hf] at h
      cases x with
      | inl s' => exact loopN_mono m h (by omega)
      | inr e' => exact h
/-- a loop by an invariant, and a measure that goes down -/
theorem loopO_inv {σ ε : Type} {f : σ → Option (σ ⊕ ε)} (I : σ → Prop) (μ : σ → Nat) (R : ε → Prop) (h : ∀ s, I s → (∃ s', f s = some (.inl s') ∧ I s' ∧ μ s' < μ s) ∨ ∃ e, f s = some (.inr e) ∧ R e) {s : σ} (hs : I s) (hm : μ s < 18446744073709551616) :
    ∃ e, loopO f s = some e ∧ R e := by
  have key : ∀ (k : Nat) (s : σ), μ s < k → I s → ∃ e, loopN f k s = some e ∧ R e := by
    intro k
    induction k with
    | zero => intro s h; omega
    | succ k ih =>
      intro s hk hi
      rcases h s hi with ⟨s', h1, h2, h3⟩ | ⟨e, h1, h2⟩
      · obtain ⟨e, h4, h5⟩ := ih s' (by omega) h2
        exact ⟨e, by unfold loopN; rw [h1]; exact h4, h5⟩
      · exact ⟨e, by unfold loopN; rw [h1], h2⟩
  exact key _ s hm hs
theorem bnd {α β : Type} {x : Option α} {f : α → Option β} {r : β} (h : x.bind f = some r) : ∃ a, x = some a ∧ f a = some r := by
  cases x with
  | none => cases h
  | some a => exact ⟨a, rfl, h⟩
theorem cT {α : Type} {b : Bool} {x y : Option α} {r : α} (h : (bif b then x else y) = some r) (hb : b = true) : x = some r := by rw [hb] at h; exact h
theorem cF {α : Type} {b : Bool} {x y : Option α} {r : α} (h : (bif b then x else y) = some r) (hb : b = false) : y = some r := by rw [hb] at h; exact h
/-- what is only done behind a guard -/
def gb {α : Type} [Inhabited α] (g : Bool) (x : Option α) : Option α := bif g then x else some default
theorem gb_some {α : Type} [Inhabited α] {g : Bool} {x : Option α} {a : α} (h : gb g x = some a) (hg : g = true) : x = some a := by subst hg; exact h
/-- several at once -/
def el2 {α β γ : Type} (s : α × β) (f : α → β → γ) : γ := f s.1 s.2
def el3 {α β γ δ : Type} (s : α × β × γ) (f : α → β → γ → δ) : δ := f s.1 s.2.1 s.2.2
def el4 {α β γ δ ε : Type} (s : α × β × γ × δ) (f : α → β → γ → δ → ε) : ε := f s.1 s.2.1 s.2.2.1 s.2.2.2
def el5 {α β γ δ ε ζ : Type} (s : α × β × γ × δ × ε) (f : α → β → γ → δ → ε → ζ) : ζ := f s.1 s.2.1 s.2.2.1 s.2.2.2.1 s.2.2.2.2
def el6 {α β γ δ ε ζ η : Type} (s : α × β × γ × δ × ε × ζ) (f : α → β → γ → δ → ε → ζ → η) : η := f s.1 s.2.1 s.2.2.1 s.2.2.2.1 s.2.2.2.2.1 s.2.2.2.2.2
def el7 {α β γ δ ε ζ η θ : Type} (s : α × β × γ × δ × ε × ζ × η) (f : α → β → γ → δ → ε → ζ → η → θ) : θ := f s.1 s.2.1 s.2.2.1 s.2.2.2.1 s.2.2.2.2.1 s.2.2.2.2.2.1 s.2.2.2.2.2.2
def el8 {α β γ δ ε ζ η θ ι : Type} (s : α × β × γ × δ × ε × ζ × η × θ) (f : α → β → γ → δ → ε → ζ → η → θ → ι) : ι := f s.1 s.2.1 s.2.2.1 s.2.2.2.1 s.2.2.2.2.1 s.2.2.2.2.2.1 s.2.2.2.2.2.2.1 s.2.2.2.2.2.2.2
def elS {α β γ : Type} (s : α ⊕ β) (f : α → γ) (g : β → γ) : γ := match s with | .inl a => f a | .inr b => g b

section rules
variable {P : Program} {r : Ref} {n : Nat} {Γ : Env} {Ω : List Pe} {Q : Exit → Act → World → Prop}

/-- a loop that follows a plain one -/
theorem TC.loopP {σ ε ν : Type} {f : σ → Option (σ ⊕ ε)} {s0 : σ} {e : ε} {c : Code} (hl : loopO f s0 = some e) (I : σ → ν → Env) (J : σ → ν → List Pe) (m0 : ν) (h0 : Γ.le (I s0 m0)) (j0 : Less Ω (J s0 m0))
    (round : ∀ s m x, f s = some x → (∀ e', x = .inr e' → e' = e) → TC P r n (I s m) (J s m) c (Exit.then (fun a w => ∃ s' m', x = .inl s' ∧ Stt r n (I s' m') (J s' m') a w) Q)) : TC P r n Γ Ω (.loop c) Q := by
  refine TC.loop (γ := {g : σ × ν × Nat // loopN f g.2.2 g.1 = some e}) (fun g => I g.1.1 g.1.2.1) (fun g => J g.1.1 g.1.2.1) (fun g => g.1.2.2) ⟨(s0, m0, _), hl⟩ h0 j0 ?_
  rintro ⟨⟨s, m, k⟩, hg⟩
  cases k with
  | zero => cases hg
  | succ k =>
    have hg : loopN f (k + 1) s = some e := hg
    unfold loopN at hg
    cases hf : f s with
    | none => rw [hf] at hg; cases hg
    | some x =>
      rw [hf] at hg
      intro a w hs
      have := round s m x hf (fun e' h => by subst h; injection hg) a w hs
      refine wpIn_mono this fun ex a' w' hq => ?_
      cases ex with
      | normal =>
        obtain ⟨s', m', hx, hst⟩ := hq
        subst hx
        exact ⟨⟨(s', m', k), hg⟩, Nat.lt_succ_self _, hst⟩
      | _ => exact hq
/-- the end of a round -/
theorem TE.backP {σ ε ν : Type} {I : σ → ν → Env} {J : σ → ν → List Pe} {x : σ ⊕ ε} (s' : σ) (m' : ν) (hx : x = .inl s') (h : Γ.le (I s' m')) (j : Less Ω (J s' m')) :
    TE r n Γ Ω (Exit.then (fun a w => ∃ s' m', x = .inl s' ∧ Stt r n (I s' m') (J s' m') a w) Q) .normal := fun _ _ hs => ⟨s', m', hx, (hs.le h).less j⟩
/-- ways that meet again, with what is known there -/
theorem TC.seqP {σ ν : Type} {x y : Code} (p : σ → Prop) (Δ : σ → ν → Env) (J : σ → ν → List Pe) (h : TC P r n Γ Ω x (Exit.then (fun a w => ∃ s m, p s ∧ Stt r n (Δ s m) (J s m) a w) Q)) (k : ∀ s m, p s → TC P r n (Δ s m) (J s m) y Q) :
    TC P r n Γ Ω (.seq x y) Q := TC.seq fun a w hs => wpIn_mono (h a w hs) fun e a' w' hq => by
  cases e with
  | normal => obtain ⟨s, m, h1, h2⟩ := hq; exact k s m h1 a' w' h2
  | _ => exact hq
theorem TE.joinP {σ ν : Type} {p : σ → Prop} {Δ : σ → ν → Env} {J : σ → ν → List Pe} (s : σ) (m : ν) (hp : p s) (h : Γ.le (Δ s m)) (j : Less Ω (J s m)) : TE r n Γ Ω (Exit.then (fun a w => ∃ s m, p s ∧ Stt r n (Δ s m) (J s m) a w) Q) .normal :=
  fun _ _ hs => ⟨s, m, hp, (hs.le h).less j⟩
end rules

/-! ### types seen otherwise -/
class Cv (τ σ : Ty) : Prop where
  le : τ.le σ
instance (priority := 2000) {τ : Ty} : Cv τ τ := ⟨Ty.le.refl _⟩
instance {τ : Ty} {α : Type} {i : Dat α} {x : α} [h : ToD τ α i x] : Cv τ (D x) := ⟨h.le⟩
instance {b : Nat} {pr : Prop} {o n c : Nat} : Cv (Sl b pr o n c) (Sv b pr o n) := ⟨Sl.sv⟩
/-- a slot that holds what is asked -/
theorem Env.cv {Γ Δ : Env} {d : Tmp} {τ σ : Ty} [h : Has Γ (.tmp d) τ] [c : Cv τ σ] (k : Γ.le Δ) : Γ.le (Δ.set d σ) := Env.le_set (h.at.trans c.le) k
theorem Env.cvBy {Γ Δ : Env} {d : Tmp} {τ σ : Ty} [h : Has Γ (.tmp d) τ] (c : τ.le σ) (k : Γ.le Δ) : Γ.le (Δ.set d σ) := Env.le_set (h.at.trans c) k
theorem Sl_le {b : Nat} {pr : Prop} {o m n c : Nat} (h : m = n) : (Sl b pr o m c).le (Sl b pr o n c) := h ▸ Ty.le.refl _
theorem NilS.sl0 {b : Nat} : Ty.le NilS (Sl b False 0 0 0) := NilS.sl (fun h => h)
/-- a row that isn't there is put in -/
theorem Less.nilRow {Ω Δ : List Pe} {b : Nat} {C : Ct} (h : Less Ω Δ) : Less Ω (⟨b, False, C⟩ :: Δ) := (Less.none (fun h => h)).trans (Less.cons h)
end Go.Proofs.Ytfdmajkeihdhnaa.Tr
