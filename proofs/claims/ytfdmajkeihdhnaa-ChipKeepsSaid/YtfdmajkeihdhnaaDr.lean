/- Drawn regions whose touching steps need not hang one on the other: boxes may be made at any time, and reads of what is touched change places. Conditions: none. -/
import Derived.Test.YtfdmajkeihdhnaaMp
namespace Go.Proofs.Ytfdmajkeihdhnaa.Tr
open Go Go.RowKit
set_option linter.unusedVariables false
set_option linter.unnecessarySimpa false
set_option linter.unusedSimpArgs false

section op
variable {P : Program} {B : Nat} {Ωs Ωt : List Pe} {ops : Array Oper}
theorem OpT.env {Γ1 Γ2 : Env} {o : Oper} {ν : Type} {τ : ν → Ty} {Ω' : ν → List Pe} (h : OpT P B Ωs Ωt Γ1 o τ Ω') (he : ∀ t ∈ o.looksAt ops, (Γ2 t).le (Γ1 t)) : OpT P B Ωs Ωt Γ2 o τ Ω' :=
  ⟨h.1, fun A0 a w hB hu ho ha hp hl => h.2 A0 a w hB hu ho ha hp fun t ht => he t (mem_looks ht) _ _ _ (hl t ht)⟩
theorem OpG.env {Γ1 Γ2 : Env} {o : Oper} {τ : Ty} (h : OpG P B ops Ωs Γ1 o τ) (he : ∀ t ∈ o.looksAt ops, (Γ2 t).le (Γ1 t)) : OpG P B ops Ωs Γ2 o τ :=
  fun A a w hB hu hp hl => h A a w hB hu hp fun t ht => he t ht _ _ _ (hl t ht)
theorem OpG.more {Γ : Env} {o : Oper} {τ : Ty} {Ω2 : List Pe} (h : OpG P B ops Ωs Γ o τ) (hk : ∀ A w, Pks A Ω2 w → Pks A Ωs w) : OpG P B ops Ω2 Γ o τ :=
  fun A a w hB hu hp hl => h A a w hB hu (hk _ _ hp) hl
theorem OpT.map {Γ : Env} {o : Oper} {ν ν' : Type} {τ : ν → Ty} {τ' : ν' → Ty} {Ω1 : ν → List Pe} {Ω2 : ν' → List Pe} (f : ν → ν') (h1 : ∀ g, τ' (f g) = τ g) (h2 : ∀ g, Ω2 (f g) = Ω1 g) (h : OpT P B Ωs Ωt Γ o τ Ω1) : OpT P B Ωs Ωt Γ o τ' Ω2 :=
  ⟨h.1, fun A0 a w hB hu ho ha hp hl => by
    have hy := h.2 A0 a w hB hu ho ha hp hl
    generalize (execOp a.eval o).run P w = r at *
    cases r with
    | ok x w' =>
      cases x <;> simp only [YieldsT] at hy ⊢
      case value v => obtain ⟨g, hg⟩ := hy; exact ⟨f g, by rw [h1, h2]; exact hg⟩
      case skip => obtain ⟨g, hg⟩ := hy; exact ⟨f g, by rw [h1, h2]; exact hg⟩
      case enter g args => exact hy.mono fun e w' ⟨v, g, he, hg⟩ => ⟨v, f g, he, by rw [h1, h2]; exact hg⟩
    | halt x w' => simp only [YieldsT] at hy⟩
theorem OpT.perm {Γ : Env} {o : Oper} {ν : Type} {τ : ν → Ty} {Ω' : ν → List Pe} {Ω2 : List Pe} (hp : Ω2.Perm Ωt) (h : OpT P B Ωs Ωt Γ o τ Ω') : OpT P B Ωs Ω2 Γ o τ fun g => Ω' g ++ [] :=
  OpT.frame (Ωt := Ωt) (Ωr := []) (by rw [List.append_nil]; exact hp) (by rw [List.append_nil]; exact h)
end op

/-- one part of a state seen as another -/
structure Sub (F' F : Fam) where
  h : F'.ν → F.ν
  th : ∀ g t, (F'.Θ g t).le (F.Θ (h g) t)
  pm : ∀ g, (F'.Ω g).Perm (F.Ω (h g))
  tl : ∀ t, t ∈ F'.tl ↔ t ∈ F.tl
theorem put_le {Γ Δ : Env} {τ : Ty} {d : Option Tmp} (h : ∀ t, (Γ t).le (Δ t)) : ∀ t, (Γ.put d τ t).le (Δ.put d τ t) := fun t => by
  cases d with
  | none => exact h t
  | some d =>
    simp only [Env.put, Env.set]
    split
    · exact Ty.le.refl _
    · exact h t
def Sub.next {F' F : Fam} (s : Sub F' F) (d : Option Tmp) {μ : F.ν → Type} (τ : (g : F.ν) → μ g → Ty) (Ω' : (g : F.ν) → μ g → List Pe) (Ω'' : (g : F'.ν) → μ (s.h g) → List Pe) (hp : ∀ g m, (Ω'' g m).Perm (Ω' (s.h g) m)) :
    Sub (F'.next d (μ := fun g => μ (s.h g)) (fun g m => τ (s.h g) m) Ω'') (F.next d τ Ω') where
  h g := ⟨s.h g.1, g.2⟩
  th g := put_le (s.th g.1)
  pm g := hp g.1 g.2
  tl t := by simp only [Fam.next, List.mem_append, s.tl]
theorem or_le {Θ1 Θ2 Γ : Env} (h : ∀ t, (Θ1 t).le (Θ2 t)) (t : Tmp) : (Env.or Θ1 Γ t).le (Env.or Θ2 Γ t) := fun A w v x => ⟨h t A w v x.1, x.2⟩
/-- a box of zeros is made, whatever else there is -/
def AllocU (P : Program) (o : Oper) (C : Ct) : Prop := ∀ (B : Nat) (Ωs Ω : List Pe) (Γ : Env), OpT P B Ωs Ω Γ o (fun b : Nat => Pt b 0) fun b => ⟨b, True, C⟩ :: Ω
theorem AllocU.of {P : Program} {t ty : TypeId} {d : Tmp} {pos : String} {aft : Array Edge} {α : Type} {i : Dat α} {bt : Nat} [T : TEl P t α i bt] : AllocU P ⟨some d, .alloc t, ty, pos, aft, none⟩ (One (Dat.z : α)) := fun B Ωs Ω Γ =>
  OpT.map (fun g : Nat × Unit => g.1) (fun _ => rfl) (fun _ => rfl) (OpT.allocT (α := α))
theorem AllocU.ofZ {P : Program} {t ty : TypeId} {d : Tmp} {pos : String} {aft : Array Edge} {α : Type} {i : Dat α} {bt : Nat} {C : Ct} [T : TEl P t α i bt] (hz : ZeroC α i C) : AllocU P ⟨some d, .alloc t, ty, pos, aft, none⟩ C := fun B Ωs Ω Γ =>
  OpT.map (fun g : Nat × Unit => g.1) (fun _ => rfl) (fun _ => rfl) (OpT.allocZ hz)

section cls
variable (P : Program) (B : Nat) (Ωs : List Pe) (ops : Array Oper) (n : Nat) (cl : Nat → Nat)
def OpU (Γ : Env) (F : Fam) (o : Oper) {μ : F.ν → Type} (τ : (g : F.ν) → μ g → Ty) (Ω' : (g : F.ν) → μ g → List Pe) : Prop :=
  ∀ Ωr g, OpT P B (Ωs ++ Ωr) (F.Ω g) (Env.or (F.Θ g) Γ) o (τ g) (Ω' g)
def OpR (Γ : Env) (F : Fam) (o : Oper) (τ : F.ν → Ty) : Prop := ∀ g, OpG P B ops (Ωs ++ F.Ω g) (Env.or (F.Θ g) Γ) o (τ g)
/-- a step of one of the four classes: it touches nothing, it touches, it reads what is touched, it makes a box -/
def Stepc (c : Nat) (o : Oper) (K : Env → Fam → Prop) (Γ : Env) (F : Fam) : Prop :=
  (c = 0 ∧ (∀ t, o.dst = some t → t ∉ F.tl) ∧ ∃ τ, OpG P B ops Ωs Γ o τ ∧ K (Γ.put o.dst τ) F) ∨
  (c = 1 ∧ ∃ (μ : F.ν → Type) (τ : (g : F.ν) → μ g → Ty) (Ω' : (g : F.ν) → μ g → List Pe), OpU P B Ωs Γ F o τ Ω' ∧ K (Γ.put o.dst Ty.any) (F.next o.dst τ Ω')) ∨
  (c = 2 ∧ ∃ τ : F.ν → Ty, OpR P B Ωs ops Γ F o τ ∧ K (Γ.put o.dst Ty.any) (F.next o.dst (μ := fun _ => Unit) (fun g _ => τ g) fun g _ => F.Ω g)) ∨
  (c = 3 ∧ ∃ C, AllocU P o C ∧ K (Γ.put o.dst Ty.any) (F.next o.dst (μ := fun _ => Nat) (fun _ b => Pt b 0) fun g b => ⟨b, True, C⟩ :: F.Ω g))
def tOp2 (i : Nat) (K : Env → Fam → Prop) (Γ : Env) (F : Fam) : Prop :=
  match ops[i]? with
  | none => K Γ F
  | some o => (∀ t, o.dst = some t → t < n) ∧ Stepc P B Ωs ops (cl i) o K Γ F
def TRw2 : Nat → List Oper → Env → Fam → (Env → Fam → Prop) → Prop
  | _, [], Γ, F, K => K Γ F
  | k, o :: rest, Γ, F, K => (∀ t, o.dst = some t → t < n) ∧ Stepc P B Ωs ops (cl k) o (fun Γ F => TRw2 (k + 1) rest Γ F K) Γ F
def TAny2 (md : Region.Mode) (K : Env → Fam → Prop) : Nat → Array Bool → Env → Fam → Prop
  | 0, listed, Γ, F => Region.ready md ops listed = [] ∧ K Γ F
  | fuel + 1, listed, Γ, F =>
    (Region.ready md ops listed = [] → K Γ F) ∧
    ∀ i ∈ Region.ready md ops listed, tOp2 P B Ωs ops n cl i (TAny2 md K fuel (listed.setIfInBounds i true)) Γ F
end cls
/-- what holds of a part holds of it seen otherwise -/
def Cl (K : Env → Fam → Prop) : Prop := ∀ Γ F F', Sub F' F → K Γ F → K Γ F'

section any
variable {P : Program} {B : Nat} {Ωs : List Pe} {ops : Array Oper} {n : Nat} {cl : Nat → Nat} {md : Region.Mode}
theorem Stepc.mono {c : Nat} {o : Oper} {K K' : Env → Fam → Prop} {Γ : Env} {F : Fam} (h : ∀ Γ F, K Γ F → K' Γ F) (hh : Stepc P B Ωs ops c o K Γ F) : Stepc P B Ωs ops c o K' Γ F := by
  rcases hh with ⟨h0, h1, τ, h2, h3⟩ | ⟨h0, μ, τ, Ω', h2, h3⟩ | ⟨h0, τ, h2, h3⟩ | ⟨h0, C, h2, h3⟩
  · exact .inl ⟨h0, h1, τ, h2, h _ _ h3⟩
  · exact .inr (.inl ⟨h0, μ, τ, Ω', h2, h _ _ h3⟩)
  · exact .inr (.inr (.inl ⟨h0, τ, h2, h _ _ h3⟩))
  · exact .inr (.inr (.inr ⟨h0, C, h2, h _ _ h3⟩))
theorem tOp2.mono {i : Nat} {K K' : Env → Fam → Prop} {Γ : Env} {F : Fam} (h : ∀ Γ F, K Γ F → K' Γ F) (hh : tOp2 P B Ωs ops n cl i K Γ F) : tOp2 P B Ωs ops n cl i K' Γ F := by
  unfold tOp2 at *
  split
  · rename_i ho; simp only [ho] at hh; exact h _ _ hh
  · rename_i o ho; simp only [ho] at hh; exact ⟨hh.1, hh.2.mono h⟩
theorem Stepc.sub {c : Nat} {o : Oper} {K : Env → Fam → Prop} (hK : Cl K) {Γ : Env} {F F' : Fam} (s : Sub F' F) (hh : Stepc P B Ωs ops c o K Γ F) : Stepc P B Ωs ops c o K Γ F' := by
  rcases hh with ⟨h0, h1, τ, h2, h3⟩ | ⟨h0, μ, τ, Ω', h2, h3⟩ | ⟨h0, τ, h2, h3⟩ | ⟨h0, C, h2, h3⟩
  · exact .inl ⟨h0, fun t ht hm => h1 t ht ((s.tl t).1 hm), τ, h2, hK _ _ _ s h3⟩
  · refine .inr (.inl ⟨h0, fun g => μ (s.h g), fun g m => τ (s.h g) m, fun g m => Ω' (s.h g) m ++ [], fun Ωr g => OpT.env (ops := ops) (OpT.perm (s.pm g) (h2 Ωr (s.h g))) fun t _ => or_le (s.th g) t, hK _ _ _ (s.next _ _ _ _ fun g m => by rw [List.append_nil]) h3⟩)
  · refine .inr (.inr (.inl ⟨h0, fun g => τ (s.h g), fun g => OpG.more (OpG.env (h2 (s.h g)) fun t _ => or_le (s.th g) t) fun A w hk e he => hk e (((s.pm g).append_left Ωs).mem_iff.2 he), hK _ _ _ (s.next o.dst (μ := fun _ => Unit) (fun g _ => τ g) (fun g _ => F.Ω g) (fun g _ => F'.Ω g) fun g m => s.pm g) h3⟩))
  · exact .inr (.inr (.inr ⟨h0, C, h2, hK _ _ _ (s.next o.dst (μ := fun _ => Nat) (fun _ b => Pt b 0) (fun g b => ⟨b, True, C⟩ :: F.Ω g) (fun g b => ⟨b, True, C⟩ :: F'.Ω g) fun g m => (s.pm g).cons _) h3⟩))
theorem tOp2.sub {i : Nat} {K : Env → Fam → Prop} (hK : Cl K) : Cl (tOp2 P B Ωs ops n cl i K) := fun Γ F F' s hh => by
  unfold tOp2 at *
  split
  · rename_i ho; simp only [ho] at hh; exact hK _ _ _ s hh
  · rename_i o ho; simp only [ho] at hh; exact ⟨hh.1, hh.2.sub hK s⟩
theorem TAny2.sub {K : Env → Fam → Prop} (hK : Cl K) : ∀ (fuel : Nat) (listed : Array Bool), Cl (TAny2 P B Ωs ops n cl md K fuel listed)
  | 0, _ => fun Γ F F' s h => ⟨h.1, hK _ _ _ s h.2⟩
  | fuel + 1, listed => fun Γ F F' s h => ⟨fun h0 => hK _ _ _ s (h.1 h0), fun i hi => tOp2.sub (TAny2.sub hK fuel _) _ _ _ s (h.2 i hi)⟩

/-- which classes change places -/
def Cmp (c d : Nat) : Prop := c = 0 ∨ d = 0 ∨ d = 3 ∨ (c = 2 ∧ d = 2)

theorem put_other_le {Γ : Env} {x : Option Tmp} {τ : Ty} {t : Tmp} (h : x ≠ some t) : (Γ.put x τ t) = Γ t := Env.put_other Γ τ h
theorem exch {j : Nat} {oi oj : Oper} {ci : Nat} (hj : ops[j]? = some oj) (hap : oi.apart ops oj = true) (hc : Cmp ci (cl j)) {K : Env → Fam → Prop} (hK : Cl K) {Γ : Env} {F : Fam}
    (h : Stepc P B Ωs ops ci oi (tOp2 P B Ωs ops n cl j K) Γ F) : tOp2 P B Ωs ops n cl j (fun Γ' F' => Stepc P B Ωs ops ci oi K Γ' F') Γ F := by
  obtain ⟨a1, a2, a3⟩ := Oper.apart_spec hap
  have e1 : ∀ (Γ : Env) (τ : Ty), ∀ t ∈ oj.looksAt ops, Γ.put oi.dst τ t = Γ t := fun Γ τ t ht => Env.put_other Γ τ fun e => a1 t e ht
  have e2 : ∀ (Γ : Env) (τ : Ty), ∀ t ∈ oi.looksAt ops, Γ.put oj.dst τ t = Γ t := fun Γ τ t ht => Env.put_other Γ τ fun e => a3 t e ht
  have pc : ∀ (Γ : Env) (τ σ : Ty), (Γ.put oi.dst τ).put oj.dst σ = (Γ.put oj.dst σ).put oi.dst τ := fun Γ τ σ => Env.put_comm Γ τ σ a2
  unfold tOp2 at *
  simp only [hj] at *
  rcases h with ⟨c0, hoff, τi, hi, hd, h⟩ | ⟨c0, μi, τi, Ωi, hi, hd, h⟩ | ⟨c0, τi, hi, hd, h⟩ | ⟨c0, Ci, hi, hd, h⟩
  · -- i touches nothing
    refine ⟨hd, ?_⟩
    rcases h with ⟨d0, hof, τ, ho, hk⟩ | ⟨d0, μ, τ, Ω', ho, hk⟩ | ⟨d0, τ, ho, hk⟩ | ⟨d0, C, ho, hk⟩
    · refine .inl ⟨d0, hof, τ, ho.congr fun t ht => (e1 Γ τi t ht).symm, .inl ⟨c0, hoff, τi, hi.congr fun t ht => e2 Γ τ t ht, ?_⟩⟩
      rw [← pc]; exact hk
    · refine .inr (.inl ⟨d0, μ, τ, Ω', fun Ωr g => OpT.env (ops := ops) (ho Ωr g) fun t ht A w v x => ⟨x.1, by rw [e1 Γ τi t ht]; exact x.2⟩, .inl ⟨c0, fun t ht hx => ?_, τi, hi.congr fun t ht => e2 Γ Ty.any t ht, ?_⟩⟩)
      · rcases List.mem_append.1 hx with hx | hx
        · exact a2 t ht (by simpa using hx)
        · exact hoff t ht hx
      · rw [← pc]; exact hk
    · refine .inr (.inr (.inl ⟨d0, τ, fun g => OpG.env (ho g) fun t ht A w v x => ⟨x.1, by rw [e1 Γ τi t ht]; exact x.2⟩, .inl ⟨c0, fun t ht hx => ?_, τi, hi.congr fun t ht => e2 Γ Ty.any t ht, ?_⟩⟩))
      · rcases List.mem_append.1 hx with hx | hx
        · exact a2 t ht (by simpa using hx)
        · exact hoff t ht hx
      · rw [← pc]; exact hk
    · refine .inr (.inr (.inr ⟨d0, C, ho, .inl ⟨c0, fun t ht hx => ?_, τi, hi.congr fun t ht => e2 Γ Ty.any t ht, ?_⟩⟩))
      · rcases List.mem_append.1 hx with hx | hx
        · exact a2 t ht (by simpa using hx)
        · exact hoff t ht hx
      · rw [← pc]; exact hk
  · -- i touches
    refine ⟨hd, ?_⟩
    have hi2 : ∀ (σ : Ty), OpU P B Ωs (Γ.put oj.dst σ) F oi τi Ωi := fun σ Ωr g => OpT.env (ops := ops) (hi Ωr g) fun t ht A w v x => ⟨x.1, by have := x.2; rwa [e2 Γ σ t ht] at this⟩
    rcases h with ⟨d0, hof, τ, ho, hk⟩ | ⟨d0, _⟩ | ⟨d0, _⟩ | ⟨d0, C, ho, hk⟩
    · refine .inl ⟨d0, fun t ht hx => hof t ht (List.mem_append_right _ hx), τ, ho.congr fun t ht => (e1 Γ Ty.any t ht).symm, .inr (.inl ⟨c0, μi, τi, Ωi, hi2 τ, ?_⟩)⟩
      rw [← pc]; exact hk
    · exact absurd hc (by unfold Cmp; omega)
    · exact absurd hc (by unfold Cmp; omega)
    · refine .inr (.inr (.inr ⟨d0, C, ho, .inr (.inl ⟨c0, fun g => μi g.1, fun g m => τi g.1 m, fun g m => Ωi g.1 m ++ [⟨g.2, True, C⟩], fun Ωr g => ?_, ?_⟩)⟩))
      · have h1 := hi2 Ty.any (Ωr ++ [⟨g.2, True, C⟩]) g.1
        rw [← List.append_assoc] at h1
        refine OpT.env (ops := ops) (OpT.frame (Ωt := F.Ω g.1) (Ωr := [⟨g.2, True, C⟩]) ?_ h1) fun t ht A w v x => ⟨?_, x.2⟩
        · exact (List.perm_append_comm (l₁ := [(⟨g.2, True, C⟩ : Pe)]) (l₂ := F.Ω g.1))
        · have := x.1
          rwa [show (F.next oj.dst (μ := fun _ => Nat) (fun _ b => Pt b 0) fun g b => ⟨b, True, C⟩ :: F.Ω g).Θ g t = (F.Θ g.1).put oj.dst (Pt g.2 0) t from rfl, e2 (F.Θ g.1) (Pt g.2 0) t ht] at this
      · rw [← pc]
        refine hK _ _ _ ?_ hk
        refine ⟨fun g => ⟨⟨g.1.1, g.2⟩, g.1.2⟩, fun g t => ?_, fun g => ?_, fun t => ?_⟩
        · show (((F.Θ g.1.1).put oj.dst (Pt g.1.2 0)).put oi.dst (τi g.1.1 g.2) t).le (((F.Θ g.1.1).put oi.dst (τi g.1.1 g.2)).put oj.dst (Pt g.1.2 0) t)
          rw [pc]; exact Ty.le.refl _
        · exact List.perm_append_comm (l₁ := Ωi g.1.1 g.2) (l₂ := [(⟨g.1.2, True, C⟩ : Pe)])
        · simp only [Fam.next, List.mem_append]; constructor <;> rintro (h | h | h) <;> simp [h]
  · -- i reads what is touched
    refine ⟨hd, ?_⟩
    have hi2 : ∀ (σ : Ty), OpR P B Ωs ops (Γ.put oj.dst σ) F oi τi := fun σ g => OpG.env (hi g) fun t ht A w v x => ⟨x.1, by have := x.2; rwa [e2 Γ σ t ht] at this⟩
    rcases h with ⟨d0, hof, τ, ho, hk⟩ | ⟨d0, _⟩ | ⟨d0, τ, ho, hk⟩ | ⟨d0, C, ho, hk⟩
    · refine .inl ⟨d0, fun t ht hx => hof t ht (List.mem_append_right _ hx), τ, ho.congr fun t ht => (e1 Γ Ty.any t ht).symm, .inr (.inr (.inl ⟨c0, τi, hi2 τ, ?_⟩))⟩
      rw [← pc]; exact hk
    · exact absurd hc (by unfold Cmp; omega)
    · refine .inr (.inr (.inl ⟨d0, fun g => τ ⟨g, ()⟩, fun g => OpG.env (ho ⟨g, ()⟩) fun t ht A w v x => ⟨?_, ?_⟩, .inr (.inr (.inl ⟨c0, fun g => τi g.1, fun g => OpG.env (hi2 Ty.any g.1) fun t ht A w v x => ⟨?_, x.2⟩, ?_⟩))⟩))
      · show ((F.Θ g).put oi.dst (τi g) t).p A w v
        rw [e1 (F.Θ g) (τi g) t ht]; exact x.1
      · rw [e1 Γ Ty.any t ht]; exact x.2
      · have := x.1
        rwa [show (F.next oj.dst (μ := fun _ => Unit) (fun g _ => τ ⟨g, ()⟩) fun g _ => F.Ω g).Θ g t = (F.Θ g.1).put oj.dst (τ ⟨g.1, ()⟩) t from rfl, e2 (F.Θ g.1) (τ ⟨g.1, ()⟩) t ht] at this
      · rw [← pc]
        refine hK _ _ _ ?_ hk
        refine ⟨fun g => ⟨⟨g.1.1, ()⟩, ()⟩, fun g t => ?_, fun g => List.Perm.refl _, fun t => ?_⟩
        · show (((F.Θ g.1.1).put oj.dst (τ ⟨g.1.1, ()⟩)).put oi.dst (τi g.1.1) t).le (((F.Θ g.1.1).put oi.dst (τi g.1.1)).put oj.dst (τ ⟨g.1.1, ()⟩) t)
          rw [pc]; exact Ty.le.refl _
        · simp only [Fam.next, List.mem_append]; constructor <;> rintro (h | h | h) <;> simp [h]
    · refine .inr (.inr (.inr ⟨d0, C, ho, .inr (.inr (.inl ⟨c0, fun g => τi g.1, fun g => OpG.more (OpG.env (hi2 Ty.any g.1) fun t ht A w v x => ⟨?_, x.2⟩) fun A w hk e he => ?_, ?_⟩))⟩))
      · have := x.1
        rwa [show (F.next oj.dst (μ := fun _ => Nat) (fun _ b => Pt b 0) fun g b => ⟨b, True, C⟩ :: F.Ω g).Θ g t = (F.Θ g.1).put oj.dst (Pt g.2 0) t from rfl, e2 (F.Θ g.1) (Pt g.2 0) t ht] at this
      · rcases List.mem_append.1 he with he | he
        · exact hk e (List.mem_append_left _ he)
        · exact hk e (List.mem_append_right _ (List.mem_cons_of_mem _ he))
      · rw [← pc]
        refine hK _ _ _ ?_ hk
        refine ⟨fun g => ⟨⟨g.1.1, ()⟩, g.1.2⟩, fun g t => ?_, fun g => List.Perm.refl _, fun t => ?_⟩
        · show (((F.Θ g.1.1).put oj.dst (Pt g.1.2 0)).put oi.dst (τi g.1.1) t).le (((F.Θ g.1.1).put oi.dst (τi g.1.1)).put oj.dst (Pt g.1.2 0) t)
          rw [pc]; exact Ty.le.refl _
        · simp only [Fam.next, List.mem_append]; constructor <;> rintro (h | h | h) <;> simp [h]
  · -- i makes a box
    refine ⟨hd, ?_⟩
    rcases h with ⟨d0, hof, τ, ho, hk⟩ | ⟨d0, _⟩ | ⟨d0, _⟩ | ⟨d0, C, ho, hk⟩
    · refine .inl ⟨d0, fun t ht hx => hof t ht (List.mem_append_right _ hx), τ, ho.congr fun t ht => (e1 Γ Ty.any t ht).symm, .inr (.inr (.inr ⟨c0, Ci, hi, ?_⟩))⟩
      rw [← pc]; exact hk
    · exact absurd hc (by unfold Cmp; omega)
    · exact absurd hc (by unfold Cmp; omega)
    · refine .inr (.inr (.inr ⟨d0, C, ho, .inr (.inr (.inr ⟨c0, Ci, hi, ?_⟩))⟩))
      rw [← pc]
      refine hK _ _ _ ?_ hk
      refine ⟨fun g => ⟨⟨g.1.1, g.2⟩, g.1.2⟩, fun g t => ?_, fun g => List.Perm.swap _ _ _, fun t => ?_⟩
      · show (((F.Θ g.1.1).put oj.dst (Pt g.1.2 0)).put oi.dst (Pt g.2 0) t).le (((F.Θ g.1.1).put oi.dst (Pt g.2 0)).put oj.dst (Pt g.1.2 0) t)
        rw [pc]; exact Ty.le.refl _
      · simp only [Fam.next, List.mem_append]; constructor <;> rintro (h | h | h) <;> simp [h]

theorem Stepc.any {c : Nat} {o : Oper} {K : Env → Fam → Prop} {Γ : Env} {F : Fam} (hh : Stepc P B Ωs ops c o K Γ F) : ∃ Γ' F', K Γ' F' := by
  rcases hh with ⟨h0, h1, τ, h2, h3⟩ | ⟨h0, μ, τ, Ω', h2, h3⟩ | ⟨h0, τ, h2, h3⟩ | ⟨h0, C, h2, h3⟩ <;> exact ⟨_, _, h3⟩
theorem getD_ft {listed : Array Bool} {t : Nat} (h : listed.getD t false = true) : listed.getD t true = true := by
  rcases Nat.lt_or_ge t listed.size with h' | h'
  · simp [h'] at h ⊢; exact h
  · simp [Array.getElem?_eq_none h']
/-- j hangs on i, by way of others -/
def pathB (md : Region.Mode) (ops : Array Oper) : Nat → Nat → Nat → Bool
  | 0, _, _ => false
  | f + 1, j, i => (ops[j]?).any fun o => o.after.any fun e => Region.binds md e && (e.on == i || pathB md ops f e.on i)
/-- what is listed has all it hangs on listed -/
def Down (md : Region.Mode) (ops : Array Oper) (listed : Array Bool) : Prop :=
  ∀ (j : Nat) (o : Oper), ops[j]? = some o → listed.getD j true = true → ∀ e ∈ o.after, Region.binds md e = true → listed.getD e.on true = true
theorem path_mem {f j i : Nat} (h : pathB md ops (f + 1) j i = true) : ∃ o, ops[j]? = some o ∧ ∃ e ∈ o.after, Region.binds md e = true ∧ (e.on = i ∨ pathB md ops f e.on i = true) := by
  simp only [pathB] at h
  cases ho : ops[j]? with
  | none => rw [ho] at h; simp at h
  | some o =>
    rw [ho] at h
    simp only [Option.any_some] at h
    obtain ⟨k, hk, he⟩ := Array.any_eq_true.1 h
    simp only [Bool.and_eq_true, Bool.or_eq_true, beq_iff_eq] at he
    exact ⟨o, rfl, _, Array.getElem_mem hk, he.1, he.2⟩
theorem Down.path {listed : Array Bool} (hd : Down md ops listed) : ∀ (f j i : Nat), pathB md ops f j i = true → listed.getD j true = true → listed.getD i true = true
  | 0, _, _, h, _ => by simp [pathB] at h
  | f + 1, j, i, h, hj => by
    obtain ⟨o, ho, e, he, hb, h1⟩ := path_mem h
    have h2 := hd j o ho hj e he hb
    rcases h1 with rfl | h1
    · exact h2
    · exact hd.path f _ i h1 h2
theorem Down.ready {listed : Array Bool} (hd : Down md ops listed) {f j i : Nat} (h : pathB md ops f j i = true) (hj : j ∈ Region.ready md ops listed) : listed.getD i true = true := by
  cases f with
  | zero => simp [pathB] at h
  | succ f =>
    obtain ⟨o, ho, e, he, hb, h1⟩ := path_mem h
    obtain ⟨_, oj, hoj, hall⟩ := mem_ready.1 hj
    rw [ho] at hoj; injection hoj with hoj; subst hoj
    have h2 : listed.getD e.on true = true := getD_ft (hall e he hb)
    rcases h1 with rfl | h1
    · exact h2
    · exact hd.path f _ i h1 h2
theorem getD_set_true {listed : Array Bool} {j t : Nat} (h : listed.getD t true = true) : (listed.setIfInBounds j true).getD t true = true := by
  by_cases hjt : j = t
  · subst hjt
    by_cases hj : j < listed.size
    · simp [hj]
    · rw [Array.getD_eq_getD_getElem?, Array.getElem?_eq_none (by simpa using hj)]; rfl
  · rw [getD_set_ne true hjt]; exact h
theorem Down.set {listed : Array Bool} (hd : Down md ops listed) {j : Nat} (hj : j ∈ Region.ready md ops listed) : Down md ops (listed.setIfInBounds j true) := fun k o ho hk e he hb => by
  refine getD_set_true ?_
  by_cases hjk : j = k
  · subst hjk
    obtain ⟨_, oj, hoj, hall⟩ := mem_ready.1 hj
    rw [ho] at hoj; injection hoj with hoj; subst hoj
    exact getD_ft (hall e he hb)
  · rw [getD_set_ne true hjk] at hk
    exact hd k o ho hk e he hb

theorem TAny2_first {K : Env → Fam → Prop} (hK : Cl K) {i : Nat} {oi : Oper} (hi : ops[i]? = some oi) (hdi : ∀ t, oi.dst = some t → t < n) :
    ∀ (fuel : Nat) (listed : Array Bool) (Γ : Env) (F : Fam),
      (∀ j oj, ops[j]? = some oj → j ≠ i → listed.getD j true = false → (∀ e ∈ oj.after, Region.binds md e = true → e.on ≠ i) → oi.apart ops oj = true) →
      (∀ j, j < ops.size → j ≠ i → listed.getD j true = false → Cmp (cl i) (cl j) ∨ ∃ f, pathB md ops f j i = true) → Down md ops listed →
      i ∈ Region.ready md ops listed → Stepc P B Ωs ops (cl i) oi (TAny2 P B Ωs ops n cl md K fuel (listed.setIfInBounds i true)) Γ F → TAny2 P B Ωs ops n cl md K (fuel + 1) listed Γ F := by
  intro fuel
  induction fuel with
  | zero =>
    intro listed Γ F _ _ _ hr hy
    refine ⟨fun h => (by rw [h] at hr; cases hr), fun j hj => ?_⟩
    by_cases hji : j = i
    · subst hji; unfold tOp2; simp only [hi]
      exact ⟨hdi, hy⟩
    · have := ready_mono hj hji
      obtain ⟨Γ', F', H⟩ := hy.any
      rw [H.1] at this; cases this
  | succ fuel ih =>
    intro listed Γ F hfree hcm hdn hr hy
    refine ⟨fun h => (by rw [h] at hr; cases hr), fun j hj => ?_⟩
    by_cases hji : j = i
    · subst hji; unfold tOp2; simp only [hi]
      exact ⟨hdi, hy⟩
    · obtain ⟨hjun, oj, hoj, hall⟩ := mem_ready.1 hj
      have hiun := (mem_ready.1 hr).1
      have hnot : ∀ e ∈ oj.after, Region.binds md e = true → e.on ≠ i := fun e he hb heq => by
        have h1 := hall e he hb
        have h0 := (mem_ready.1 hr).1
        rw [heq] at h1
        rcases Nat.lt_or_ge i listed.size with h' | h'
        · simp [h'] at h0 h1; rw [h0] at h1; cases h1
        · simp [Array.getElem?_eq_none h'] at h1
      have hap := hfree j oj hoj hji hjun hnot
      have hlt : j < ops.size := (Array.getElem?_eq_some_iff.1 hoj).1
      have hc : Cmp (cl i) (cl j) := by
        rcases hcm j hlt hji hjun with h | ⟨f, h⟩
        · exact h
        · have h1 := hdn.ready h hj
          rcases Nat.lt_or_ge i listed.size with h' | h'
          · simp [h'] at hiun h1; rw [hiun] at h1; cases h1
          · simp [Array.getElem?_eq_none h'] at hiun
      have hun' : ∀ k, (listed.setIfInBounds j true).getD k true = false → listed.getD k true = false := fun k hun => by
        by_cases hjk : j = k
        · subst hjk; exact hjun
        · rw [getD_set_ne true hjk] at hun; exact hun
      have h1 := exch hoj hap hc (TAny2.sub hK fuel _) (hy.mono fun Γ' F' H => H.2 j (ready_mono hj hji))
      refine tOp2.mono (fun Γ' F' h3 => ih (listed.setIfInBounds j true) Γ' F' (fun k ok hk hki hun hno => hfree k ok hk hki (hun' k hun) hno) (fun k hk hki hun => hcm k hk hki (hun' k hun)) (hdn.set hj) (ready_mono hr (Ne.symm hji)) ?_) h1
      rw [Array.setIfInBounds_comm _ _ hji]
      exact h3

/-- each two steps change places, or the later hangs on the earlier -/
def okB (md : Region.Mode) (ops : Array Oper) (cl : Nat → Nat) (N : Nat) : Bool :=
  (List.range N).all fun i => (List.range N).all fun j => decide (j ≤ i) || (cl i == 0 || cl j == 0 || cl j == 3 || (cl i == 2 && cl j == 2)) || pathB md ops N j i
theorem okB_spec {N : Nat} (h : okB md ops cl N = true) {i j : Nat} (hi : i < N) (hj : j < N) (hij : i < j) : Cmp (cl i) (cl j) ∨ ∃ f, pathB md ops f j i = true := by
  simp only [okB, List.all_eq_true, List.mem_range, Bool.or_eq_true, decide_eq_true_eq, Bool.and_eq_true, beq_iff_eq] at h
  rcases h i hi j hj with (h | h) | h
  · omega
  · left; unfold Cmp; omega
  · exact .inr ⟨_, h⟩

theorem TAny2_lex (hc : okB md ops cl ops.size = true) {K : Env → Fam → Prop} (hK : Cl K) : ∀ (l : List Oper) (k : Nat) (listed : Array Bool) (Γ : Env) (F : Fam), (∀ j, l[j]? = ops[k + j]?) → listed.size = ops.size → (∀ t, t < ops.size → listed.getD t true = decide (t < k)) → Down md ops listed →
    Region.lexFrom md ops l.length k listed = true → TRw2 P B Ωs ops n cl k l Γ F K → TAny2 P B Ωs ops n cl md K l.length listed Γ F
  | [], _, _, _, _, _, _, _, _, hB, h => ⟨by simpa [Region.lexFrom] using hB, h⟩
  | o :: l, k, listed, Γ, F, hl, hz, ht, hdn, hB, h => by
    have h0 : ops[k]? = some o := by simpa using (hl 0).symm
    have hk : k < ops.size := (Array.getElem?_eq_some_iff.1 h0).1
    simp only [List.length_cons, Region.lexFrom, Bool.and_eq_true] at hB
    obtain ⟨⟨hr, hf⟩, hB'⟩ := hB
    obtain ⟨hd, h⟩ := h
    have hr' : k ∈ Region.ready md ops listed := by simpa using hr
    have ih := fun Γ' F' hK' => TAny2_lex hc hK l (k + 1) (listed.setIfInBounds k true) Γ' F' (fun j => by have := hl (j + 1); simpa [Nat.add_assoc, Nat.add_comm 1 j] using this) (by simpa using hz) (fun t hts => by
      by_cases h1 : k = t
      · subst h1
        have : k < listed.size := by omega
        simp [this]
      · rw [getD_set_ne true h1, ht t hts, decide_eq_decide]; omega) (hdn.set hr') hB' hK'
    refine TAny2_first hK h0 hd l.length listed Γ F (Region.free_spec h0 hf) (fun j hj hji hun => ?_) hdn hr' (h.mono fun Γ' F' h' => ih _ _ h')
    rw [ht j hj] at hun
    exact okB_spec hc hk hj (by have := of_decide_eq_false hun; omega)
end any

section world
variable {P : Program} {r : Ref} {n : Nat} {Ωs : List Pe} {ops : Array Oper} {cl : Nat → Nat} {md : Region.Mode}
theorem RSt.putG {Γ : Env} {F : Fam} {a : Act} {w w' : World} {d : Option Tmp} {v : Value} {τ : Ty} {g : F.ν} (ha : Stt r n (Env.or (F.Θ g) Γ) (Ωs ++ F.Ω g) a w) (hd : ∀ t, d = some t → t < n) (hof : ∀ t, d = some t → t ∉ F.tl)
    (hg : Grow r.w.heap.size w w') (hv : τ.p (Pub r.A (Ωs ++ F.Ω g)) w' v) : RSt r n Ωs (Γ.put d τ) F (a.put d v) w' := by
  have hst := ha.put (d := d) (τ := τ) hd hg hv
  refine ⟨g, hst.sz, hst.df, hst.mu, fun t => ?_, hst.pv⟩
  have ht := hst.ty t
  cases hdst : d with
  | none => rw [hdst] at ht; exact ht
  | some d =>
    rw [hdst] at ht
    simp only [Env.put, Env.set, Env.or] at ht ⊢
    by_cases htd : t = d
    · subst htd
      simp only [if_true] at ht ⊢
      rw [F.off g t (hof t hdst)]
      exact ⟨trivial, ht⟩
    · simp only [htd, if_false] at ht ⊢
      exact ht
theorem RSt.putN {Γ : Env} {F : Fam} {a : Act} {w' : World} {d : Option Tmp} {v : Value} {g : F.ν} {μ : F.ν → Type} {τ : (g : F.ν) → μ g → Ty} {Ω' : (g : F.ν) → μ g → List Pe} {m : μ g}
    (hst : Stt r n ((Env.or (F.Θ g) Γ).put d (τ g m)) (Ωs ++ Ω' g m) (a.put d v) w') : RSt r n Ωs (Γ.put d Ty.any) (F.next d τ Ω') (a.put d v) w' := by
  refine ⟨(⟨g, m⟩ : (g : F.ν) × μ g), hst.sz, hst.df, hst.mu, fun t => ?_, hst.pv⟩
  have ht := hst.ty t
  cases hdst : d with
  | none => rw [hdst] at ht; simpa only [Fam.next, Env.put] using ht
  | some d =>
    rw [hdst] at ht
    simp only [Fam.next, Env.put, Env.set, Env.or] at ht ⊢
    by_cases htd : t = d
    · subst htd
      simp only [if_true] at ht ⊢
      exact ⟨ht, trivial⟩
    · simp only [htd, if_false] at ht ⊢
      exact ht

theorem wpOp_of_tOp2 [op : Opens r] {i : Nat} {Γ : Env} {F : Fam} {K : Env → Fam → Prop} {K' : Act → World → Prop} {Q' : Exit → Act → World → Prop} {a : Act} {w : World} (ha : RSt r n Ωs Γ F a w)
    (h : ∀ Γ' F' a' w', RSt r n Ωs Γ' F' a' w' → K Γ' F' → K' a' w') (hh : tOp2 P r.w.heap.size Ωs ops n cl i K Γ F) : wpOpIn (FR r.ρ) 0 P ops Q' i K' a w := by
  unfold tOp2 at hh
  unfold wpOpIn
  split
  · rename_i ho; simp only [ho] at hh; exact h _ _ _ _ ha hh
  · rename_i o ho
    simp only [ho] at hh
    obtain ⟨hd, hh⟩ := hh
    obtain ⟨g, ha⟩ := ha
    rcases hh with ⟨_, hof, τ, hy, hK⟩ | ⟨_, μ, τ, Ω', hy, hK⟩ | ⟨_, τ, hy, hK⟩ | ⟨_, C, hy, hK⟩
    · have hy := hy (Pub r.A (Ωs ++ F.Ω g)) a w ha.mu.size ha.up (Pks_append.1 ha.pv.ks).1 fun t _ => (ha.ty t).2
      split
      · rename_i hw
        simp only [hw, if_true] at hy
        exact wp_of_yields hy fun v w' hg hv => h _ _ _ _ (RSt.putG ha hd hof hg hv) hK
      · rename_i hw
        simp only [hw] at hy
        exact ⟨fun _ _ => trivial, h _ _ _ _ (RSt.putG ha hd hof (Grow.refl _ _) hy) hK⟩
    · have hy := hy [] g
      rw [List.append_nil] at hy
      have hg := hy.1
      have hy := ha.opT ha.ty hy
      rw [if_pos (by simp [Region.wanted, hg])]
      exact wp_of_yieldsT hy fun m v w' haf => h _ _ _ _ (RSt.putN (ha.T (d := o.dst) hd haf)) hK
    · have hy := hy g (Pub r.A (Ωs ++ F.Ω g)) a w ha.mu.size ha.up ha.pv.ks fun t _ => ha.ty t
      split
      · rename_i hw
        simp only [hw, if_true] at hy
        exact wp_of_yields hy fun v w' hg hv => h _ _ _ _ (RSt.putN (μ := fun _ => Unit) (τ := fun g _ => τ g) (Ω' := fun g _ => F.Ω g) (m := ()) (ha.put (d := o.dst) hd hg hv)) hK
      · rename_i hw
        simp only [hw] at hy
        exact ⟨fun _ _ => trivial, h _ _ _ _ (RSt.putN (μ := fun _ => Unit) (τ := fun g _ => τ g) (Ω' := fun g _ => F.Ω g) (m := ()) (ha.put (d := o.dst) hd (Grow.refl _ _) hy)) hK⟩
    · have hy := hy r.w.heap.size Ωs (F.Ω g) (Env.or (F.Θ g) Γ)
      have hg := hy.1
      have hy := ha.opT ha.ty hy
      rw [if_pos (by simp [Region.wanted, hg])]
      exact wp_of_yieldsT hy fun m v w' haf => h _ _ _ _ (RSt.putN (μ := fun _ => Nat) (τ := fun _ b => Pt b 0) (Ω' := fun g b => ⟨b, True, C⟩ :: F.Ω g) (m := m) (ha.T (d := o.dst) hd haf)) hK
theorem wpAny_of_T2 [op : Opens r] {K : Env → Fam → Prop} {Q' : Exit → Act → World → Prop} (hQ : ∀ Γ F a w, RSt r n Ωs Γ F a w → K Γ F → Q' .normal a w) : ∀ (fuel : Nat) (listed : Array Bool) (Γ : Env) (F : Fam) (a : Act) (w : World),
    RSt r n Ωs Γ F a w → TAny2 P r.w.heap.size Ωs ops n cl md K fuel listed Γ F → wpAnyIn (FR r.ρ) 0 P md ops Q' fuel listed a w
  | 0, _, _, _, _, _, ha, h => ⟨h.1, hQ _ _ _ _ ha h.2⟩
  | fuel + 1, _, _, _, _, _, ha, h => ⟨fun h0 => hQ _ _ _ _ ha (h.1 h0), fun i hi => wpOp_of_tOp2 ha (fun Γ' F' a' w' ha' hK => wpAny_of_T2 hQ fuel _ Γ' F' a' w' ha' hK) (h.2 i hi)⟩
end world

section rules
variable {P : Program} {r : Ref} {n : Nat} {Γ : Env} {Ω Ωs Ωt : List Pe} {Q : Exit → Act → World → Prop} [op : Opens r]
theorem Less.tail {Ω1 Ω2 : List Pe} (hp : Ω1.Perm Ω2) : Less (Ωs ++ Ω1) (Ωs ++ Ω2) := Less.perm (hp.append_left Ωs)
theorem TC.regionD2 {id : Nat} {l : List Oper} {R : Env → List Pe → Prop} {Q' : Exit → Act → World → Prop} (cs : List Nat) (hΩ : Less Ω (Ωs ++ Ωt)) (hm : P.follows .mixedOrders = true) (hB : Region.lexB .any l.toArray = true) (hc : okB .any l.toArray (fun k => cs.getD k 0) l.toArray.size = true)
    (hR : ∀ Γ Ω, R Γ Ω → ∀ a w, Stt r n Γ Ω a w → Q' .normal a w)
    (hle : ∀ Γ Γ' Ω1 Ω2, Γ'.le Γ → Ω1.Perm Ω2 → R Γ (Ωs ++ Ω2) → R Γ' (Ωs ++ Ω1))
    (h : TRw2 P r.w.heap.size Ωs l.toArray n (fun k => cs.getD k 0) 0 l Γ (Fam.one Ωt) fun Γ' F' => ∀ g, R (Env.or (F'.Θ g) Γ') (Ωs ++ F'.Ω g)) : TC P r n Γ Ω (.region id l.toArray true) Q' := by
  intro a w hs
  have hs := hs.less hΩ
  simp only [Region.lexB, Bool.and_eq_true] at hB
  refine wpIn_region_any hm ?_
  have hK : Cl fun Γ' F' => ∀ g, R (Env.or (F'.Θ g) Γ') (Ωs ++ F'.Ω g) := fun Γ F F' s hk g => hle _ _ _ _ (fun t => or_le (s.th g) t) (s.pm g) (hk (s.h g))
  have h2 := TAny2_lex (P := P) (md := .any) (ops := l.toArray) hc hK l 0 (Array.replicate l.toArray.size false) Γ (Fam.one Ωt) (fun j => by simp) (by simp) (fun t ht => by
    rw [Array.getD_eq_getD_getElem?, Array.getElem?_replicate]; simp at ht; simp [ht]) (fun j o ho hj => by
      have hlt : j < l.toArray.size := (Array.getElem?_eq_some_iff.1 ho).1
      rw [Array.getD_eq_getD_getElem?, Array.getElem?_replicate, if_pos hlt] at hj; cases hj) (by simpa using hB.2) h
  have hg : Grow r.w.heap.size w { w with drawn := w.drawn + 1 } := Grow.drawn _
  have h3 : RSt r n Ωs Γ (Fam.one Ωt) a { w with drawn := w.drawn + 1 } :=
    ⟨(), hs.sz, hs.df, hs.mu.stp (Stp.of_grow (S := fun _ => False) hg) (fun j hj => hj.elim), fun t => ⟨trivial, (Γ t).st hg (hs.ty t)⟩, hs.pv.grow hg⟩
  have := wpAny_of_T2 (P := P) (Q' := Q') (md := .any) (fun Γ' F' a w ⟨g, hok⟩ hK => hR _ _ (hK g) a w hok) _ _ Γ (Fam.one Ωt) a { w with drawn := w.drawn + 1 } h3 h2
  simpa using this
theorem TC.regD2 {id : Nat} {l : List Oper} (cs : List Nat) (bs : List Nat) [hs : Split Ω bs Ωs Ωt] (hm : P.follows .mixedOrders = true) (hB : Region.lexB .any l.toArray = true) (hc : okB .any l.toArray (fun k => cs.getD k 0) l.toArray.size = true)
    (h : TRw2 P r.w.heap.size Ωs l.toArray n (fun k => cs.getD k 0) 0 l Γ (Fam.one Ωt) fun Γ' F' => ∀ g, TE r n (Env.or (F'.Θ g) Γ') (Ωs ++ F'.Ω g) Q .normal) : TC P r n Γ Ω (.region id l.toArray true) Q :=
  TC.regionD2 (R := fun Γ Ω => TE r n Γ Ω Q .normal) cs (Less.perm hs.perm) hm hB hc (fun _ _ h => h) (fun _ _ _ _ h1 h2 h3 => TE.weaken h1 (TE.less (Less.tail h2) h3)) h
theorem TC.seqD2 {id : Nat} {l : List Oper} {y : Code} (cs : List Nat) (bs : List Nat) [hs : Split Ω bs Ωs Ωt] (hm : P.follows .mixedOrders = true) (hB : Region.lexB .any l.toArray = true) (hc : okB .any l.toArray (fun k => cs.getD k 0) l.toArray.size = true)
    (h : TRw2 P r.w.heap.size Ωs l.toArray n (fun k => cs.getD k 0) 0 l Γ (Fam.one Ωt) fun Γ' F' => ∀ g, TC P r n (Env.or (F'.Θ g) Γ') (Ωs ++ F'.Ω g) y Q) : TC P r n Γ Ω (.seq (.region id l.toArray true) y) Q :=
  TC.seq (TC.regionD2 (R := fun Γ Ω => TC P r n Γ Ω y Q) cs (Less.perm hs.perm) hm hB hc (fun _ _ h => h) (fun _ _ _ _ h1 h2 h3 => TC.weaken h1 (TC.less (Less.tail h2) h3)) h)
end rules

section steps
variable {P : Program} {B : Nat} {Ωs : List Pe} {ops : Array Oper} {n : Nat} {cl : Nat → Nat} {k : Nat} {Γ : Env} {F : Fam} {K : Env → Fam → Prop}
theorem TR2.nil (h : K Γ F) : TRw2 P B Ωs ops n cl k [] Γ F K := h
theorem TR2.G {d : Tmp} {op : Op} {ty : TypeId} {pos : String} {aft : Array Edge} {gd : Option (Nat × Bool)} {rest : List Oper} {τ : Ty}
    (h : OpG P B ops Ωs Γ ⟨some d, op, ty, pos, aft, gd⟩ τ) (hd : (Nat.blt d n && Nat.beq (cl k) 0 && !F.tl.contains d) = true) (hk : TRw2 P B Ωs ops n cl (k + 1) rest (Γ.set d τ) F K) : TRw2 P B Ωs ops n cl k (⟨some d, op, ty, pos, aft, gd⟩ :: rest) Γ F K := by
  simp only [Bool.and_eq_true, Bool.not_eq_true'] at hd
  exact ⟨fun t e => by injection e with e; subst e; simpa using hd.1.1, .inl ⟨Nat.eq_of_beq_eq_true hd.1.2, fun t e => by injection e with e; subst e; simpa using hd.2, τ, h, hk⟩⟩
theorem TR2.s {d : Tmp} {op : Op} {ty : TypeId} {pos : String} {aft : Array Edge} {rest : List Oper} {τ : Ty}
    (h : ∀ {A : Nat → Prop}, OpY P B A Ωs Γ ⟨some d, op, ty, pos, aft, none⟩ τ) (hd : (Nat.blt d n && Nat.beq (cl k) 0 && !F.tl.contains d) = true) (hk : TRw2 P B Ωs ops n cl (k + 1) rest (Γ.set d τ) F K) : TRw2 P B Ωs ops n cl k (⟨some d, op, ty, pos, aft, none⟩ :: rest) Γ F K :=
  TR2.G (OpG.s h) hd hk
theorem TR2.g {d : Tmp} {op : Op} {ty : TypeId} {pos : String} {aft : Array Edge} {rest : List Oper} {τ : Ty} {j : Nat} {want : Bool} {b : Bool} (g : Tmp) {σ : Ty} [hs : Has Γ (.tmp g) σ] [hb : AsB σ b]
    (hg : (ops[j]?).bind (·.dst) = some g)
    (h : Ft (b = want) → ∀ {A : Nat → Prop}, OpY P B A Ωs Γ ⟨some d, op, ty, pos, aft, some (j, want)⟩ τ) (hd : (Nat.blt d n && Nat.beq (cl k) 0 && !F.tl.contains d) = true) (hk : TRw2 P B Ωs ops n cl (k + 1) rest (Γ.set d (Cond (b = want) τ)) F K) : TRw2 P B Ωs ops n cl k (⟨some d, op, ty, pos, aft, some (j, want)⟩ :: rest) Γ F K :=
  TR2.G (OpG.g g hg h) hd hk
theorem TR2.gg {d : Tmp} {op : Op} {ty : TypeId} {pos : String} {aft : Array Edge} {rest : List Oper} {τ : Ty} {j : Nat} {want : Bool} {p : Prop} {b : Bool} (g : Tmp) {σ : Ty} [hs : Has Γ (.tmp g) (Cond p σ)] [hb : AsB σ b]
    (hg : (ops[j]?).bind (·.dst) = some g)
    (h : Ft p → Ft (b = want) → ∀ {A : Nat → Prop}, OpY P B A Ωs Γ ⟨some d, op, ty, pos, aft, some (j, want)⟩ τ) (hd : (Nat.blt d n && Nat.beq (cl k) 0 && !F.tl.contains d) = true) (hk : TRw2 P B Ωs ops n cl (k + 1) rest (Γ.set d (Cond (p ∧ b = want) τ)) F K) : TRw2 P B Ωs ops n cl k (⟨some d, op, ty, pos, aft, some (j, want)⟩ :: rest) Γ F K :=
  TR2.G (OpG.gg g hg h) hd hk
theorem TR2.t {d : Tmp} {op : Op} {ty : TypeId} {pos : String} {aft : Array Edge} {gd : Option (Nat × Bool)} {rest : List Oper} {μ : F.ν → Type} {τ : (g : F.ν) → μ g → Ty} {Ω' : (g : F.ν) → μ g → List Pe}
    (h : ∀ Ωr g, OpT P B (Ωs ++ Ωr) (F.Ω g) (Env.or (F.Θ g) Γ) ⟨some d, op, ty, pos, aft, gd⟩ (τ g) (Ω' g)) (hd : (Nat.blt d n && Nat.beq (cl k) 1) = true) (hk : TRw2 P B Ωs ops n cl (k + 1) rest (Γ.set d Ty.any) (F.nextS d τ Ω') K) : TRw2 P B Ωs ops n cl k (⟨some d, op, ty, pos, aft, gd⟩ :: rest) Γ F K := by
  simp only [Bool.and_eq_true] at hd
  exact ⟨fun t e => by injection e with e; subst e; simpa using hd.1, .inr (.inl ⟨Nat.eq_of_beq_eq_true hd.2, μ, τ, Ω', h, hk⟩)⟩
theorem TR2.tn {op : Op} {ty : TypeId} {pos : String} {aft : Array Edge} {gd : Option (Nat × Bool)} {rest : List Oper} {μ : F.ν → Type} {τ : (g : F.ν) → μ g → Ty} {Ω' : (g : F.ν) → μ g → List Pe}
    (h : ∀ Ωr g, OpT P B (Ωs ++ Ωr) (F.Ω g) (Env.or (F.Θ g) Γ) ⟨none, op, ty, pos, aft, gd⟩ (τ g) (Ω' g)) (hd : Nat.beq (cl k) 1 = true) (hk : TRw2 P B Ωs ops n cl (k + 1) rest Γ (F.nextN Ω') K) : TRw2 P B Ωs ops n cl k (⟨none, op, ty, pos, aft, gd⟩ :: rest) Γ F K :=
  ⟨fun t e => (by cases e), .inr (.inl ⟨Nat.eq_of_beq_eq_true hd, μ, τ, Ω', h, hk⟩)⟩
/-- a step that reads what is touched -/
theorem TR2.r {d : Tmp} {op : Op} {ty : TypeId} {pos : String} {aft : Array Edge} {gd : Option (Nat × Bool)} {rest : List Oper} {τ : F.ν → Ty}
    (h : ∀ g, OpG P B ops (Ωs ++ F.Ω g) (Env.or (F.Θ g) Γ) ⟨some d, op, ty, pos, aft, gd⟩ (τ g)) (hd : (Nat.blt d n && Nat.beq (cl k) 2) = true) (hk : TRw2 P B Ωs ops n cl (k + 1) rest (Γ.set d Ty.any) (F.nextS d (μ := fun _ => Unit) (fun g _ => τ g) fun g _ => F.Ω g) K) : TRw2 P B Ωs ops n cl k (⟨some d, op, ty, pos, aft, gd⟩ :: rest) Γ F K := by
  simp only [Bool.and_eq_true] at hd
  exact ⟨fun t e => by injection e with e; subst e; simpa using hd.1, .inr (.inr (.inl ⟨Nat.eq_of_beq_eq_true hd.2, τ, h, hk⟩))⟩
/-- a step that makes a box -/
theorem TR2.a {d : Tmp} {op : Op} {ty : TypeId} {pos : String} {aft : Array Edge} {gd : Option (Nat × Bool)} {rest : List Oper} {C : Ct}
    (h : AllocU P ⟨some d, op, ty, pos, aft, gd⟩ C) (hd : (Nat.blt d n && Nat.beq (cl k) 3) = true) (hk : TRw2 P B Ωs ops n cl (k + 1) rest (Γ.set d Ty.any) (F.nextS d (μ := fun _ => Nat) (fun _ b => Pt b 0) fun g b => ⟨b, True, C⟩ :: F.Ω g) K) : TRw2 P B Ωs ops n cl k (⟨some d, op, ty, pos, aft, gd⟩ :: rest) Γ F K := by
  simp only [Bool.and_eq_true] at hd
  exact ⟨fun t e => by injection e with e; subst e; simpa using hd.1, .inr (.inr (.inr ⟨Nat.eq_of_beq_eq_true hd.2, C, h, hk⟩))⟩
end steps
end Go.Proofs.Ytfdmajkeihdhnaa.Tr
