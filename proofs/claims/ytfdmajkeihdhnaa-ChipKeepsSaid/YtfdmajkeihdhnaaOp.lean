/- What single operations do to the slots' types. Conditions: none. -/
import Derived.Test.YtfdmajkeihdhnaaTy
namespace Go.Proofs.Ytfdmajkeihdhnaa.Tr
open Go Go.RowKit
set_option linter.unusedVariables false
set_option linter.unnecessarySimpa false

section step
variable {P : Program} {r : Ref} {B : Nat} {Ωs : List Pe} {ops : Array Oper} {n : Nat} {ms : List Nat} {k : Nat} {Γ : Env} {Ω : List Pe} {F : Fam} {Q : Exit → Act → World → Prop} {K : Env → Fam → Prop}

theorem yielded_of {j : Nat} {g : Tmp} {b : Bool} {a : Act} (hg : (ops[j]?).bind (·.dst) = some g) (hv : a.tmps.getD g undef = .bool b) : yielded ops a.tmps j = some b := by
  unfold yielded
  rw [hg]
  simp only [Option.bind_some]
  rw [Array.getD_eq_getD_getElem?] at hv
  cases h : a.tmps[g]? with
  | none => rw [h] at hv; simp [undef] at hv
  | some v => rw [h] at hv; simp at hv; rw [hv]

theorem OpG.s {d : Option Tmp} {op : Op} {ty : TypeId} {pos : String} {aft : Array Edge} {τ : Ty} (h : ∀ {A : Nat → Prop}, OpY P B A Ωs Γ ⟨d, op, ty, pos, aft, none⟩ τ) : OpG P B ops Ωs Γ ⟨d, op, ty, pos, aft, none⟩ τ := fun A a w hB hu hp hl => by
  rw [if_pos (by simp [Region.wanted])]
  exact h a w hB hu hp fun t ht => hl t (mem_looks ht)

/-- an operation behind a guard -/
theorem OpG.g {d : Tmp} {op : Op} {ty : TypeId} {pos : String} {aft : Array Edge} {τ : Ty} {j : Nat} {want : Bool} {b : Bool} (g : Tmp) {σ : Ty} [hs : Has Γ (.tmp g) σ] [hb : AsB σ b]
    (hg : (ops[j]?).bind (·.dst) = some g)
    (h : Ft (b = want) → ∀ {A : Nat → Prop}, OpY P B A Ωs Γ ⟨some d, op, ty, pos, aft, some (j, want)⟩ τ) : OpG P B ops Ωs Γ ⟨some d, op, ty, pos, aft, some (j, want)⟩ (Cond (b = want) τ) := fun A a w hB hu hp hl => by
  have hv : a.tmps.getD g undef = .bool b := by
    refine hb.le A w _ (hs.at A w _ (hl g ?_))
    unfold Oper.looksAt
    refine List.mem_append.2 (.inr ?_)
    simp [hg]
  have hy := yielded_of (ops := ops) hg hv
  by_cases hbw : b = want
  · subst hbw
    rw [if_pos (by simp [Region.wanted, hy])]
    have := h ⟨rfl⟩ a w hB hu hp fun t ht => hl t (mem_looks ht)
    generalize (execOp a.eval _).run P w = r at *
    cases r with
    | ok x w' =>
      cases x <;> simp only [Yields] at this ⊢
      case value v => exact ⟨this.1, fun _ => this.2, fun x => absurd trivial (by simp at x)⟩
      case skip => exact ⟨this.1, fun _ => this.2, fun x => absurd trivial (by simp at x)⟩
      case enter f args => exact ⟨this.1, this.2.mono fun e w'' ⟨v, h1, h2, h3⟩ => ⟨v, h1, h2, fun _ => h3, fun x => absurd trivial (by simp at x)⟩⟩
    | halt x w' => simp only [Yields] at this
  · rw [if_neg (by simp [Region.wanted, hy]; exact hbw)]
    exact ⟨fun x => absurd x hbw, fun _ => rfl⟩
/-- an operation behind a guarded guard -/
theorem OpG.gg {d : Tmp} {op : Op} {ty : TypeId} {pos : String} {aft : Array Edge} {τ : Ty} {j : Nat} {want : Bool} {p : Prop} {b : Bool} (g : Tmp) {σ : Ty} [hs : Has Γ (.tmp g) (Cond p σ)] [hb : AsB σ b]
    (hg : (ops[j]?).bind (·.dst) = some g)
    (h : Ft p → Ft (b = want) → ∀ {A : Nat → Prop}, OpY P B A Ωs Γ ⟨some d, op, ty, pos, aft, some (j, want)⟩ τ) : OpG P B ops Ωs Γ ⟨some d, op, ty, pos, aft, some (j, want)⟩ (Cond (p ∧ b = want) τ) := fun A a w hB hu hp hl => by
  have hv := hs.at A w _ (hl g (by
    unfold Oper.looksAt
    refine List.mem_append.2 (.inr ?_)
    simp [hg]))
  by_cases hpp : p
  · have hv : a.tmps.getD g undef = .bool b := hb.le A w _ (hv.1 hpp)
    have hy := yielded_of (ops := ops) hg hv
    by_cases hbw : b = want
    · subst hbw
      rw [if_pos (by simp [Region.wanted, hy])]
      have := h ⟨hpp⟩ ⟨rfl⟩ a w hB hu hp fun t ht => hl t (mem_looks ht)
      generalize (execOp a.eval _).run P w = r at *
      cases r with
      | ok x w' =>
        cases x <;> simp only [Yields] at this ⊢
        case value v => exact ⟨this.1, fun _ => this.2, fun x => absurd hpp (by simpa using x)⟩
        case skip => exact ⟨this.1, fun _ => this.2, fun x => absurd hpp (by simpa using x)⟩
        case enter f args => exact ⟨this.1, this.2.mono fun e w'' ⟨v, h1, h2, h3⟩ => ⟨v, h1, h2, fun _ => h3, fun x => absurd hpp (by simpa using x)⟩⟩
      | halt x w' => simp only [Yields] at this
    · rw [if_neg (by simp [Region.wanted, hy]; exact hbw)]
      exact ⟨fun x => absurd x.2 hbw, fun _ => rfl⟩
  · have hu : a.tmps.getD g undef = undef := hv.2 hpp
    have hn : yielded ops a.tmps j = none := by
      unfold yielded
      rw [hg]
      simp only [Option.bind_some]
      rw [Array.getD_eq_getD_getElem?] at hu
      cases h : a.tmps[g]? with
      | none => rfl
      | some v => rw [h] at hu; simp at hu; rw [hu]; rfl
    rw [if_neg (by simp [Region.wanted, hn])]
    exact ⟨fun x => absurd x.1 hpp, fun _ => rfl⟩

/-! drawn regions -/
theorem TR.nil (h : K Γ F) : TRw P B Ωs ops n ms k [] Γ F K := h
theorem TR.G {d : Tmp} {op : Op} {ty : TypeId} {pos : String} {aft : Array Edge} {gd : Option (Nat × Bool)} {rest : List Oper} {τ : Ty}
    (h : OpG P B ops Ωs Γ ⟨some d, op, ty, pos, aft, gd⟩ τ) (hd : (Nat.blt d n && !ms.contains k && !F.tl.contains d) = true) (hk : TRw P B Ωs ops n ms (k + 1) rest (Γ.set d τ) F K) : TRw P B Ωs ops n ms k (⟨some d, op, ty, pos, aft, gd⟩ :: rest) Γ F K := by
  simp only [Bool.and_eq_true, Bool.not_eq_true'] at hd
  exact ⟨fun t e => by injection e with e; subst e; simpa using hd.1.1, .inl ⟨by simpa using hd.1.2, fun t e => by injection e with e; subst e; simpa using hd.2, τ, h, hk⟩⟩
theorem TR.s {d : Tmp} {op : Op} {ty : TypeId} {pos : String} {aft : Array Edge} {rest : List Oper} {τ : Ty}
    (h : ∀ {A : Nat → Prop}, OpY P B A Ωs Γ ⟨some d, op, ty, pos, aft, none⟩ τ) (hd : (Nat.blt d n && !ms.contains k && !F.tl.contains d) = true) (hk : TRw P B Ωs ops n ms (k + 1) rest (Γ.set d τ) F K) : TRw P B Ωs ops n ms k (⟨some d, op, ty, pos, aft, none⟩ :: rest) Γ F K :=
  TR.G (OpG.s h) hd hk
theorem TR.g {d : Tmp} {op : Op} {ty : TypeId} {pos : String} {aft : Array Edge} {rest : List Oper} {τ : Ty} {j : Nat} {want : Bool} {b : Bool} (g : Tmp) {σ : Ty} [hs : Has Γ (.tmp g) σ] [hb : AsB σ b]
    (hg : (ops[j]?).bind (·.dst) = some g)
    (h : Ft (b = want) → ∀ {A : Nat → Prop}, OpY P B A Ωs Γ ⟨some d, op, ty, pos, aft, some (j, want)⟩ τ) (hd : (Nat.blt d n && !ms.contains k && !F.tl.contains d) = true) (hk : TRw P B Ωs ops n ms (k + 1) rest (Γ.set d (Cond (b = want) τ)) F K) : TRw P B Ωs ops n ms k (⟨some d, op, ty, pos, aft, some (j, want)⟩ :: rest) Γ F K :=
  TR.G (OpG.g g hg h) hd hk
theorem TR.gg {d : Tmp} {op : Op} {ty : TypeId} {pos : String} {aft : Array Edge} {rest : List Oper} {τ : Ty} {j : Nat} {want : Bool} {p : Prop} {b : Bool} (g : Tmp) {σ : Ty} [hs : Has Γ (.tmp g) (Cond p σ)] [hb : AsB σ b]
    (hg : (ops[j]?).bind (·.dst) = some g)
    (h : Ft p → Ft (b = want) → ∀ {A : Nat → Prop}, OpY P B A Ωs Γ ⟨some d, op, ty, pos, aft, some (j, want)⟩ τ) (hd : (Nat.blt d n && !ms.contains k && !F.tl.contains d) = true) (hk : TRw P B Ωs ops n ms (k + 1) rest (Γ.set d (Cond (p ∧ b = want) τ)) F K) : TRw P B Ωs ops n ms k (⟨some d, op, ty, pos, aft, some (j, want)⟩ :: rest) Γ F K :=
  TR.G (OpG.gg g hg h) hd hk
/-- the touched part behind a step with a slot, and without -/
@[reducible] def Fam.nextS (F : Fam) (d : Tmp) {μ : F.ν → Type} (τ : (g : F.ν) → μ g → Ty) (Ω' : (g : F.ν) → μ g → List Pe) : Fam :=
  ⟨(g : F.ν) × μ g, fun g => Env.set (F.Θ g.1) d (τ g.1 g.2), fun g => Ω' g.1 g.2, d :: F.tl, (F.next (some d) τ Ω').off⟩
@[reducible] def Fam.nextN (F : Fam) {μ : F.ν → Type} (Ω' : (g : F.ν) → μ g → List Pe) : Fam :=
  ⟨(g : F.ν) × μ g, fun g => F.Θ g.1, fun g => Ω' g.1 g.2, F.tl, fun g t h => F.off g.1 t h⟩
/-- a step that touches private blocks -/
theorem TR.t {d : Tmp} {op : Op} {ty : TypeId} {pos : String} {aft : Array Edge} {gd : Option (Nat × Bool)} {rest : List Oper} {μ : F.ν → Type} {τ : (g : F.ν) → μ g → Ty} {Ω' : (g : F.ν) → μ g → List Pe}
    (h : ∀ g, OpT P B Ωs (F.Ω g) (Env.or (F.Θ g) Γ) ⟨some d, op, ty, pos, aft, gd⟩ (τ g) (Ω' g)) (hd : (Nat.blt d n && ms.contains k) = true) (hk : TRw P B Ωs ops n ms (k + 1) rest (Γ.set d Ty.any) (F.nextS d τ Ω') K) : TRw P B Ωs ops n ms k (⟨some d, op, ty, pos, aft, gd⟩ :: rest) Γ F K := by
  simp only [Bool.and_eq_true] at hd
  exact ⟨fun t e => by injection e with e; subst e; simpa using hd.1, .inr ⟨by simpa using hd.2, μ, τ, Ω', h, hk⟩⟩
theorem TR.tn {op : Op} {ty : TypeId} {pos : String} {aft : Array Edge} {gd : Option (Nat × Bool)} {rest : List Oper} {μ : F.ν → Type} {τ : (g : F.ν) → μ g → Ty} {Ω' : (g : F.ν) → μ g → List Pe}
    (h : ∀ g, OpT P B Ωs (F.Ω g) (Env.or (F.Θ g) Γ) ⟨none, op, ty, pos, aft, gd⟩ (τ g) (Ω' g)) (hd : ms.contains k = true) (hk : TRw P B Ωs ops n ms (k + 1) rest Γ (F.nextN Ω') K) : TRw P B Ωs ops n ms k (⟨none, op, ty, pos, aft, gd⟩ :: rest) Γ F K :=
  ⟨fun t e => (by cases e), .inr ⟨by simpa using hd, μ, τ, Ω', h, hk⟩⟩
/-! regions in the text's order -/
theorem TS.s {d : Tmp} {op : Op} {ty : TypeId} {pos : String} {aft : Array Edge} {rest : List Oper} {τ : Ty}
    (h : ∀ {A : Nat → Prop}, OpY P r.w.heap.size A Ω Γ ⟨some d, op, ty, pos, aft, none⟩ τ) (hd : Nat.blt d n = true) (hk : TS P r n ops rest (k + 1) (Γ.set d τ) Ω Q) : TS P r n ops (⟨some d, op, ty, pos, aft, none⟩ :: rest) k Γ Ω Q :=
  TS.G (fun t e => by injection e with e; subst e; simpa using hd) (OpG.s h) hk
theorem TS.g {d : Tmp} {op : Op} {ty : TypeId} {pos : String} {aft : Array Edge} {rest : List Oper} {τ : Ty} {j : Nat} {want : Bool} {b : Bool} (g : Tmp) {σ : Ty} [hs : Has Γ (.tmp g) σ] [hb : AsB σ b]
    (hg : (ops[j]?).bind (·.dst) = some g)
    (h : Ft (b = want) → ∀ {A : Nat → Prop}, OpY P r.w.heap.size A Ω Γ ⟨some d, op, ty, pos, aft, some (j, want)⟩ τ) (hd : Nat.blt d n = true) (hk : TS P r n ops rest (k + 1) (Γ.set d (Cond (b = want) τ)) Ω Q) : TS P r n ops (⟨some d, op, ty, pos, aft, some (j, want)⟩ :: rest) k Γ Ω Q :=
  TS.G (fun t e => by injection e with e; subst e; simpa using hd) (OpG.g g hg h) hk
theorem TS.gg {d : Tmp} {op : Op} {ty : TypeId} {pos : String} {aft : Array Edge} {rest : List Oper} {τ : Ty} {j : Nat} {want : Bool} {p : Prop} {b : Bool} (g : Tmp) {σ : Ty} [hs : Has Γ (.tmp g) (Cond p σ)] [hb : AsB σ b]
    (hg : (ops[j]?).bind (·.dst) = some g)
    (h : Ft p → Ft (b = want) → ∀ {A : Nat → Prop}, OpY P r.w.heap.size A Ω Γ ⟨some d, op, ty, pos, aft, some (j, want)⟩ τ) (hd : Nat.blt d n = true) (hk : TS P r n ops rest (k + 1) (Γ.set d (Cond (p ∧ b = want) τ)) Ω Q) : TS P r n ops (⟨some d, op, ty, pos, aft, some (j, want)⟩ :: rest) k Γ Ω Q :=
  TS.G (fun t e => by injection e with e; subst e; simpa using hd) (OpG.gg g hg h) hk
/-- a step that touches private blocks -/
theorem TS.t [op : Opens r] {d : Tmp} {op : Op} {ty : TypeId} {pos : String} {aft : Array Edge} {gd : Option (Nat × Bool)} {rest : List Oper} {ν : Type} {τ : ν → Ty} {Ω' : ν → List Pe}
    (h : OpT P r.w.heap.size [] Ω Γ ⟨some d, op, ty, pos, aft, gd⟩ τ Ω') (hd : Nat.blt d n = true) (hk : ∀ g, TS P r n ops rest (k + 1) (Γ.set d (τ g)) (Ω' g) Q) : TS P r n ops (⟨some d, op, ty, pos, aft, gd⟩ :: rest) k Γ Ω Q :=
  TS.T (Ωs := []) (Less.refl _) (fun t e => by injection e with e; subst e; simpa using hd) h hk
theorem TS.tn [op : Opens r] {op : Op} {ty : TypeId} {pos : String} {aft : Array Edge} {gd : Option (Nat × Bool)} {rest : List Oper} {ν : Type} {τ : ν → Ty} {Ω' : ν → List Pe}
    (h : OpT P r.w.heap.size [] Ω Γ ⟨none, op, ty, pos, aft, gd⟩ τ Ω') (hk : ∀ g, TS P r n ops rest (k + 1) Γ (Ω' g) Q) : TS P r n ops (⟨none, op, ty, pos, aft, gd⟩ :: rest) k Γ Ω Q :=
  TS.T (Ωs := []) (Less.refl _) (fun t e => by cases e) h hk
/-- the touched blocks among others -/
theorem OpT.frame {Ω Ωt Ωr : List Pe} {Γ : Env} {o : Oper} {ν : Type} {τ : ν → Ty} {Ω' : ν → List Pe} (hp : Ω.Perm (Ωt ++ Ωr)) (h : OpT P B (Ωs ++ Ωr) Ωt Γ o τ Ω') : OpT P B Ωs Ω Γ o τ fun m => Ω' m ++ Ωr := by
  refine ⟨h.1, fun A0 a w hB hu ho ha hk hl => ?_⟩
  have hp1 : (Ωs ++ Ω).Perm ((Ωs ++ Ωr) ++ Ωt) := by
    rw [List.append_assoc]
    exact (hp.trans List.perm_append_comm).append_left _
  have hown : ∀ k, Own ((Ωs ++ Ωr) ++ Ωt) k ↔ Own (Ωs ++ Ω) k := fun k => ⟨fun ⟨e, he, h1⟩ => ⟨e, hp1.mem_iff.2 he, h1⟩, fun ⟨e, he, h1⟩ => ⟨e, hp1.mem_iff.1 he, h1⟩⟩
  have hpub : Pub A0 ((Ωs ++ Ωr) ++ Ωt) = Pub A0 (Ωs ++ Ω) := by
    funext k; exact propext (by rw [Pub_own, Pub_own, hown])
  have hap : Apart ((Ωs ++ Ωr) ++ Ωt) := (hp1.pairwise_iff (fun {x y} hxy p1 p2 he => hxy p2 p1 he.symm)).1 ha
  have hks : Pks (Pub A0 ((Ωs ++ Ωr) ++ Ωt)) ((Ωs ++ Ωr) ++ Ωt) w := by
    rw [hpub]; exact fun e he => hk e (hp1.mem_iff.2 he)
  have hot : ∀ k, Own Ωt k → Own Ω k := fun k ⟨e, he, h1⟩ => ⟨e, hp.mem_iff.2 (List.mem_append_left _ he), h1⟩
  have hor : ∀ k, Own Ωr k → Own Ω k := fun k ⟨e, he, h1⟩ => ⟨e, hp.mem_iff.2 (List.mem_append_right _ he), h1⟩
  have hy := h.2 A0 a w hB hu (fun k hk => ho k (hot k hk)) hap hks (fun t ht => by rw [hpub]; exact hl t ht)
  have conv : ∀ g w' v, Aft B A0 (Ωs ++ Ωr) Ωt (τ g) (Ω' g) w w' v → Aft B A0 Ωs Ω (τ g) (Ω' g ++ Ωr) w w' v := fun g w' v k => by
    have hp2 : ((Ωs ++ Ωr) ++ Ω' g).Perm (Ωs ++ (Ω' g ++ Ωr)) := by
      rw [List.append_assoc]; exact List.perm_append_comm.append_left _
    have hown2 : ∀ k, Own ((Ωs ++ Ωr) ++ Ω' g) k ↔ Own (Ωs ++ (Ω' g ++ Ωr)) k := fun k => ⟨fun ⟨e, he, h1⟩ => ⟨e, hp2.mem_iff.1 he, h1⟩, fun ⟨e, he, h1⟩ => ⟨e, hp2.mem_iff.2 he, h1⟩⟩
    have hpub2 : Pub A0 ((Ωs ++ Ωr) ++ Ω' g) = Pub A0 (Ωs ++ (Ω' g ++ Ωr)) := by
      funext k; exact propext (by rw [Pub_own, Pub_own, hown2])
    have hkp : Keep (Pub A0 ((Ωs ++ Ωr) ++ Ωt)) (Pub A0 ((Ωs ++ Ωr) ++ Ω' g)) w w' := by
      refine ⟨k.st.size, fun j hj hpj => ?_⟩
      obtain ⟨h1, h2⟩ := Pub_own.1 hpj
      refine ⟨Pub_own.2 ⟨h1, fun ho => ?_⟩, k.st.cells j hj fun ho => h2 (Own_append.2 (.inr ho))⟩
      rcases Own_append.1 ho with ho | ho
      · exact h2 (Own_append.2 (.inl ho))
      · rcases k.nw j ho with ho | ho
        · exact h2 (Own_append.2 (.inr ho))
        · omega
    refine ⟨k.st.mono (Nat.le_refl _) hot, fun j hj => ?_, (hp2.pairwise_iff (fun {x y} hxy p1 p2 he => hxy p2 p1 he.symm)).1 k.ap, by rw [← hpub2]; exact k.ty, ?_⟩
    · rcases Own_append.1 hj with hj | hj
      · rcases k.nw j hj with h1 | h1
        · exact .inl (hot j h1)
        · exact .inr h1
      · exact .inl (hor j hj)
    · rw [← hpub2]
      refine Pks_append.2 ⟨k.ks, ?_⟩
      refine (Pks_append.1 (Pks_append.1 hks).1).2.keep hkp fun j hj ho => k.st.cells j hj fun ho2 => ?_
      obtain ⟨e, he, hp, hb⟩ := ho
      obtain ⟨f, hf, hq, hbf⟩ := ho2
      exact (List.pairwise_append.1 hap).2.2 e (List.mem_append_right _ he) f hf hp hq (hb.trans hbf.symm)
  generalize (execOp a.eval o).run P w = r at *
  cases r with
  | ok x w' =>
    cases x <;> simp only [YieldsT] at hy ⊢
    case value v => obtain ⟨g, h⟩ := hy; exact ⟨g, conv _ _ _ h⟩
    case skip => obtain ⟨g, h⟩ := hy; exact ⟨g, conv _ _ _ h⟩
    case enter f args => exact hy.mono fun e w'' ⟨v, g, h1, h2⟩ => ⟨v, g, h1, conv _ _ _ h2⟩
  | halt x w' => simp only [YieldsT] at hy
/-- a step that only reads, where what is touched is read -/
theorem OpT.G {Γ : Env} {o : Oper} {τ : Ty} (hg : o.guard = none) (h : ∀ {A : Nat → Prop}, OpY P B A (Ωs ++ Ω) Γ o τ) : OpT P B Ωs Ω Γ o (fun _ : Unit => τ) fun _ => Ω := by
  refine ⟨hg, fun A0 a w hB hu ho ha hk hl => ?_⟩
  have hy := h (A := Pub A0 (Ωs ++ Ω)) a w hB (fun k hk' => Pub_own.2 ⟨hu k hk', fun ho => by have := hk.lt ho; omega⟩) hk hl
  have conv : ∀ w' v, Grow B w w' → τ.p (Pub A0 (Ωs ++ Ω)) w' v → Aft B A0 Ωs Ω τ Ω w w' v := fun w' v hg hv =>
    ⟨Stp.of_grow hg, fun k hk => .inl hk, ha, hv, (Pks_append.1 hk).2.keep (Keep.grow hg) fun j hj _ => hg.cells j hj⟩
  generalize (execOp a.eval o).run P w = r at *
  cases r with
  | ok x w' =>
    cases x <;> simp only [Yields] at hy <;> simp only [YieldsT]
    case value v => exact ⟨(), conv _ _ hy.1 hy.2⟩
    case skip => exact ⟨(), conv _ _ hy.1 hy.2⟩
    case enter f args => exact hy.2.mono fun e w'' ⟨v, h1, h2, h3⟩ => ⟨v, (), h1, conv _ _ (hy.1.trans h2) h3⟩
  | halt x w' => simp only [Yields] at hy
end step

section ops
variable {P : Program} {B0 : Nat} {A : Nat → Prop} {Ω : List Pe} {Γ : Env} {dst : Option Tmp} {ty : TypeId} {pos : String} {aft : Array Edge} {gd : Option (Nat × Bool)}

/-- an operation that yields a value, whatever the world -/
theorem OpY.val {op : Op} {τ : Ty} (h : ∀ (a : Act) (w : World), (∀ t, .tmp t ∈ op.operands.toList → (Γ t).p A w (a.tmps.getD t undef)) → ∃ v, (execOp a.eval ⟨dst, op, ty, pos, aft, gd⟩).run P w = .ok (.value v) w ∧ τ.p A w v) :
    OpY P B0 A Ω Γ ⟨dst, op, ty, pos, aft, gd⟩ τ := fun a w _ _ _ hl => by
  obtain ⟨v, h1, h2⟩ := h a w hl
  rw [h1]
  exact ⟨Grow.refl _ _, h2⟩

theorem Has.ev {x : Operand} {τ : Ty} [h : Has Γ x τ] {op : Op} {a : Act} {w : World} (hx : x ∈ op.operands.toList) (hl : ∀ t, .tmp t ∈ op.operands.toList → (Γ t).p A w (a.tmps.getD t undef)) : τ.p A w (a.eval x) :=
  h.le a A w fun t e => hl t (e ▸ hx)

theorem OpY.move {x : Operand} {τ σ : Ty} [Has Γ x τ] [k : AsT τ σ] : OpY P B0 A Ω Γ ⟨dst, .move x, ty, pos, aft, gd⟩ σ :=
  OpY.val fun a w hl => ⟨a.eval x, rfl, k.le _ _ _ (Has.ev (τ := τ) (by simp [Op.operands]) hl)⟩
theorem OpY.assign {x : Operand} {τ σ : Ty} [Has Γ x τ] [k : AsT τ σ] : OpY P B0 A Ω Γ ⟨dst, .assign x, ty, pos, aft, gd⟩ σ :=
  OpY.val fun a w hl => ⟨a.eval x, rfl, k.le _ _ _ (Has.ev (τ := τ) (by simp [Op.operands]) hl)⟩

theorem evC (a : Act) (v : Value) : a.eval (.const v) = v := rfl

/-- a guarded bool -/
class AsBC (σ : Ty) (b want : Bool) (d : outParam Bool) : Prop where
  le : b = want → σ.le (B d)
instance {b want d : Bool} {τ : Ty} [k : AsB τ d] : AsBC (Cond (b = want) τ) b want d := ⟨fun h _ _ _ x => k.le _ _ _ (x.1 h)⟩
instance {b want d : Bool} : AsBC (B d) b want d := ⟨fun _ => Ty.le.refl _⟩
instance {p : Prop} {b want d : Bool} {τ : Ty} [h : Ft p] [k : AsBC τ b want d] : AsBC (Cond p τ) b want d := ⟨fun e _ _ _ x => k.le e _ _ _ (x.1 h.h)⟩

/-- the two arms of a guarded choice -/
theorem OpY.pickAnd {c x : Operand} {τ σ : Ty} {b d : Bool} [Has Γ c τ] [hb : AsB τ b] [Has Γ x σ] [hd : AsBC σ b true d] :
    OpY P B0 A Ω Γ ⟨dst, .pick c x (.const (.bool false)), ty, pos, aft, gd⟩ (B (b && d)) :=
  OpY.val fun a w hl => by
    have h1 : a.eval c = .bool b := hb.le _ _ _ (Has.ev (τ := τ) (by simp [Op.operands]) hl)
    have h2 : σ.p A w (a.eval x) := Has.ev (by simp [Op.operands]) hl
    cases b with
    | false => exact ⟨.bool false, by simp [execOp, h1, asBool, evC], rfl⟩
    | true =>
      have h3 : a.eval x = .bool d := hd.le rfl _ _ _ h2
      exact ⟨.bool d, by simp [execOp, h1, asBool, h3, evC], rfl⟩
theorem OpY.pickOr {c x : Operand} {τ σ : Ty} {b d : Bool} [Has Γ c τ] [hb : AsB τ b] [Has Γ x σ] [hd : AsBC σ b false d] :
    OpY P B0 A Ω Γ ⟨dst, .pick c (.const (.bool true)) x, ty, pos, aft, gd⟩ (B (b || d)) :=
  OpY.val fun a w hl => by
    have h1 : a.eval c = .bool b := hb.le _ _ _ (Has.ev (τ := τ) (by simp [Op.operands]) hl)
    have h2 : σ.p A w (a.eval x) := Has.ev (by simp [Op.operands]) hl
    cases b with
    | true => exact ⟨.bool true, by simp [execOp, h1, asBool, evC], rfl⟩
    | false =>
      have h3 : a.eval x = .bool d := hd.le rfl _ _ _ h2
      exact ⟨.bool d, by simp [execOp, h1, asBool, h3, evC], rfl⟩

theorem OpY.notB {x : Operand} {t : TypeId} {τ : Ty} {b : Bool} [Has Γ x τ] [hb : AsB τ b] : OpY P B0 A Ω Γ ⟨dst, .unOp .not t x, ty, pos, aft, gd⟩ (B (!b)) :=
  OpY.val fun a w hl => ⟨.bool (!b), by
    have e1 : a.eval x = .bool b := hb.le _ _ _ (Has.ev (x := x) (τ := τ) (op := .unOp .not t x) (by simp [Op.operands]) hl)
    simp only [execOp, e1, Op.unary, Sem.run_bind, Sem.run_pure, Result.andThen_ok], rfl⟩

/-! ### integers -/
theorem wrap64_in {z : Int} (h1 : -9223372036854775808 ≤ z) (h2 : z ≤ 9223372036854775807) : IntKind.i64.wrap z = z := by
  simp [IntKind.wrap, IntKind.bits, IntKind.signed]; split <;> omega

section int
variable {x y : Operand} {τ σ : Ty} {t u : TypeId} {m k : Int} [hsx : Has Γ x τ] [hx : AsI τ m] [hsy : Has Γ y σ] [hy : AsI σ k]
include hsx hx hsy hy

theorem ev2 {op : BinOp} {a : Act} {w : World} (hl : ∀ s, .tmp s ∈ (Op.binOp op t x y u).operands.toList → (Γ s).p A w (a.tmps.getD s undef)) :
    a.eval x = .int .i64 m ∧ a.eval y = .int .i64 k :=
  ⟨hx.le _ _ _ (Has.ev (τ := τ) (op := .binOp op t x y u) (by simp [Op.operands]) hl), hy.le _ _ _ (Has.ev (τ := σ) (op := .binOp op t x y u) (by simp [Op.operands]) hl)⟩

theorem OpY.add (h1 : -9223372036854775808 ≤ m + k) (h2 : m + k ≤ 9223372036854775807) : OpY P B0 A Ω Γ ⟨dst, .binOp .add t x y u, ty, pos, aft, gd⟩ (I (m + k)) :=
  OpY.val fun a w hl => ⟨.int .i64 (m + k), by obtain ⟨e1, e2⟩ := ev2 (m := m) (k := k) hl; simp [execOp, e1, e2, eqGuard_add, binOp_add, Op.intArith, wrap64_in h1 h2], rfl⟩
theorem OpY.sub (h1 : -9223372036854775808 ≤ m - k) (h2 : m - k ≤ 9223372036854775807) : OpY P B0 A Ω Γ ⟨dst, .binOp .sub t x y u, ty, pos, aft, gd⟩ (I (m - k)) :=
  OpY.val fun a w hl => ⟨.int .i64 (m - k), by obtain ⟨e1, e2⟩ := ev2 (m := m) (k := k) hl; simp [execOp, e1, e2, eqGuard_sub, binOp_sub, Op.intArith, wrap64_in h1 h2], rfl⟩
theorem OpY.mul (h1 : -9223372036854775808 ≤ m * k) (h2 : m * k ≤ 9223372036854775807) : OpY P B0 A Ω Γ ⟨dst, .binOp .mul t x y u, ty, pos, aft, gd⟩ (I (m * k)) :=
  OpY.val fun a w hl => ⟨.int .i64 (m * k), by obtain ⟨e1, e2⟩ := ev2 (m := m) (k := k) hl; simp [execOp, e1, e2, eqGuard_mul, binOp_mul, Op.intArith, wrap64_in h1 h2], rfl⟩
theorem OpY.lss : OpY P B0 A Ω Γ ⟨dst, .binOp .lss t x y u, ty, pos, aft, gd⟩ (B (decide (m < k))) :=
  OpY.val fun a w hl => ⟨.bool (decide (m < k)), by obtain ⟨e1, e2⟩ := ev2 (m := m) (k := k) hl; simp [execOp, e1, e2, eqGuard_lss, binOp_lss], rfl⟩
theorem OpY.leq : OpY P B0 A Ω Γ ⟨dst, .binOp .leq t x y u, ty, pos, aft, gd⟩ (B (decide (m ≤ k))) :=
  OpY.val fun a w hl => ⟨.bool (decide (m ≤ k)), by obtain ⟨e1, e2⟩ := ev2 (m := m) (k := k) hl; simp [execOp, e1, e2, eqGuard_leq, binOp_leq], rfl⟩
theorem OpY.gtr : OpY P B0 A Ω Γ ⟨dst, .binOp .gtr t x y u, ty, pos, aft, gd⟩ (B (decide (m > k))) :=
  OpY.val fun a w hl => ⟨.bool (decide (m > k)), by obtain ⟨e1, e2⟩ := ev2 (m := m) (k := k) hl; simp [execOp, e1, e2, eqGuard_gtr, binOp_gtr], rfl⟩
theorem OpY.geq : OpY P B0 A Ω Γ ⟨dst, .binOp .geq t x y u, ty, pos, aft, gd⟩ (B (decide (m ≥ k))) :=
  OpY.val fun a w hl => ⟨.bool (decide (m ≥ k)), by obtain ⟨e1, e2⟩ := ev2 (m := m) (k := k) hl; simp [execOp, e1, e2, eqGuard_geq, binOp_geq], rfl⟩
theorem OpY.eql : OpY P B0 A Ω Γ ⟨dst, .binOp .eql t x y u, ty, pos, aft, gd⟩ (B (decide (m = k))) :=
  OpY.val fun a w hl => ⟨.bool (decide (m = k)), by obtain ⟨e1, e2⟩ := ev2 (m := m) (k := k) hl; simp [execOp, e1, e2, eqGuard_at_int, binOp_eql]; rfl, rfl⟩
theorem OpY.neq : OpY P B0 A Ω Γ ⟨dst, .binOp .neq t x y u, ty, pos, aft, gd⟩ (B (decide (m ≠ k))) :=
  OpY.val fun a w hl => ⟨.bool (decide (m ≠ k)), by obtain ⟨e1, e2⟩ := ev2 (m := m) (k := k) hl; simp [execOp, e1, e2, eqGuard_at_int, binOp_neq]; rfl, rfl⟩
theorem OpY.quo (h1 : 0 ≤ m) (h2 : m ≤ 9223372036854775807) (h3 : 0 < k) : OpY P B0 A Ω Γ ⟨dst, .binOp .quo t x y u, ty, pos, aft, gd⟩ (I (m / k)) :=
  OpY.val fun a w hl => ⟨.int .i64 (m / k), by
    obtain ⟨e1, e2⟩ := ev2 (m := m) (k := k) hl
    have h4 : m / k ≤ m := Int.ediv_le_self _ h1
    have h5 : 0 ≤ m / k := Int.ediv_nonneg h1 (by omega)
    have h6 : m.tdiv k = m / k := Int.tdiv_eq_ediv_of_nonneg h1
    have e3 : IntKind.i64.wrap (m.tdiv k) = m / k := by rw [h6]; exact wrap64_in (by omega) (by omega)
    have h7 : ¬ k = 0 := by omega
    simp only [execOp, e1, e2, eqGuard_quo, binOp_quo, Op.intDiv, h7, if_false, e3, Sem.run_bind, Sem.run_pure, Result.andThen_ok], rfl⟩
theorem OpY.rem (h1 : 0 ≤ m) (h3 : 0 < k) : OpY P B0 A Ω Γ ⟨dst, .binOp .rem t x y u, ty, pos, aft, gd⟩ (I (m % k)) :=
  OpY.val fun a w hl => ⟨.int .i64 (m % k), by
    obtain ⟨e1, e2⟩ := ev2 (m := m) (k := k) hl
    have e3 : m.tmod k = m % k := Int.tmod_eq_emod_of_nonneg h1
    have h7 : ¬ k = 0 := by omega
    simp only [execOp, e1, e2, eqGuard_rem, binOp_rem, Op.intDiv, h7, if_false, e3, Sem.run_bind, Sem.run_pure, Result.andThen_ok], rfl⟩
end int

/-- an integer that counts a shift -/
class AsCnt (τ : Ty) (s : outParam Int) : Prop where
  ex : ∀ A w v, τ.p A w v → ∃ K, v = .int K s
instance {n : Int} : AsCnt (I n) n := ⟨fun _ _ _ h => ⟨_, h⟩⟩
instance {x : UInt8} : AsCnt (U8 x) x.toNat := ⟨fun _ _ _ h => ⟨_, h⟩⟩
instance {x : UInt16} : AsCnt (U16 x) x.toNat := ⟨fun _ _ _ h => ⟨_, h⟩⟩
instance {x : UInt32} : AsCnt (U32 x) x.toNat := ⟨fun _ _ _ h => ⟨_, h⟩⟩
instance {x : UInt64} : AsCnt (U64 x) x.toNat := ⟨fun _ _ _ h => ⟨_, h⟩⟩
instance {p : Prop} {τ : Ty} {n : Int} [h : Ft p] [k : AsCnt τ n] : AsCnt (Cond p τ) n := ⟨fun A w v x => k.ex A w v (x.1 h.h)⟩

/-! ### uint8 -/
theorem wrapU8 (z : Int) : IntKind.u8.wrap z = z % 256 := by simp [IntKind.wrap, IntKind.bits, IntKind.signed]
theorem natU8 (x : UInt8) : x.toNat < 256 := x.toNat_lt
theorem bvU8 (x : UInt8) : BitVec.ofInt 8 (x.toNat : Int) = x.toBitVec := by
  apply BitVec.eq_of_toNat_eq
  have := natU8 x
  simp
theorem bvbU8 (x : UInt8) : BitVec.ofInt IntKind.u8.bits (x.toNat : Int) = x.toBitVec := bvU8 x
theorem ofIntU8 (z : Int) : ((UInt8.ofInt z).toNat : Int) = z % 256 := by
  unfold UInt8.ofInt
  have h1 : 0 ≤ z % 256 := Int.emod_nonneg _ (by decide)
  have h2 : z % 256 < 256 := Int.emod_lt_of_pos _ (by decide)
  rw [UInt8.toNat_ofNat']
  rw [show ((2:Int) ^ 8) = 256 by decide, show ((2:Nat) ^ 8) = 256 by decide, Nat.mod_eq_of_lt (by omega)]
  omega
section u8
variable {x y : Operand} {τ σ : Ty} {t u : TypeId} {m n : UInt8} [hsx : Has Γ x τ] [hx : AsU8 τ m] [hsy : Has Γ y σ] [hy : AsU8 σ n]
include hsx hx hsy hy
theorem evU8 {op : BinOp} {a : Act} {w : World} (hl : ∀ s, .tmp s ∈ (Op.binOp op t x y u).operands.toList → (Γ s).p A w (a.tmps.getD s undef)) :
    a.eval x = .int .u8 m.toNat ∧ a.eval y = .int .u8 n.toNat :=
  ⟨hx.le _ _ _ (Has.ev (τ := τ) (op := .binOp op t x y u) (by simp [Op.operands]) hl), hy.le _ _ _ (Has.ev (τ := σ) (op := .binOp op t x y u) (by simp [Op.operands]) hl)⟩
theorem OpY.and8 : OpY P B0 A Ω Γ ⟨dst, .binOp .and t x y u, ty, pos, aft, gd⟩ (U8 (m &&& n)) :=
  OpY.val fun a w hl => ⟨.int .u8 (m &&& n).toNat, by
    obtain ⟨e1, e2⟩ := evU8 (m := m) (n := n) hl
    have := natU8 (m &&& n)
    have e3 : IntKind.u8.wrap ((m.toBitVec &&& n.toBitVec).toNat : Int) = ((m &&& n).toNat : Int) := by
      rw [wrapU8, ← UInt8.toBitVec_and]
      show (((m &&& n).toNat : Nat) : Int) % 256 = _
      omega
    simp only [execOp, e1, e2, eqGuard_and, binOp_and, Op.intBits, bvbU8, Sem.run_bind, Sem.run_pure, Result.andThen_ok]
    exact congrArg (fun z => Result.ok (Next.value (Value.int .u8 z)) w) e3, rfl⟩
theorem OpY.or8 : OpY P B0 A Ω Γ ⟨dst, .binOp .or t x y u, ty, pos, aft, gd⟩ (U8 (m ||| n)) :=
  OpY.val fun a w hl => ⟨.int .u8 (m ||| n).toNat, by
    obtain ⟨e1, e2⟩ := evU8 (m := m) (n := n) hl
    have := natU8 (m ||| n)
    have e3 : IntKind.u8.wrap ((m.toBitVec ||| n.toBitVec).toNat : Int) = ((m ||| n).toNat : Int) := by
      rw [wrapU8, ← UInt8.toBitVec_or]
      show (((m ||| n).toNat : Nat) : Int) % 256 = _
      omega
    simp only [execOp, e1, e2, eqGuard_or, binOp_or, Op.intBits, bvbU8, Sem.run_bind, Sem.run_pure, Result.andThen_ok]
    exact congrArg (fun z => Result.ok (Next.value (Value.int .u8 z)) w) e3, rfl⟩
theorem OpY.xor8 : OpY P B0 A Ω Γ ⟨dst, .binOp .xor t x y u, ty, pos, aft, gd⟩ (U8 (m ^^^ n)) :=
  OpY.val fun a w hl => ⟨.int .u8 (m ^^^ n).toNat, by
    obtain ⟨e1, e2⟩ := evU8 (m := m) (n := n) hl
    have := natU8 (m ^^^ n)
    have e3 : IntKind.u8.wrap ((m.toBitVec ^^^ n.toBitVec).toNat : Int) = ((m ^^^ n).toNat : Int) := by
      rw [wrapU8, ← UInt8.toBitVec_xor]
      show (((m ^^^ n).toNat : Nat) : Int) % 256 = _
      omega
    simp only [execOp, e1, e2, eqGuard_xor, binOp_xor, Op.intBits, bvbU8, Sem.run_bind, Sem.run_pure, Result.andThen_ok]
    exact congrArg (fun z => Result.ok (Next.value (Value.int .u8 z)) w) e3, rfl⟩
theorem OpY.andNot8 : OpY P B0 A Ω Γ ⟨dst, .binOp .andNot t x y u, ty, pos, aft, gd⟩ (U8 (m &&& ~~~n)) :=
  OpY.val fun a w hl => ⟨.int .u8 (m &&& ~~~n).toNat, by
    obtain ⟨e1, e2⟩ := evU8 (m := m) (n := n) hl
    have := natU8 (m &&& ~~~n)
    have e3 : IntKind.u8.wrap ((m.toBitVec &&& ~~~n.toBitVec).toNat : Int) = ((m &&& ~~~n).toNat : Int) := by
      rw [wrapU8, ← UInt8.toBitVec_not, ← UInt8.toBitVec_and]
      show (((m &&& ~~~n).toNat : Nat) : Int) % 256 = _
      omega
    simp only [execOp, e1, e2, eqGuard_andNot, binOp_andNot, Op.intBits, bvbU8, Sem.run_bind, Sem.run_pure, Result.andThen_ok]
    exact congrArg (fun z => Result.ok (Next.value (Value.int .u8 z)) w) e3, rfl⟩
theorem OpY.add8 : OpY P B0 A Ω Γ ⟨dst, .binOp .add t x y u, ty, pos, aft, gd⟩ (U8 (m + n)) :=
  OpY.val fun a w hl => ⟨.int .u8 (m + n).toNat, by
    obtain ⟨e1, e2⟩ := evU8 (m := m) (n := n) hl
    have h1 := natU8 m
    have h2 := natU8 n
    have e3 : IntKind.u8.wrap ((m.toNat : Int) + (n.toNat : Int)) = ((m + n).toNat : Int) := by
      rw [wrapU8, UInt8.toNat_add, show ((2:Nat) ^ 8) = 256 by decide]; omega
    simp only [execOp, e1, e2, eqGuard_add, binOp_add, Op.intArith, e3, Sem.run_bind, Sem.run_pure, Result.andThen_ok], rfl⟩
theorem OpY.sub8 : OpY P B0 A Ω Γ ⟨dst, .binOp .sub t x y u, ty, pos, aft, gd⟩ (U8 (m - n)) :=
  OpY.val fun a w hl => ⟨.int .u8 (m - n).toNat, by
    obtain ⟨e1, e2⟩ := evU8 (m := m) (n := n) hl
    have h1 := natU8 m
    have h2 := natU8 n
    have e3 : IntKind.u8.wrap ((m.toNat : Int) - (n.toNat : Int)) = ((m - n).toNat : Int) := by
      rw [wrapU8, UInt8.toNat_sub, show ((2:Nat) ^ 8) = 256 by decide]; omega
    simp only [execOp, e1, e2, eqGuard_sub, binOp_sub, Op.intArith, e3, Sem.run_bind, Sem.run_pure, Result.andThen_ok], rfl⟩
theorem OpY.mul8 : OpY P B0 A Ω Γ ⟨dst, .binOp .mul t x y u, ty, pos, aft, gd⟩ (U8 (m * n)) :=
  OpY.val fun a w hl => ⟨.int .u8 (m * n).toNat, by
    obtain ⟨e1, e2⟩ := evU8 (m := m) (n := n) hl
    have h1 := natU8 m
    have h2 := natU8 n
    have e3 : IntKind.u8.wrap ((m.toNat : Int) * (n.toNat : Int)) = ((m * n).toNat : Int) := by
      rw [wrapU8, UInt8.toNat_mul, show ((2:Nat) ^ 8) = 256 by decide]; rw [Int.natCast_emod, Int.natCast_mul]; rfl
    simp only [execOp, e1, e2, eqGuard_mul, binOp_mul, Op.intArith, e3, Sem.run_bind, Sem.run_pure, Result.andThen_ok], rfl⟩
theorem OpY.lss8 : OpY P B0 A Ω Γ ⟨dst, .binOp .lss t x y u, ty, pos, aft, gd⟩ (B (decide (m < n))) :=
  OpY.val fun a w hl => ⟨.bool (decide (m < n)), by
    obtain ⟨e1, e2⟩ := evU8 (m := m) (n := n) hl
    have e3 : decide ((m.toNat : Int) < n.toNat) = decide (m < n) := by rw [decide_eq_decide, UInt8.lt_iff_toNat_lt]; omega
    simp only [execOp, e1, e2, eqGuard_lss, binOp_lss, e3, Sem.run_bind, Sem.run_pure, Result.andThen_ok], rfl⟩
theorem OpY.leq8 : OpY P B0 A Ω Γ ⟨dst, .binOp .leq t x y u, ty, pos, aft, gd⟩ (B (decide (m ≤ n))) :=
  OpY.val fun a w hl => ⟨.bool (decide (m ≤ n)), by
    obtain ⟨e1, e2⟩ := evU8 (m := m) (n := n) hl
    have e3 : decide ((m.toNat : Int) ≤ n.toNat) = decide (m ≤ n) := by rw [decide_eq_decide, UInt8.le_iff_toNat_le]; omega
    simp only [execOp, e1, e2, eqGuard_leq, binOp_leq, e3, Sem.run_bind, Sem.run_pure, Result.andThen_ok], rfl⟩
theorem OpY.gtr8 : OpY P B0 A Ω Γ ⟨dst, .binOp .gtr t x y u, ty, pos, aft, gd⟩ (B (decide (n < m))) :=
  OpY.val fun a w hl => ⟨.bool (decide (n < m)), by
    obtain ⟨e1, e2⟩ := evU8 (m := m) (n := n) hl
    have e3 : decide ((m.toNat : Int) > n.toNat) = decide (n < m) := by rw [decide_eq_decide, UInt8.lt_iff_toNat_lt]; omega
    simp only [execOp, e1, e2, eqGuard_gtr, binOp_gtr, e3, Sem.run_bind, Sem.run_pure, Result.andThen_ok], rfl⟩
theorem OpY.geq8 : OpY P B0 A Ω Γ ⟨dst, .binOp .geq t x y u, ty, pos, aft, gd⟩ (B (decide (n ≤ m))) :=
  OpY.val fun a w hl => ⟨.bool (decide (n ≤ m)), by
    obtain ⟨e1, e2⟩ := evU8 (m := m) (n := n) hl
    have e3 : decide ((m.toNat : Int) ≥ n.toNat) = decide (n ≤ m) := by rw [decide_eq_decide, UInt8.le_iff_toNat_le]; omega
    simp only [execOp, e1, e2, eqGuard_geq, binOp_geq, e3, Sem.run_bind, Sem.run_pure, Result.andThen_ok], rfl⟩
theorem OpY.eql8 : OpY P B0 A Ω Γ ⟨dst, .binOp .eql t x y u, ty, pos, aft, gd⟩ (B (decide (m = n))) :=
  OpY.val fun a w hl => ⟨.bool (decide (m = n)), by
    obtain ⟨e1, e2⟩ := evU8 (m := m) (n := n) hl
    have e3 : ((m.toNat : Int) = (n.toNat : Int)) ↔ m = n := by rw [Int.natCast_inj, UInt8.toNat_inj]
    have e4 : ((m.toNat : Int) == (n.toNat : Int)) = decide (m = n) := by rw [Bool.eq_iff_iff]; simp only [beq_iff_eq, e3, decide_eq_true_eq]
    simp only [execOp, e1, e2, eqGuard_at_int, binOp_eql, e4, Sem.run_bind, Sem.run_pure, Result.andThen_ok], rfl⟩
theorem OpY.neq8 : OpY P B0 A Ω Γ ⟨dst, .binOp .neq t x y u, ty, pos, aft, gd⟩ (B (decide (m ≠ n))) :=
  OpY.val fun a w hl => ⟨.bool (decide (m ≠ n)), by
    obtain ⟨e1, e2⟩ := evU8 (m := m) (n := n) hl
    have e3 : ((m.toNat : Int) = (n.toNat : Int)) ↔ m = n := by rw [Int.natCast_inj, UInt8.toNat_inj]
    have e4 : ((m.toNat : Int) == (n.toNat : Int)) = decide (m = n) := by rw [Bool.eq_iff_iff]; simp only [beq_iff_eq, e3, decide_eq_true_eq]
    simp only [execOp, e1, e2, eqGuard_at_int, binOp_neq, e4, bne, decide_not, Sem.run_bind, Sem.run_pure, Result.andThen_ok], rfl⟩
end u8
section un8
variable {x : Operand} {τ : Ty} {t : TypeId} {m : UInt8} [hsx : Has Γ x τ] [hx : AsU8 τ m]
include hsx hx
theorem OpY.not8 : OpY P B0 A Ω Γ ⟨dst, .unOp .xor t x, ty, pos, aft, gd⟩ (U8 (~~~m)) :=
  OpY.val fun a w hl => ⟨.int .u8 (~~~m).toNat, by
    have e1 : a.eval x = .int .u8 m.toNat := hx.le _ _ _ (Has.ev (τ := τ) (op := .unOp .xor t x) (by simp [Op.operands]) hl)
    have e3 : IntKind.u8.wrap ((BitVec.ofInt 8 IntKind.u8.max ^^^ m.toBitVec).toNat : Int) = ((~~~m).toNat : Int) := by
      have h0 : BitVec.ofInt 8 IntKind.u8.max = BitVec.allOnes 8 := by decide
      rw [wrapU8, h0, BitVec.allOnes_xor, ← UInt8.toBitVec_not]
      have := natU8 (~~~m)
      show (((~~~m).toNat : Nat) : Int) % 256 = _
      omega
    simp only [execOp, e1, Op.unary, Op.intBits, bvbU8, Sem.run_bind, Sem.run_pure, Result.andThen_ok]
    exact congrArg (fun z => Result.ok (Next.value (Value.int .u8 z)) w) e3, rfl⟩
end un8
section sh8
variable {x y : Operand} {τ σ : Ty} {t u : TypeId} {m : UInt8} {s : Int} [hsx : Has Γ x τ] [hx : AsU8 τ m] [hsy : Has Γ y σ] [hy : AsCnt σ s]
include hsx hx hsy hy
theorem evS8 {op : BinOp} {a : Act} {w : World} (hl : ∀ s, .tmp s ∈ (Op.binOp op t x y u).operands.toList → (Γ s).p A w (a.tmps.getD s undef)) :
    a.eval x = .int .u8 m.toNat ∧ ∃ K, a.eval y = .int K s :=
  ⟨hx.le _ _ _ (Has.ev (τ := τ) (op := .binOp op t x y u) (by simp [Op.operands]) hl), hy.ex _ _ _ (Has.ev (τ := σ) (op := .binOp op t x y u) (by simp [Op.operands]) hl)⟩
theorem OpY.shr8 (h : 0 ≤ s) : OpY P B0 A Ω Γ ⟨dst, .binOp .shr t x y u, ty, pos, aft, gd⟩ (U8 (UInt8.ofNat (m.toNat / 2 ^ s.toNat))) :=
  OpY.val fun a w hl => ⟨.int .u8 (UInt8.ofNat (m.toNat / 2 ^ s.toNat)).toNat, by
    obtain ⟨e1, K, e2⟩ := evS8 (m := m) (s := s) hl
    have h1 := natU8 m
    have e3 : ((m.toNat : Int).fdiv (2 ^ (min s.toNat IntKind.u8.bits))) = ((UInt8.ofNat (m.toNat / 2 ^ s.toNat)).toNat : Int) := by
      have hlt : m.toNat / 2 ^ s.toNat < 256 := Nat.lt_of_le_of_lt (Nat.div_le_self _ _) h1
      rw [UInt8.toNat_ofNat_of_lt' hlt, Int.fdiv_eq_ediv_of_nonneg _ (Int.pow_nonneg (by decide))]
      rcases Nat.le_total s.toNat 8 with hs | hs
      · rw [show min s.toNat IntKind.u8.bits = s.toNat from Nat.min_eq_left hs]; push_cast; rfl
      · rw [show min s.toNat IntKind.u8.bits = 8 from Nat.min_eq_right hs]
        have hp : 256 ≤ 2 ^ s.toNat := Nat.le_trans (by decide) (Nat.pow_le_pow_right (by decide) hs)
        rw [Nat.div_eq_of_lt (Nat.lt_of_lt_of_le h1 hp)]
        rw [show ((2:Int) ^ 8) = 256 by decide]
        omega
    simp only [execOp, e1, e2, eqGuard_shr, binOp_shr, Op.shift]
    rw [if_neg (by omega)]
    simp only [e3, Sem.run_bind, Sem.run_pure, Result.andThen_ok], rfl⟩
theorem OpY.shl8 (h : 0 ≤ s) : OpY P B0 A Ω Γ ⟨dst, .binOp .shl t x y u, ty, pos, aft, gd⟩ (U8 (UInt8.ofNat (m.toNat * 2 ^ s.toNat))) :=
  OpY.val fun a w hl => ⟨.int .u8 (UInt8.ofNat (m.toNat * 2 ^ s.toNat)).toNat, by
    obtain ⟨e1, K, e2⟩ := evS8 (m := m) (s := s) hl
    have e3 : IntKind.u8.wrap ((m.toNat : Int) * 2 ^ (min s.toNat IntKind.u8.bits)) = ((UInt8.ofNat (m.toNat * 2 ^ s.toNat)).toNat : Int) := by
      rw [wrapU8, UInt8.toNat_ofNat']
      rw [show ((2:Nat) ^ 8) = 256 by decide]
      rcases Nat.le_total s.toNat 8 with hs | hs
      · rw [show min s.toNat IntKind.u8.bits = s.toNat from Nat.min_eq_left hs, Int.natCast_emod, Int.natCast_mul, Int.natCast_pow]; rfl
      · rw [show min s.toNat IntKind.u8.bits = 8 from Nat.min_eq_right hs]
        obtain ⟨d, hd⟩ : ∃ d, s.toNat = 8 + d := ⟨s.toNat - 8, by omega⟩
        rw [hd, Nat.pow_add, show ((2:Nat) ^ 8) = 256 by decide, show ((2:Int) ^ 8) = 256 by decide, Nat.mul_comm 256, ← Nat.mul_assoc, Nat.mul_mod_left]
        omega
    simp only [execOp, e1, e2, eqGuard_shl, binOp_shl, Op.shift]
    rw [if_neg (by omega)]
    simp only [e3, Sem.run_bind, Sem.run_pure, Result.andThen_ok], rfl⟩
end sh8

/-! ### uint16 -/
theorem wrapU16 (z : Int) : IntKind.u16.wrap z = z % 65536 := by simp [IntKind.wrap, IntKind.bits, IntKind.signed]
theorem natU16 (x : UInt16) : x.toNat < 65536 := x.toNat_lt
theorem bvU16 (x : UInt16) : BitVec.ofInt 16 (x.toNat : Int) = x.toBitVec := by
  apply BitVec.eq_of_toNat_eq
  have := natU16 x
  simp
theorem bvbU16 (x : UInt16) : BitVec.ofInt IntKind.u16.bits (x.toNat : Int) = x.toBitVec := bvU16 x
theorem ofIntU16 (z : Int) : ((UInt16.ofInt z).toNat : Int) = z % 65536 := by
  unfold UInt16.ofInt
  have h1 : 0 ≤ z % 65536 := Int.emod_nonneg _ (by decide)
  have h2 : z % 65536 < 65536 := Int.emod_lt_of_pos _ (by decide)
  rw [UInt16.toNat_ofNat']
  rw [show ((2:Int) ^ 16) = 65536 by decide, show ((2:Nat) ^ 16) = 65536 by decide, Nat.mod_eq_of_lt (by omega)]
  omega
section u16
variable {x y : Operand} {τ σ : Ty} {t u : TypeId} {m n : UInt16} [hsx : Has Γ x τ] [hx : AsU16 τ m] [hsy : Has Γ y σ] [hy : AsU16 σ n]
include hsx hx hsy hy
theorem evU16 {op : BinOp} {a : Act} {w : World} (hl : ∀ s, .tmp s ∈ (Op.binOp op t x y u).operands.toList → (Γ s).p A w (a.tmps.getD s undef)) :
    a.eval x = .int .u16 m.toNat ∧ a.eval y = .int .u16 n.toNat :=
  ⟨hx.le _ _ _ (Has.ev (τ := τ) (op := .binOp op t x y u) (by simp [Op.operands]) hl), hy.le _ _ _ (Has.ev (τ := σ) (op := .binOp op t x y u) (by simp [Op.operands]) hl)⟩
theorem OpY.and16 : OpY P B0 A Ω Γ ⟨dst, .binOp .and t x y u, ty, pos, aft, gd⟩ (U16 (m &&& n)) :=
  OpY.val fun a w hl => ⟨.int .u16 (m &&& n).toNat, by
    obtain ⟨e1, e2⟩ := evU16 (m := m) (n := n) hl
    have := natU16 (m &&& n)
    have e3 : IntKind.u16.wrap ((m.toBitVec &&& n.toBitVec).toNat : Int) = ((m &&& n).toNat : Int) := by
      rw [wrapU16, ← UInt16.toBitVec_and]
      show (((m &&& n).toNat : Nat) : Int) % 65536 = _
      omega
    simp only [execOp, e1, e2, eqGuard_and, binOp_and, Op.intBits, bvbU16, Sem.run_bind, Sem.run_pure, Result.andThen_ok]
    exact congrArg (fun z => Result.ok (Next.value (Value.int .u16 z)) w) e3, rfl⟩
theorem OpY.or16 : OpY P B0 A Ω Γ ⟨dst, .binOp .or t x y u, ty, pos, aft, gd⟩ (U16 (m ||| n)) :=
  OpY.val fun a w hl => ⟨.int .u16 (m ||| n).toNat, by
    obtain ⟨e1, e2⟩ := evU16 (m := m) (n := n) hl
    have := natU16 (m ||| n)
    have e3 : IntKind.u16.wrap ((m.toBitVec ||| n.toBitVec).toNat : Int) = ((m ||| n).toNat : Int) := by
      rw [wrapU16, ← UInt16.toBitVec_or]
      show (((m ||| n).toNat : Nat) : Int) % 65536 = _
      omega
    simp only [execOp, e1, e2, eqGuard_or, binOp_or, Op.intBits, bvbU16, Sem.run_bind, Sem.run_pure, Result.andThen_ok]
    exact congrArg (fun z => Result.ok (Next.value (Value.int .u16 z)) w) e3, rfl⟩
theorem OpY.xor16 : OpY P B0 A Ω Γ ⟨dst, .binOp .xor t x y u, ty, pos, aft, gd⟩ (U16 (m ^^^ n)) :=
  OpY.val fun a w hl => ⟨.int .u16 (m ^^^ n).toNat, by
    obtain ⟨e1, e2⟩ := evU16 (m := m) (n := n) hl
    have := natU16 (m ^^^ n)
    have e3 : IntKind.u16.wrap ((m.toBitVec ^^^ n.toBitVec).toNat : Int) = ((m ^^^ n).toNat : Int) := by
      rw [wrapU16, ← UInt16.toBitVec_xor]
      show (((m ^^^ n).toNat : Nat) : Int) % 65536 = _
      omega
    simp only [execOp, e1, e2, eqGuard_xor, binOp_xor, Op.intBits, bvbU16, Sem.run_bind, Sem.run_pure, Result.andThen_ok]
    exact congrArg (fun z => Result.ok (Next.value (Value.int .u16 z)) w) e3, rfl⟩
theorem OpY.andNot16 : OpY P B0 A Ω Γ ⟨dst, .binOp .andNot t x y u, ty, pos, aft, gd⟩ (U16 (m &&& ~~~n)) :=
  OpY.val fun a w hl => ⟨.int .u16 (m &&& ~~~n).toNat, by
    obtain ⟨e1, e2⟩ := evU16 (m := m) (n := n) hl
    have := natU16 (m &&& ~~~n)
    have e3 : IntKind.u16.wrap ((m.toBitVec &&& ~~~n.toBitVec).toNat : Int) = ((m &&& ~~~n).toNat : Int) := by
      rw [wrapU16, ← UInt16.toBitVec_not, ← UInt16.toBitVec_and]
      show (((m &&& ~~~n).toNat : Nat) : Int) % 65536 = _
      omega
    simp only [execOp, e1, e2, eqGuard_andNot, binOp_andNot, Op.intBits, bvbU16, Sem.run_bind, Sem.run_pure, Result.andThen_ok]
    exact congrArg (fun z => Result.ok (Next.value (Value.int .u16 z)) w) e3, rfl⟩
theorem OpY.add16 : OpY P B0 A Ω Γ ⟨dst, .binOp .add t x y u, ty, pos, aft, gd⟩ (U16 (m + n)) :=
  OpY.val fun a w hl => ⟨.int .u16 (m + n).toNat, by
    obtain ⟨e1, e2⟩ := evU16 (m := m) (n := n) hl
    have h1 := natU16 m
    have h2 := natU16 n
    have e3 : IntKind.u16.wrap ((m.toNat : Int) + (n.toNat : Int)) = ((m + n).toNat : Int) := by
      rw [wrapU16, UInt16.toNat_add, show ((2:Nat) ^ 16) = 65536 by decide]; omega
    simp only [execOp, e1, e2, eqGuard_add, binOp_add, Op.intArith, e3, Sem.run_bind, Sem.run_pure, Result.andThen_ok], rfl⟩
theorem OpY.sub16 : OpY P B0 A Ω Γ ⟨dst, .binOp .sub t x y u, ty, pos, aft, gd⟩ (U16 (m - n)) :=
  OpY.val fun a w hl => ⟨.int .u16 (m - n).toNat, by
    obtain ⟨e1, e2⟩ := evU16 (m := m) (n := n) hl
    have h1 := natU16 m
    have h2 := natU16 n
    have e3 : IntKind.u16.wrap ((m.toNat : Int) - (n.toNat : Int)) = ((m - n).toNat : Int) := by
      rw [wrapU16, UInt16.toNat_sub, show ((2:Nat) ^ 16) = 65536 by decide]; omega
    simp only [execOp, e1, e2, eqGuard_sub, binOp_sub, Op.intArith, e3, Sem.run_bind, Sem.run_pure, Result.andThen_ok], rfl⟩
theorem OpY.mul16 : OpY P B0 A Ω Γ ⟨dst, .binOp .mul t x y u, ty, pos, aft, gd⟩ (U16 (m * n)) :=
  OpY.val fun a w hl => ⟨.int .u16 (m * n).toNat, by
    obtain ⟨e1, e2⟩ := evU16 (m := m) (n := n) hl
    have h1 := natU16 m
    have h2 := natU16 n
    have e3 : IntKind.u16.wrap ((m.toNat : Int) * (n.toNat : Int)) = ((m * n).toNat : Int) := by
      rw [wrapU16, UInt16.toNat_mul, show ((2:Nat) ^ 16) = 65536 by decide]; rw [Int.natCast_emod, Int.natCast_mul]; rfl
    simp only [execOp, e1, e2, eqGuard_mul, binOp_mul, Op.intArith, e3, Sem.run_bind, Sem.run_pure, Result.andThen_ok], rfl⟩
theorem OpY.lss16 : OpY P B0 A Ω Γ ⟨dst, .binOp .lss t x y u, ty, pos, aft, gd⟩ (B (decide (m < n))) :=
  OpY.val fun a w hl => ⟨.bool (decide (m < n)), by
    obtain ⟨e1, e2⟩ := evU16 (m := m) (n := n) hl
    have e3 : decide ((m.toNat : Int) < n.toNat) = decide (m < n) := by rw [decide_eq_decide, UInt16.lt_iff_toNat_lt]; omega
    simp only [execOp, e1, e2, eqGuard_lss, binOp_lss, e3, Sem.run_bind, Sem.run_pure, Result.andThen_ok], rfl⟩
theorem OpY.leq16 : OpY P B0 A Ω Γ ⟨dst, .binOp .leq t x y u, ty, pos, aft, gd⟩ (B (decide (m ≤ n))) :=
  OpY.val fun a w hl => ⟨.bool (decide (m ≤ n)), by
    obtain ⟨e1, e2⟩ := evU16 (m := m) (n := n) hl
    have e3 : decide ((m.toNat : Int) ≤ n.toNat) = decide (m ≤ n) := by rw [decide_eq_decide, UInt16.le_iff_toNat_le]; omega
    simp only [execOp, e1, e2, eqGuard_leq, binOp_leq, e3, Sem.run_bind, Sem.run_pure, Result.andThen_ok], rfl⟩
theorem OpY.gtr16 : OpY P B0 A Ω Γ ⟨dst, .binOp .gtr t x y u, ty, pos, aft, gd⟩ (B (decide (n < m))) :=
  OpY.val fun a w hl => ⟨.bool (decide (n < m)), by
    obtain ⟨e1, e2⟩ := evU16 (m := m) (n := n) hl
    have e3 : decide ((m.toNat : Int) > n.toNat) = decide (n < m) := by rw [decide_eq_decide, UInt16.lt_iff_toNat_lt]; omega
    simp only [execOp, e1, e2, eqGuard_gtr, binOp_gtr, e3, Sem.run_bind, Sem.run_pure, Result.andThen_ok], rfl⟩
theorem OpY.geq16 : OpY P B0 A Ω Γ ⟨dst, .binOp .geq t x y u, ty, pos, aft, gd⟩ (B (decide (n ≤ m))) :=
  OpY.val fun a w hl => ⟨.bool (decide (n ≤ m)), by
    obtain ⟨e1, e2⟩ := evU16 (m := m) (n := n) hl
    have e3 : decide ((m.toNat : Int) ≥ n.toNat) = decide (n ≤ m) := by rw [decide_eq_decide, UInt16.le_iff_toNat_le]; omega
    simp only [execOp, e1, e2, eqGuard_geq, binOp_geq, e3, Sem.run_bind, Sem.run_pure, Result.andThen_ok], rfl⟩
theorem OpY.eql16 : OpY P B0 A Ω Γ ⟨dst, .binOp .eql t x y u, ty, pos, aft, gd⟩ (B (decide (m = n))) :=
  OpY.val fun a w hl => ⟨.bool (decide (m = n)), by
    obtain ⟨e1, e2⟩ := evU16 (m := m) (n := n) hl
    have e3 : ((m.toNat : Int) = (n.toNat : Int)) ↔ m = n := by rw [Int.natCast_inj, UInt16.toNat_inj]
    have e4 : ((m.toNat : Int) == (n.toNat : Int)) = decide (m = n) := by rw [Bool.eq_iff_iff]; simp only [beq_iff_eq, e3, decide_eq_true_eq]
    simp only [execOp, e1, e2, eqGuard_at_int, binOp_eql, e4, Sem.run_bind, Sem.run_pure, Result.andThen_ok], rfl⟩
theorem OpY.neq16 : OpY P B0 A Ω Γ ⟨dst, .binOp .neq t x y u, ty, pos, aft, gd⟩ (B (decide (m ≠ n))) :=
  OpY.val fun a w hl => ⟨.bool (decide (m ≠ n)), by
    obtain ⟨e1, e2⟩ := evU16 (m := m) (n := n) hl
    have e3 : ((m.toNat : Int) = (n.toNat : Int)) ↔ m = n := by rw [Int.natCast_inj, UInt16.toNat_inj]
    have e4 : ((m.toNat : Int) == (n.toNat : Int)) = decide (m = n) := by rw [Bool.eq_iff_iff]; simp only [beq_iff_eq, e3, decide_eq_true_eq]
    simp only [execOp, e1, e2, eqGuard_at_int, binOp_neq, e4, bne, decide_not, Sem.run_bind, Sem.run_pure, Result.andThen_ok], rfl⟩
end u16
section un16
variable {x : Operand} {τ : Ty} {t : TypeId} {m : UInt16} [hsx : Has Γ x τ] [hx : AsU16 τ m]
include hsx hx
theorem OpY.not16 : OpY P B0 A Ω Γ ⟨dst, .unOp .xor t x, ty, pos, aft, gd⟩ (U16 (~~~m)) :=
  OpY.val fun a w hl => ⟨.int .u16 (~~~m).toNat, by
    have e1 : a.eval x = .int .u16 m.toNat := hx.le _ _ _ (Has.ev (τ := τ) (op := .unOp .xor t x) (by simp [Op.operands]) hl)
    have e3 : IntKind.u16.wrap ((BitVec.ofInt 16 IntKind.u16.max ^^^ m.toBitVec).toNat : Int) = ((~~~m).toNat : Int) := by
      have h0 : BitVec.ofInt 16 IntKind.u16.max = BitVec.allOnes 16 := by decide
      rw [wrapU16, h0, BitVec.allOnes_xor, ← UInt16.toBitVec_not]
      have := natU16 (~~~m)
      show (((~~~m).toNat : Nat) : Int) % 65536 = _
      omega
    simp only [execOp, e1, Op.unary, Op.intBits, bvbU16, Sem.run_bind, Sem.run_pure, Result.andThen_ok]
    exact congrArg (fun z => Result.ok (Next.value (Value.int .u16 z)) w) e3, rfl⟩
end un16
section sh16
variable {x y : Operand} {τ σ : Ty} {t u : TypeId} {m : UInt16} {s : Int} [hsx : Has Γ x τ] [hx : AsU16 τ m] [hsy : Has Γ y σ] [hy : AsCnt σ s]
include hsx hx hsy hy
theorem evS16 {op : BinOp} {a : Act} {w : World} (hl : ∀ s, .tmp s ∈ (Op.binOp op t x y u).operands.toList → (Γ s).p A w (a.tmps.getD s undef)) :
    a.eval x = .int .u16 m.toNat ∧ ∃ K, a.eval y = .int K s :=
  ⟨hx.le _ _ _ (Has.ev (τ := τ) (op := .binOp op t x y u) (by simp [Op.operands]) hl), hy.ex _ _ _ (Has.ev (τ := σ) (op := .binOp op t x y u) (by simp [Op.operands]) hl)⟩
theorem OpY.shr16 (h : 0 ≤ s) : OpY P B0 A Ω Γ ⟨dst, .binOp .shr t x y u, ty, pos, aft, gd⟩ (U16 (UInt16.ofNat (m.toNat / 2 ^ s.toNat))) :=
  OpY.val fun a w hl => ⟨.int .u16 (UInt16.ofNat (m.toNat / 2 ^ s.toNat)).toNat, by
    obtain ⟨e1, K, e2⟩ := evS16 (m := m) (s := s) hl
    have h1 := natU16 m
    have e3 : ((m.toNat : Int).fdiv (2 ^ (min s.toNat IntKind.u16.bits))) = ((UInt16.ofNat (m.toNat / 2 ^ s.toNat)).toNat : Int) := by
      have hlt : m.toNat / 2 ^ s.toNat < 65536 := Nat.lt_of_le_of_lt (Nat.div_le_self _ _) h1
      rw [UInt16.toNat_ofNat_of_lt' hlt, Int.fdiv_eq_ediv_of_nonneg _ (Int.pow_nonneg (by decide))]
      rcases Nat.le_total s.toNat 16 with hs | hs
      · rw [show min s.toNat IntKind.u16.bits = s.toNat from Nat.min_eq_left hs]; push_cast; rfl
      · rw [show min s.toNat IntKind.u16.bits = 16 from Nat.min_eq_right hs]
        have hp : 65536 ≤ 2 ^ s.toNat := Nat.le_trans (by decide) (Nat.pow_le_pow_right (by decide) hs)
        rw [Nat.div_eq_of_lt (Nat.lt_of_lt_of_le h1 hp)]
        rw [show ((2:Int) ^ 16) = 65536 by decide]
        omega
    simp only [execOp, e1, e2, eqGuard_shr, binOp_shr, Op.shift]
    rw [if_neg (by omega)]
    simp only [e3, Sem.run_bind, Sem.run_pure, Result.andThen_ok], rfl⟩
theorem OpY.shl16 (h : 0 ≤ s) : OpY P B0 A Ω Γ ⟨dst, .binOp .shl t x y u, ty, pos, aft, gd⟩ (U16 (UInt16.ofNat (m.toNat * 2 ^ s.toNat))) :=
  OpY.val fun a w hl => ⟨.int .u16 (UInt16.ofNat (m.toNat * 2 ^ s.toNat)).toNat, by
    obtain ⟨e1, K, e2⟩ := evS16 (m := m) (s := s) hl
    have e3 : IntKind.u16.wrap ((m.toNat : Int) * 2 ^ (min s.toNat IntKind.u16.bits)) = ((UInt16.ofNat (m.toNat * 2 ^ s.toNat)).toNat : Int) := by
      rw [wrapU16, UInt16.toNat_ofNat']
      rw [show ((2:Nat) ^ 16) = 65536 by decide]
      rcases Nat.le_total s.toNat 16 with hs | hs
      · rw [show min s.toNat IntKind.u16.bits = s.toNat from Nat.min_eq_left hs, Int.natCast_emod, Int.natCast_mul, Int.natCast_pow]; rfl
      · rw [show min s.toNat IntKind.u16.bits = 16 from Nat.min_eq_right hs]
        obtain ⟨d, hd⟩ : ∃ d, s.toNat = 16 + d := ⟨s.toNat - 16, by omega⟩
        rw [hd, Nat.pow_add, show ((2:Nat) ^ 16) = 65536 by decide, show ((2:Int) ^ 16) = 65536 by decide, Nat.mul_comm 65536, ← Nat.mul_assoc, Nat.mul_mod_left]
        omega
    simp only [execOp, e1, e2, eqGuard_shl, binOp_shl, Op.shift]
    rw [if_neg (by omega)]
    simp only [e3, Sem.run_bind, Sem.run_pure, Result.andThen_ok], rfl⟩
end sh16

/-! ### uint32 -/
theorem wrapU32 (z : Int) : IntKind.u32.wrap z = z % 4294967296 := by simp [IntKind.wrap, IntKind.bits, IntKind.signed]
theorem natU32 (x : UInt32) : x.toNat < 4294967296 := x.toNat_lt
theorem bvU32 (x : UInt32) : BitVec.ofInt 32 (x.toNat : Int) = x.toBitVec := by
  apply BitVec.eq_of_toNat_eq
  have := natU32 x
  simp
theorem bvbU32 (x : UInt32) : BitVec.ofInt IntKind.u32.bits (x.toNat : Int) = x.toBitVec := bvU32 x
theorem ofIntU32 (z : Int) : ((UInt32.ofInt z).toNat : Int) = z % 4294967296 := by
  unfold UInt32.ofInt
  have h1 : 0 ≤ z % 4294967296 := Int.emod_nonneg _ (by decide)
  have h2 : z % 4294967296 < 4294967296 := Int.emod_lt_of_pos _ (by decide)
  rw [UInt32.toNat_ofNat']
  rw [show ((2:Int) ^ 32) = 4294967296 by decide, show ((2:Nat) ^ 32) = 4294967296 by decide, Nat.mod_eq_of_lt (by omega)]
  omega
section u32
variable {x y : Operand} {τ σ : Ty} {t u : TypeId} {m n : UInt32} [hsx : Has Γ x τ] [hx : AsU32 τ m] [hsy : Has Γ y σ] [hy : AsU32 σ n]
include hsx hx hsy hy
theorem evU32 {op : BinOp} {a : Act} {w : World} (hl : ∀ s, .tmp s ∈ (Op.binOp op t x y u).operands.toList → (Γ s).p A w (a.tmps.getD s undef)) :
    a.eval x = .int .u32 m.toNat ∧ a.eval y = .int .u32 n.toNat :=
  ⟨hx.le _ _ _ (Has.ev (τ := τ) (op := .binOp op t x y u) (by simp [Op.operands]) hl), hy.le _ _ _ (Has.ev (τ := σ) (op := .binOp op t x y u) (by simp [Op.operands]) hl)⟩
theorem OpY.and32 : OpY P B0 A Ω Γ ⟨dst, .binOp .and t x y u, ty, pos, aft, gd⟩ (U32 (m &&& n)) :=
  OpY.val fun a w hl => ⟨.int .u32 (m &&& n).toNat, by
    obtain ⟨e1, e2⟩ := evU32 (m := m) (n := n) hl
    have := natU32 (m &&& n)
    have e3 : IntKind.u32.wrap ((m.toBitVec &&& n.toBitVec).toNat : Int) = ((m &&& n).toNat : Int) := by
      rw [wrapU32, ← UInt32.toBitVec_and]
      show (((m &&& n).toNat : Nat) : Int) % 4294967296 = _
      omega
    simp only [execOp, e1, e2, eqGuard_and, binOp_and, Op.intBits, bvbU32, Sem.run_bind, Sem.run_pure, Result.andThen_ok]
    exact congrArg (fun z => Result.ok (Next.value (Value.int .u32 z)) w) e3, rfl⟩
theorem OpY.or32 : OpY P B0 A Ω Γ ⟨dst, .binOp .or t x y u, ty, pos, aft, gd⟩ (U32 (m ||| n)) :=
  OpY.val fun a w hl => ⟨.int .u32 (m ||| n).toNat, by
    obtain ⟨e1, e2⟩ := evU32 (m := m) (n := n) hl
    have := natU32 (m ||| n)
    have e3 : IntKind.u32.wrap ((m.toBitVec ||| n.toBitVec).toNat : Int) = ((m ||| n).toNat : Int) := by
      rw [wrapU32, ← UInt32.toBitVec_or]
      show (((m ||| n).toNat : Nat) : Int) % 4294967296 = _
      omega
    simp only [execOp, e1, e2, eqGuard_or, binOp_or, Op.intBits, bvbU32, Sem.run_bind, Sem.run_pure, Result.andThen_ok]
    exact congrArg (fun z => Result.ok (Next.value (Value.int .u32 z)) w) e3, rfl⟩
theorem OpY.xor32 : OpY P B0 A Ω Γ ⟨dst, .binOp .xor t x y u, ty, pos, aft, gd⟩ (U32 (m ^^^ n)) :=
  OpY.val fun a w hl => ⟨.int .u32 (m ^^^ n).toNat, by
    obtain ⟨e1, e2⟩ := evU32 (m := m) (n := n) hl
    have := natU32 (m ^^^ n)
    have e3 : IntKind.u32.wrap ((m.toBitVec ^^^ n.toBitVec).toNat : Int) = ((m ^^^ n).toNat : Int) := by
      rw [wrapU32, ← UInt32.toBitVec_xor]
      show (((m ^^^ n).toNat : Nat) : Int) % 4294967296 = _
      omega
    simp only [execOp, e1, e2, eqGuard_xor, binOp_xor, Op.intBits, bvbU32, Sem.run_bind, Sem.run_pure, Result.andThen_ok]
    exact congrArg (fun z => Result.ok (Next.value (Value.int .u32 z)) w) e3, rfl⟩
theorem OpY.andNot32 : OpY P B0 A Ω Γ ⟨dst, .binOp .andNot t x y u, ty, pos, aft, gd⟩ (U32 (m &&& ~~~n)) :=
  OpY.val fun a w hl => ⟨.int .u32 (m &&& ~~~n).toNat, by
    obtain ⟨e1, e2⟩ := evU32 (m := m) (n := n) hl
    have := natU32 (m &&& ~~~n)
    have e3 : IntKind.u32.wrap ((m.toBitVec &&& ~~~n.toBitVec).toNat : Int) = ((m &&& ~~~n).toNat : Int) := by
      rw [wrapU32, ← UInt32.toBitVec_not, ← UInt32.toBitVec_and]
      show (((m &&& ~~~n).toNat : Nat) : Int) % 4294967296 = _
      omega
    simp only [execOp, e1, e2, eqGuard_andNot, binOp_andNot, Op.intBits, bvbU32, Sem.run_bind, Sem.run_pure, Result.andThen_ok]
    exact congrArg (fun z => Result.ok (Next.value (Value.int .u32 z)) w) e3, rfl⟩
theorem OpY.add32 : OpY P B0 A Ω Γ ⟨dst, .binOp .add t x y u, ty, pos, aft, gd⟩ (U32 (m + n)) :=
  OpY.val fun a w hl => ⟨.int .u32 (m + n).toNat, by
    obtain ⟨e1, e2⟩ := evU32 (m := m) (n := n) hl
    have h1 := natU32 m
    have h2 := natU32 n
    have e3 : IntKind.u32.wrap ((m.toNat : Int) + (n.toNat : Int)) = ((m + n).toNat : Int) := by
      rw [wrapU32, UInt32.toNat_add, show ((2:Nat) ^ 32) = 4294967296 by decide]; omega
    simp only [execOp, e1, e2, eqGuard_add, binOp_add, Op.intArith, e3, Sem.run_bind, Sem.run_pure, Result.andThen_ok], rfl⟩
theorem OpY.sub32 : OpY P B0 A Ω Γ ⟨dst, .binOp .sub t x y u, ty, pos, aft, gd⟩ (U32 (m - n)) :=
  OpY.val fun a w hl => ⟨.int .u32 (m - n).toNat, by
    obtain ⟨e1, e2⟩ := evU32 (m := m) (n := n) hl
    have h1 := natU32 m
    have h2 := natU32 n
    have e3 : IntKind.u32.wrap ((m.toNat : Int) - (n.toNat : Int)) = ((m - n).toNat : Int) := by
      rw [wrapU32, UInt32.toNat_sub, show ((2:Nat) ^ 32) = 4294967296 by decide]; omega
    simp only [execOp, e1, e2, eqGuard_sub, binOp_sub, Op.intArith, e3, Sem.run_bind, Sem.run_pure, Result.andThen_ok], rfl⟩
theorem OpY.mul32 : OpY P B0 A Ω Γ ⟨dst, .binOp .mul t x y u, ty, pos, aft, gd⟩ (U32 (m * n)) :=
  OpY.val fun a w hl => ⟨.int .u32 (m * n).toNat, by
    obtain ⟨e1, e2⟩ := evU32 (m := m) (n := n) hl
    have h1 := natU32 m
    have h2 := natU32 n
    have e3 : IntKind.u32.wrap ((m.toNat : Int) * (n.toNat : Int)) = ((m * n).toNat : Int) := by
      rw [wrapU32, UInt32.toNat_mul, show ((2:Nat) ^ 32) = 4294967296 by decide]; rw [Int.natCast_emod, Int.natCast_mul]; rfl
    simp only [execOp, e1, e2, eqGuard_mul, binOp_mul, Op.intArith, e3, Sem.run_bind, Sem.run_pure, Result.andThen_ok], rfl⟩
theorem OpY.lss32 : OpY P B0 A Ω Γ ⟨dst, .binOp .lss t x y u, ty, pos, aft, gd⟩ (B (decide (m < n))) :=
  OpY.val fun a w hl => ⟨.bool (decide (m < n)), by
    obtain ⟨e1, e2⟩ := evU32 (m := m) (n := n) hl
    have e3 : decide ((m.toNat : Int) < n.toNat) = decide (m < n) := by rw [decide_eq_decide, UInt32.lt_iff_toNat_lt]; omega
    simp only [execOp, e1, e2, eqGuard_lss, binOp_lss, e3, Sem.run_bind, Sem.run_pure, Result.andThen_ok], rfl⟩
theorem OpY.leq32 : OpY P B0 A Ω Γ ⟨dst, .binOp .leq t x y u, ty, pos, aft, gd⟩ (B (decide (m ≤ n))) :=
  OpY.val fun a w hl => ⟨.bool (decide (m ≤ n)), by
    obtain ⟨e1, e2⟩ := evU32 (m := m) (n := n) hl
    have e3 : decide ((m.toNat : Int) ≤ n.toNat) = decide (m ≤ n) := by rw [decide_eq_decide, UInt32.le_iff_toNat_le]; omega
    simp only [execOp, e1, e2, eqGuard_leq, binOp_leq, e3, Sem.run_bind, Sem.run_pure, Result.andThen_ok], rfl⟩
theorem OpY.gtr32 : OpY P B0 A Ω Γ ⟨dst, .binOp .gtr t x y u, ty, pos, aft, gd⟩ (B (decide (n < m))) :=
  OpY.val fun a w hl => ⟨.bool (decide (n < m)), by
    obtain ⟨e1, e2⟩ := evU32 (m := m) (n := n) hl
    have e3 : decide ((m.toNat : Int) > n.toNat) = decide (n < m) := by rw [decide_eq_decide, UInt32.lt_iff_toNat_lt]; omega
    simp only [execOp, e1, e2, eqGuard_gtr, binOp_gtr, e3, Sem.run_bind, Sem.run_pure, Result.andThen_ok], rfl⟩
theorem OpY.geq32 : OpY P B0 A Ω Γ ⟨dst, .binOp .geq t x y u, ty, pos, aft, gd⟩ (B (decide (n ≤ m))) :=
  OpY.val fun a w hl => ⟨.bool (decide (n ≤ m)), by
    obtain ⟨e1, e2⟩ := evU32 (m := m) (n := n) hl
    have e3 : decide ((m.toNat : Int) ≥ n.toNat) = decide (n ≤ m) := by rw [decide_eq_decide, UInt32.le_iff_toNat_le]; omega
    simp only [execOp, e1, e2, eqGuard_geq, binOp_geq, e3, Sem.run_bind, Sem.run_pure, Result.andThen_ok], rfl⟩
theorem OpY.eql32 : OpY P B0 A Ω Γ ⟨dst, .binOp .eql t x y u, ty, pos, aft, gd⟩ (B (decide (m = n))) :=
  OpY.val fun a w hl => ⟨.bool (decide (m = n)), by
    obtain ⟨e1, e2⟩ := evU32 (m := m) (n := n) hl
    have e3 : ((m.toNat : Int) = (n.toNat : Int)) ↔ m = n := by rw [Int.natCast_inj, UInt32.toNat_inj]
    have e4 : ((m.toNat : Int) == (n.toNat : Int)) = decide (m = n) := by rw [Bool.eq_iff_iff]; simp only [beq_iff_eq, e3, decide_eq_true_eq]
    simp only [execOp, e1, e2, eqGuard_at_int, binOp_eql, e4, Sem.run_bind, Sem.run_pure, Result.andThen_ok], rfl⟩
theorem OpY.neq32 : OpY P B0 A Ω Γ ⟨dst, .binOp .neq t x y u, ty, pos, aft, gd⟩ (B (decide (m ≠ n))) :=
  OpY.val fun a w hl => ⟨.bool (decide (m ≠ n)), by
    obtain ⟨e1, e2⟩ := evU32 (m := m) (n := n) hl
    have e3 : ((m.toNat : Int) = (n.toNat : Int)) ↔ m = n := by rw [Int.natCast_inj, UInt32.toNat_inj]
    have e4 : ((m.toNat : Int) == (n.toNat : Int)) = decide (m = n) := by rw [Bool.eq_iff_iff]; simp only [beq_iff_eq, e3, decide_eq_true_eq]
    simp only [execOp, e1, e2, eqGuard_at_int, binOp_neq, e4, bne, decide_not, Sem.run_bind, Sem.run_pure, Result.andThen_ok], rfl⟩
end u32
section un32
variable {x : Operand} {τ : Ty} {t : TypeId} {m : UInt32} [hsx : Has Γ x τ] [hx : AsU32 τ m]
include hsx hx
theorem OpY.not32 : OpY P B0 A Ω Γ ⟨dst, .unOp .xor t x, ty, pos, aft, gd⟩ (U32 (~~~m)) :=
  OpY.val fun a w hl => ⟨.int .u32 (~~~m).toNat, by
    have e1 : a.eval x = .int .u32 m.toNat := hx.le _ _ _ (Has.ev (τ := τ) (op := .unOp .xor t x) (by simp [Op.operands]) hl)
    have e3 : IntKind.u32.wrap ((BitVec.ofInt 32 IntKind.u32.max ^^^ m.toBitVec).toNat : Int) = ((~~~m).toNat : Int) := by
      have h0 : BitVec.ofInt 32 IntKind.u32.max = BitVec.allOnes 32 := by decide
      rw [wrapU32, h0, BitVec.allOnes_xor, ← UInt32.toBitVec_not]
      have := natU32 (~~~m)
      show (((~~~m).toNat : Nat) : Int) % 4294967296 = _
      omega
    simp only [execOp, e1, Op.unary, Op.intBits, bvbU32, Sem.run_bind, Sem.run_pure, Result.andThen_ok]
    exact congrArg (fun z => Result.ok (Next.value (Value.int .u32 z)) w) e3, rfl⟩
end un32
section sh32
variable {x y : Operand} {τ σ : Ty} {t u : TypeId} {m : UInt32} {s : Int} [hsx : Has Γ x τ] [hx : AsU32 τ m] [hsy : Has Γ y σ] [hy : AsCnt σ s]
include hsx hx hsy hy
theorem evS32 {op : BinOp} {a : Act} {w : World} (hl : ∀ s, .tmp s ∈ (Op.binOp op t x y u).operands.toList → (Γ s).p A w (a.tmps.getD s undef)) :
    a.eval x = .int .u32 m.toNat ∧ ∃ K, a.eval y = .int K s :=
  ⟨hx.le _ _ _ (Has.ev (τ := τ) (op := .binOp op t x y u) (by simp [Op.operands]) hl), hy.ex _ _ _ (Has.ev (τ := σ) (op := .binOp op t x y u) (by simp [Op.operands]) hl)⟩
theorem OpY.shr32 (h : 0 ≤ s) : OpY P B0 A Ω Γ ⟨dst, .binOp .shr t x y u, ty, pos, aft, gd⟩ (U32 (UInt32.ofNat (m.toNat / 2 ^ s.toNat))) :=
  OpY.val fun a w hl => ⟨.int .u32 (UInt32.ofNat (m.toNat / 2 ^ s.toNat)).toNat, by
    obtain ⟨e1, K, e2⟩ := evS32 (m := m) (s := s) hl
    have h1 := natU32 m
    have e3 : ((m.toNat : Int).fdiv (2 ^ (min s.toNat IntKind.u32.bits))) = ((UInt32.ofNat (m.toNat / 2 ^ s.toNat)).toNat : Int) := by
      have hlt : m.toNat / 2 ^ s.toNat < 4294967296 := Nat.lt_of_le_of_lt (Nat.div_le_self _ _) h1
      rw [UInt32.toNat_ofNat_of_lt' hlt, Int.fdiv_eq_ediv_of_nonneg _ (Int.pow_nonneg (by decide))]
      rcases Nat.le_total s.toNat 32 with hs | hs
      · rw [show min s.toNat IntKind.u32.bits = s.toNat from Nat.min_eq_left hs]; push_cast; rfl
      · rw [show min s.toNat IntKind.u32.bits = 32 from Nat.min_eq_right hs]
        have hp : 4294967296 ≤ 2 ^ s.toNat := Nat.le_trans (by decide) (Nat.pow_le_pow_right (by decide) hs)
        rw [Nat.div_eq_of_lt (Nat.lt_of_lt_of_le h1 hp)]
        rw [show ((2:Int) ^ 32) = 4294967296 by decide]
        omega
    simp only [execOp, e1, e2, eqGuard_shr, binOp_shr, Op.shift]
    rw [if_neg (by omega)]
    simp only [e3, Sem.run_bind, Sem.run_pure, Result.andThen_ok], rfl⟩
theorem OpY.shl32 (h : 0 ≤ s) : OpY P B0 A Ω Γ ⟨dst, .binOp .shl t x y u, ty, pos, aft, gd⟩ (U32 (UInt32.ofNat (m.toNat * 2 ^ s.toNat))) :=
  OpY.val fun a w hl => ⟨.int .u32 (UInt32.ofNat (m.toNat * 2 ^ s.toNat)).toNat, by
    obtain ⟨e1, K, e2⟩ := evS32 (m := m) (s := s) hl
    have e3 : IntKind.u32.wrap ((m.toNat : Int) * 2 ^ (min s.toNat IntKind.u32.bits)) = ((UInt32.ofNat (m.toNat * 2 ^ s.toNat)).toNat : Int) := by
      rw [wrapU32, UInt32.toNat_ofNat']
      rw [show ((2:Nat) ^ 32) = 4294967296 by decide]
      rcases Nat.le_total s.toNat 32 with hs | hs
      · rw [show min s.toNat IntKind.u32.bits = s.toNat from Nat.min_eq_left hs, Int.natCast_emod, Int.natCast_mul, Int.natCast_pow]; rfl
      · rw [show min s.toNat IntKind.u32.bits = 32 from Nat.min_eq_right hs]
        obtain ⟨d, hd⟩ : ∃ d, s.toNat = 32 + d := ⟨s.toNat - 32, by omega⟩
        rw [hd, Nat.pow_add, show ((2:Nat) ^ 32) = 4294967296 by decide, show ((2:Int) ^ 32) = 4294967296 by decide, Nat.mul_comm 4294967296, ← Nat.mul_assoc, Nat.mul_mod_left]
        omega
    simp only [execOp, e1, e2, eqGuard_shl, binOp_shl, Op.shift]
    rw [if_neg (by omega)]
    simp only [e3, Sem.run_bind, Sem.run_pure, Result.andThen_ok], rfl⟩
end sh32

/-! ### uint64 -/
theorem wrapU64 (z : Int) : IntKind.u64.wrap z = z % 18446744073709551616 := by simp [IntKind.wrap, IntKind.bits, IntKind.signed]
theorem natU64 (x : UInt64) : x.toNat < 18446744073709551616 := x.toNat_lt
theorem bvU64 (x : UInt64) : BitVec.ofInt 64 (x.toNat : Int) = x.toBitVec := by
  apply BitVec.eq_of_toNat_eq
  have := natU64 x
  simp
theorem bvbU64 (x : UInt64) : BitVec.ofInt IntKind.u64.bits (x.toNat : Int) = x.toBitVec := bvU64 x
theorem ofIntU64 (z : Int) : ((UInt64.ofInt z).toNat : Int) = z % 18446744073709551616 := by
  unfold UInt64.ofInt
  have h1 : 0 ≤ z % 18446744073709551616 := Int.emod_nonneg _ (by decide)
  have h2 : z % 18446744073709551616 < 18446744073709551616 := Int.emod_lt_of_pos _ (by decide)
  rw [UInt64.toNat_ofNat']
  rw [show ((2:Int) ^ 64) = 18446744073709551616 by decide, show ((2:Nat) ^ 64) = 18446744073709551616 by decide, Nat.mod_eq_of_lt (by omega)]
  omega
section u64
variable {x y : Operand} {τ σ : Ty} {t u : TypeId} {m n : UInt64} [hsx : Has Γ x τ] [hx : AsU64 τ m] [hsy : Has Γ y σ] [hy : AsU64 σ n]
include hsx hx hsy hy
theorem evU64 {op : BinOp} {a : Act} {w : World} (hl : ∀ s, .tmp s ∈ (Op.binOp op t x y u).operands.toList → (Γ s).p A w (a.tmps.getD s undef)) :
    a.eval x = .int .u64 m.toNat ∧ a.eval y = .int .u64 n.toNat :=
  ⟨hx.le _ _ _ (Has.ev (τ := τ) (op := .binOp op t x y u) (by simp [Op.operands]) hl), hy.le _ _ _ (Has.ev (τ := σ) (op := .binOp op t x y u) (by simp [Op.operands]) hl)⟩
theorem OpY.and64 : OpY P B0 A Ω Γ ⟨dst, .binOp .and t x y u, ty, pos, aft, gd⟩ (U64 (m &&& n)) :=
  OpY.val fun a w hl => ⟨.int .u64 (m &&& n).toNat, by
    obtain ⟨e1, e2⟩ := evU64 (m := m) (n := n) hl
    have := natU64 (m &&& n)
    have e3 : IntKind.u64.wrap ((m.toBitVec &&& n.toBitVec).toNat : Int) = ((m &&& n).toNat : Int) := by
      rw [wrapU64, ← UInt64.toBitVec_and]
      show (((m &&& n).toNat : Nat) : Int) % 18446744073709551616 = _
      omega
    simp only [execOp, e1, e2, eqGuard_and, binOp_and, Op.intBits, bvbU64, Sem.run_bind, Sem.run_pure, Result.andThen_ok]
    exact congrArg (fun z => Result.ok (Next.value (Value.int .u64 z)) w) e3, rfl⟩
theorem OpY.or64 : OpY P B0 A Ω Γ ⟨dst, .binOp .or t x y u, ty, pos, aft, gd⟩ (U64 (m ||| n)) :=
  OpY.val fun a w hl => ⟨.int .u64 (m ||| n).toNat, by
    obtain ⟨e1, e2⟩ := evU64 (m := m) (n := n) hl
    have := natU64 (m ||| n)
    have e3 : IntKind.u64.wrap ((m.toBitVec ||| n.toBitVec).toNat : Int) = ((m ||| n).toNat : Int) := by
      rw [wrapU64, ← UInt64.toBitVec_or]
      show (((m ||| n).toNat : Nat) : Int) % 18446744073709551616 = _
      omega
    simp only [execOp, e1, e2, eqGuard_or, binOp_or, Op.intBits, bvbU64, Sem.run_bind, Sem.run_pure, Result.andThen_ok]
    exact congrArg (fun z => Result.ok (Next.value (Value.int .u64 z)) w) e3, rfl⟩
theorem OpY.xor64 : OpY P B0 A Ω Γ ⟨dst, .binOp .xor t x y u, ty, pos, aft, gd⟩ (U64 (m ^^^ n)) :=
  OpY.val fun a w hl => ⟨.int .u64 (m ^^^ n).toNat, by
    obtain ⟨e1, e2⟩ := evU64 (m := m) (n := n) hl
    have := natU64 (m ^^^ n)
    have e3 : IntKind.u64.wrap ((m.toBitVec ^^^ n.toBitVec).toNat : Int) = ((m ^^^ n).toNat : Int) := by
      rw [wrapU64, ← UInt64.toBitVec_xor]
      show (((m ^^^ n).toNat : Nat) : Int) % 18446744073709551616 = _
      omega
    simp only [execOp, e1, e2, eqGuard_xor, binOp_xor, Op.intBits, bvbU64, Sem.run_bind, Sem.run_pure, Result.andThen_ok]
    exact congrArg (fun z => Result.ok (Next.value (Value.int .u64 z)) w) e3, rfl⟩
theorem OpY.andNot64 : OpY P B0 A Ω Γ ⟨dst, .binOp .andNot t x y u, ty, pos, aft, gd⟩ (U64 (m &&& ~~~n)) :=
  OpY.val fun a w hl => ⟨.int .u64 (m &&& ~~~n).toNat, by
    obtain ⟨e1, e2⟩ := evU64 (m := m) (n := n) hl
    have := natU64 (m &&& ~~~n)
    have e3 : IntKind.u64.wrap ((m.toBitVec &&& ~~~n.toBitVec).toNat : Int) = ((m &&& ~~~n).toNat : Int) := by
      rw [wrapU64, ← UInt64.toBitVec_not, ← UInt64.toBitVec_and]
      show (((m &&& ~~~n).toNat : Nat) : Int) % 18446744073709551616 = _
      omega
    simp only [execOp, e1, e2, eqGuard_andNot, binOp_andNot, Op.intBits, bvbU64, Sem.run_bind, Sem.run_pure, Result.andThen_ok]
    exact congrArg (fun z => Result.ok (Next.value (Value.int .u64 z)) w) e3, rfl⟩
theorem OpY.add64 : OpY P B0 A Ω Γ ⟨dst, .binOp .add t x y u, ty, pos, aft, gd⟩ (U64 (m + n)) :=
  OpY.val fun a w hl => ⟨.int .u64 (m + n).toNat, by
    obtain ⟨e1, e2⟩ := evU64 (m := m) (n := n) hl
    have h1 := natU64 m
    have h2 := natU64 n
    have e3 : IntKind.u64.wrap ((m.toNat : Int) + (n.toNat : Int)) = ((m + n).toNat : Int) := by
      rw [wrapU64, UInt64.toNat_add, show ((2:Nat) ^ 64) = 18446744073709551616 by decide]; omega
    simp only [execOp, e1, e2, eqGuard_add, binOp_add, Op.intArith, e3, Sem.run_bind, Sem.run_pure, Result.andThen_ok], rfl⟩
theorem OpY.sub64 : OpY P B0 A Ω Γ ⟨dst, .binOp .sub t x y u, ty, pos, aft, gd⟩ (U64 (m - n)) :=
  OpY.val fun a w hl => ⟨.int .u64 (m - n).toNat, by
    obtain ⟨e1, e2⟩ := evU64 (m := m) (n := n) hl
    have h1 := natU64 m
    have h2 := natU64 n
    have e3 : IntKind.u64.wrap ((m.toNat : Int) - (n.toNat : Int)) = ((m - n).toNat : Int) := by
      rw [wrapU64, UInt64.toNat_sub, show ((2:Nat) ^ 64) = 18446744073709551616 by decide]; omega
    simp only [execOp, e1, e2, eqGuard_sub, binOp_sub, Op.intArith, e3, Sem.run_bind, Sem.run_pure, Result.andThen_ok], rfl⟩
theorem OpY.mul64 : OpY P B0 A Ω Γ ⟨dst, .binOp .mul t x y u, ty, pos, aft, gd⟩ (U64 (m * n)) :=
  OpY.val fun a w hl => ⟨.int .u64 (m * n).toNat, by
    obtain ⟨e1, e2⟩ := evU64 (m := m) (n := n) hl
    have h1 := natU64 m
    have h2 := natU64 n
    have e3 : IntKind.u64.wrap ((m.toNat : Int) * (n.toNat : Int)) = ((m * n).toNat : Int) := by
      rw [wrapU64, UInt64.toNat_mul, show ((2:Nat) ^ 64) = 18446744073709551616 by decide]; rw [Int.natCast_emod, Int.natCast_mul]; rfl
    simp only [execOp, e1, e2, eqGuard_mul, binOp_mul, Op.intArith, e3, Sem.run_bind, Sem.run_pure, Result.andThen_ok], rfl⟩
theorem OpY.lss64 : OpY P B0 A Ω Γ ⟨dst, .binOp .lss t x y u, ty, pos, aft, gd⟩ (B (decide (m < n))) :=
  OpY.val fun a w hl => ⟨.bool (decide (m < n)), by
    obtain ⟨e1, e2⟩ := evU64 (m := m) (n := n) hl
    have e3 : decide ((m.toNat : Int) < n.toNat) = decide (m < n) := by rw [decide_eq_decide, UInt64.lt_iff_toNat_lt]; omega
    simp only [execOp, e1, e2, eqGuard_lss, binOp_lss, e3, Sem.run_bind, Sem.run_pure, Result.andThen_ok], rfl⟩
theorem OpY.leq64 : OpY P B0 A Ω Γ ⟨dst, .binOp .leq t x y u, ty, pos, aft, gd⟩ (B (decide (m ≤ n))) :=
  OpY.val fun a w hl => ⟨.bool (decide (m ≤ n)), by
    obtain ⟨e1, e2⟩ := evU64 (m := m) (n := n) hl
    have e3 : decide ((m.toNat : Int) ≤ n.toNat) = decide (m ≤ n) := by rw [decide_eq_decide, UInt64.le_iff_toNat_le]; omega
    simp only [execOp, e1, e2, eqGuard_leq, binOp_leq, e3, Sem.run_bind, Sem.run_pure, Result.andThen_ok], rfl⟩
theorem OpY.gtr64 : OpY P B0 A Ω Γ ⟨dst, .binOp .gtr t x y u, ty, pos, aft, gd⟩ (B (decide (n < m))) :=
  OpY.val fun a w hl => ⟨.bool (decide (n < m)), by
    obtain ⟨e1, e2⟩ := evU64 (m := m) (n := n) hl
    have e3 : decide ((m.toNat : Int) > n.toNat) = decide (n < m) := by rw [decide_eq_decide, UInt64.lt_iff_toNat_lt]; omega
    simp only [execOp, e1, e2, eqGuard_gtr, binOp_gtr, e3, Sem.run_bind, Sem.run_pure, Result.andThen_ok], rfl⟩
theorem OpY.geq64 : OpY P B0 A Ω Γ ⟨dst, .binOp .geq t x y u, ty, pos, aft, gd⟩ (B (decide (n ≤ m))) :=
  OpY.val fun a w hl => ⟨.bool (decide (n ≤ m)), by
    obtain ⟨e1, e2⟩ := evU64 (m := m) (n := n) hl
    have e3 : decide ((m.toNat : Int) ≥ n.toNat) = decide (n ≤ m) := by rw [decide_eq_decide, UInt64.le_iff_toNat_le]; omega
    simp only [execOp, e1, e2, eqGuard_geq, binOp_geq, e3, Sem.run_bind, Sem.run_pure, Result.andThen_ok], rfl⟩
theorem OpY.eql64 : OpY P B0 A Ω Γ ⟨dst, .binOp .eql t x y u, ty, pos, aft, gd⟩ (B (decide (m = n))) :=
  OpY.val fun a w hl => ⟨.bool (decide (m = n)), by
    obtain ⟨e1, e2⟩ := evU64 (m := m) (n := n) hl
    have e3 : ((m.toNat : Int) = (n.toNat : Int)) ↔ m = n := by rw [Int.natCast_inj, UInt64.toNat_inj]
    have e4 : ((m.toNat : Int) == (n.toNat : Int)) = decide (m = n) := by rw [Bool.eq_iff_iff]; simp only [beq_iff_eq, e3, decide_eq_true_eq]
    simp only [execOp, e1, e2, eqGuard_at_int, binOp_eql, e4, Sem.run_bind, Sem.run_pure, Result.andThen_ok], rfl⟩
theorem OpY.neq64 : OpY P B0 A Ω Γ ⟨dst, .binOp .neq t x y u, ty, pos, aft, gd⟩ (B (decide (m ≠ n))) :=
  OpY.val fun a w hl => ⟨.bool (decide (m ≠ n)), by
    obtain ⟨e1, e2⟩ := evU64 (m := m) (n := n) hl
    have e3 : ((m.toNat : Int) = (n.toNat : Int)) ↔ m = n := by rw [Int.natCast_inj, UInt64.toNat_inj]
    have e4 : ((m.toNat : Int) == (n.toNat : Int)) = decide (m = n) := by rw [Bool.eq_iff_iff]; simp only [beq_iff_eq, e3, decide_eq_true_eq]
    simp only [execOp, e1, e2, eqGuard_at_int, binOp_neq, e4, bne, decide_not, Sem.run_bind, Sem.run_pure, Result.andThen_ok], rfl⟩
end u64
section un64
variable {x : Operand} {τ : Ty} {t : TypeId} {m : UInt64} [hsx : Has Γ x τ] [hx : AsU64 τ m]
include hsx hx
theorem OpY.not64 : OpY P B0 A Ω Γ ⟨dst, .unOp .xor t x, ty, pos, aft, gd⟩ (U64 (~~~m)) :=
  OpY.val fun a w hl => ⟨.int .u64 (~~~m).toNat, by
    have e1 : a.eval x = .int .u64 m.toNat := hx.le _ _ _ (Has.ev (τ := τ) (op := .unOp .xor t x) (by simp [Op.operands]) hl)
    have e3 : IntKind.u64.wrap ((BitVec.ofInt 64 IntKind.u64.max ^^^ m.toBitVec).toNat : Int) = ((~~~m).toNat : Int) := by
      have h0 : BitVec.ofInt 64 IntKind.u64.max = BitVec.allOnes 64 := by decide
      rw [wrapU64, h0, BitVec.allOnes_xor, ← UInt64.toBitVec_not]
      have := natU64 (~~~m)
      show (((~~~m).toNat : Nat) : Int) % 18446744073709551616 = _
      omega
    simp only [execOp, e1, Op.unary, Op.intBits, bvbU64, Sem.run_bind, Sem.run_pure, Result.andThen_ok]
    exact congrArg (fun z => Result.ok (Next.value (Value.int .u64 z)) w) e3, rfl⟩
end un64
section sh64
variable {x y : Operand} {τ σ : Ty} {t u : TypeId} {m : UInt64} {s : Int} [hsx : Has Γ x τ] [hx : AsU64 τ m] [hsy : Has Γ y σ] [hy : AsCnt σ s]
include hsx hx hsy hy
theorem evS64 {op : BinOp} {a : Act} {w : World} (hl : ∀ s, .tmp s ∈ (Op.binOp op t x y u).operands.toList → (Γ s).p A w (a.tmps.getD s undef)) :
    a.eval x = .int .u64 m.toNat ∧ ∃ K, a.eval y = .int K s :=
  ⟨hx.le _ _ _ (Has.ev (τ := τ) (op := .binOp op t x y u) (by simp [Op.operands]) hl), hy.ex _ _ _ (Has.ev (τ := σ) (op := .binOp op t x y u) (by simp [Op.operands]) hl)⟩
theorem OpY.shr64 (h : 0 ≤ s) : OpY P B0 A Ω Γ ⟨dst, .binOp .shr t x y u, ty, pos, aft, gd⟩ (U64 (UInt64.ofNat (m.toNat / 2 ^ s.toNat))) :=
  OpY.val fun a w hl => ⟨.int .u64 (UInt64.ofNat (m.toNat / 2 ^ s.toNat)).toNat, by
    obtain ⟨e1, K, e2⟩ := evS64 (m := m) (s := s) hl
    have h1 := natU64 m
    have e3 : ((m.toNat : Int).fdiv (2 ^ (min s.toNat IntKind.u64.bits))) = ((UInt64.ofNat (m.toNat / 2 ^ s.toNat)).toNat : Int) := by
      have hlt : m.toNat / 2 ^ s.toNat < 18446744073709551616 := Nat.lt_of_le_of_lt (Nat.div_le_self _ _) h1
      rw [UInt64.toNat_ofNat_of_lt' hlt, Int.fdiv_eq_ediv_of_nonneg _ (Int.pow_nonneg (by decide))]
      rcases Nat.le_total s.toNat 64 with hs | hs
      · rw [show min s.toNat IntKind.u64.bits = s.toNat from Nat.min_eq_left hs]; push_cast; rfl
      · rw [show min s.toNat IntKind.u64.bits = 64 from Nat.min_eq_right hs]
        have hp : 18446744073709551616 ≤ 2 ^ s.toNat := Nat.le_trans (by decide) (Nat.pow_le_pow_right (by decide) hs)
        rw [Nat.div_eq_of_lt (Nat.lt_of_lt_of_le h1 hp)]
        rw [show ((2:Int) ^ 64) = 18446744073709551616 by decide]
        omega
    simp only [execOp, e1, e2, eqGuard_shr, binOp_shr, Op.shift]
    rw [if_neg (by omega)]
    simp only [e3, Sem.run_bind, Sem.run_pure, Result.andThen_ok], rfl⟩
theorem OpY.shl64 (h : 0 ≤ s) : OpY P B0 A Ω Γ ⟨dst, .binOp .shl t x y u, ty, pos, aft, gd⟩ (U64 (UInt64.ofNat (m.toNat * 2 ^ s.toNat))) :=
  OpY.val fun a w hl => ⟨.int .u64 (UInt64.ofNat (m.toNat * 2 ^ s.toNat)).toNat, by
    obtain ⟨e1, K, e2⟩ := evS64 (m := m) (s := s) hl
    have e3 : IntKind.u64.wrap ((m.toNat : Int) * 2 ^ (min s.toNat IntKind.u64.bits)) = ((UInt64.ofNat (m.toNat * 2 ^ s.toNat)).toNat : Int) := by
      rw [wrapU64, UInt64.toNat_ofNat']
      rw [show ((2:Nat) ^ 64) = 18446744073709551616 by decide]
      rcases Nat.le_total s.toNat 64 with hs | hs
      · rw [show min s.toNat IntKind.u64.bits = s.toNat from Nat.min_eq_left hs, Int.natCast_emod, Int.natCast_mul, Int.natCast_pow]; rfl
      · rw [show min s.toNat IntKind.u64.bits = 64 from Nat.min_eq_right hs]
        obtain ⟨d, hd⟩ : ∃ d, s.toNat = 64 + d := ⟨s.toNat - 64, by omega⟩
        rw [hd, Nat.pow_add, show ((2:Nat) ^ 64) = 18446744073709551616 by decide, show ((2:Int) ^ 64) = 18446744073709551616 by decide, Nat.mul_comm 18446744073709551616, ← Nat.mul_assoc, Nat.mul_mod_left]
        omega
    simp only [execOp, e1, e2, eqGuard_shl, binOp_shl, Op.shift]
    rw [if_neg (by omega)]
    simp only [e3, Sem.run_bind, Sem.run_pure, Result.andThen_ok], rfl⟩
end sh64
end ops
end Go.Proofs.Ytfdmajkeihdhnaa.Tr
