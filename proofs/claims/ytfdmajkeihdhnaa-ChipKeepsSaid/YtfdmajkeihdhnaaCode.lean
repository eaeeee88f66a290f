/- Code: what a piece of it does to the slots' types and the private blocks. Conditions: none. -/
import Derived.Test.YtfdmajkeihdhnaaReg
import Derived.OrdersIn
import Derived.RangeFuncLeaves
import Derived.RangeFuncFrom
namespace Go.Proofs.Ytfdmajkeihdhnaa.Tr
open Go Go.RowKit
set_option linter.unusedVariables false
set_option linter.unnecessarySimpa false

/-- any machine; of frames of a round, or of none -/
def FR (ρ : Option Nat) : Fence := { fn := fun _ => True, depth := none, alive := false, round := ρ }
theorem callsIn_FR {ρ : Option Nat} {n : Nat} {P : Program} {f : FuncId} {args : Array Value} {w : World} {R : Ending → World → Prop} : CallsIn (FR ρ) n P f args w R ↔ Calls P f args w R := callsIn_wide (n := n)
theorem run_defer {ρ : Operand → Value} {o : Oper} {c : Call} {P : Program} {w : World} (hc : o.op = .defer c) : (∃ d w', (execOp ρ o).run P w = .ok (.defer d) w') ∨ (∃ h w', (execOp ρ o).run P w = .halt h w') := by
  have e : execOp ρ o = (do pure (.defer (← resolve ρ c o.type))) := by unfold execOp; rw [hc]
  rw [e, Sem.run_bind]
  cases (resolve ρ c o.type).run P w with
  | ok d w' => exact .inl ⟨d, w', rfl⟩
  | halt h w' => exact .inr ⟨h, w', rfl⟩
theorem FR_depth {ρ : Option Nat} {m : Nat} : (FR ρ).depth.isSome = true → 1 ≤ m := fun h => by cases h

theorem Own_append {Ω Ω' : List Pe} {k : Nat} : Own (Ω ++ Ω') k ↔ Own Ω k ∨ Own Ω' k := by
  unfold Own
  constructor
  · rintro ⟨e, he, h⟩
    rcases List.mem_append.1 he with he | he
    · exact .inl ⟨e, he, h⟩
    · exact .inr ⟨e, he, h⟩
  · rintro (⟨e, he, h⟩ | ⟨e, he, h⟩)
    · exact ⟨e, List.mem_append_left _ he, h⟩
    · exact ⟨e, List.mem_append_right _ he, h⟩
theorem Pks_append {A : Nat → Prop} {Ω Ω' : List Pe} {w : World} : Pks A (Ω ++ Ω') w ↔ Pks A Ω w ∧ Pks A Ω' w :=
  ⟨fun h => ⟨fun e he => h e (List.mem_append_left _ he), fun e he => h e (List.mem_append_right _ he)⟩, fun h e he => by
    rcases List.mem_append.1 he with he | he
    · exact h.1 e he
    · exact h.2 e he⟩
theorem Shape.append {Ω Ω1 Ω2 : List Pe} (h : Shape Ω1 Ω2) : Shape (Ω ++ Ω1) (Ω ++ Ω2) := by
  unfold Shape at *
  rw [List.map_append, List.map_append, h]
theorem Shape.pub {Ω Ω' : List Pe} (h : Shape Ω Ω') (A : Nat → Prop) : Pub A Ω' = Pub A Ω := by
  funext k
  exact propext (by rw [Pub_own, Pub_own, h.own])

theorem tmps_put {Γ : Env} {n : Nat} {a : Act} {A : Nat → Prop} {w' : World} {d : Option Tmp} {v : Value} {τ : Ty} (hz : a.tmps.size = n) (hd : ∀ t, d = some t → t < n) (ht : ∀ t, (Γ t).p A w' (a.tmps.getD t undef)) (hv : τ.p A w' v) :
    (a.put d v).tmps.size = n ∧ (a.put d v).defers = a.defers ∧ ∀ t, ((Γ.put d τ) t).p A w' ((a.put d v).tmps.getD t undef) := by
  cases d with
  | none => exact ⟨hz, rfl, ht⟩
  | some d =>
    refine ⟨by simpa [Act.put] using hz, rfl, fun t => ?_⟩
    have hlt : d < a.tmps.size := by rw [hz]; exact hd d rfl
    simp only [Env.put, Env.set, Act.put]
    split
    · rename_i e; subst e
      rw [Array.getD_eq_getD_getElem?, Array.getElem?_setIfInBounds_self_of_lt hlt]
      exact hv
    · rename_i e
      rw [Array.getD_eq_getD_getElem?, Array.getElem?_setIfInBounds_ne (fun x => e x.symm), ← Array.getD_eq_getD_getElem?]
      exact ht t

theorem Stt.put {r : Ref} {n : Nat} {Γ : Env} {Ω : List Pe} {a : Act} {w w' : World} {d : Option Tmp} {v : Value} {τ : Ty} (h : Stt r n Γ Ω a w) (hd : ∀ t, d = some t → t < n) (g : Grow r.w.heap.size w w') (hv : τ.p (Pub r.A Ω) w' v) : Stt r n (Γ.put d τ) Ω (a.put d v) w' := by
  obtain ⟨h1, h2, h3⟩ := tmps_put h.sz hd (fun t => (Γ t).st g (h.ty t)) hv
  exact ⟨h1, h2.trans h.df, h.mu.stp (Stp.of_grow (S := fun _ => False) g) (fun j hj => hj.elim), h3, h.pv.grow g⟩
theorem Stt.up {r : Ref} {n : Nat} {Γ : Env} {Ω : List Pe} {a : Act} {w : World} (h : Stt r n Γ Ω a w) : ∀ k, w.heap.size ≤ k → Pub r.A Ω k := h.pv.up h.mu.size

/-- what an operation's outcome gives to what follows -/
theorem wp_of_yields {P : Program} {B : Nat} {A : Nat → Prop} {o : Oper} {a : Act} {w : World} {τ : Ty} {K : Act → World → Prop} {Q : Exit → Act → World → Prop}
    (h : Yields P B A w τ ((execOp a.eval o).run P w)) (hk : ∀ v w', Grow B w w' → τ.p A w' v → K (a.put o.dst v) w') {ρ : Option Nat} : o.wpIn (FR ρ) 0 P a w K Q := by
  have hn : ∀ c, o.op ≠ .defer c := fun c hc => by rcases run_defer (ρ := a.eval) (P := P) (w := w) hc with ⟨d, w', e⟩ | ⟨x, w', e⟩ <;> rw [e] at h <;> exact h
  refine ⟨fun _ _ => trivial, ?_⟩
  rw [Oper.semAt_eq _ _ _ hn]
  generalize (execOp a.eval o).run P w = r at *
  cases r with
  | ok x w' =>
    cases x <;> simp only [Yields] at h <;> simp only [Oper.uponIn]
    case value v => exact hk _ _ h.1 h.2
    case skip => exact hk _ _ h.1 h.2
    case enter f args =>
      obtain ⟨h1, h2⟩ := h
      refine ⟨FR_depth, callsIn_FR.2 (h2.mono fun e w'' ⟨v, he, h3, h4⟩ => ?_)⟩
      subst he
      exact hk _ _ (h1.trans h3) h4
  | halt x w' => simp only [Yields] at h
theorem wp_of_yieldsT {P : Program} {B : Nat} {A0 : Nat → Prop} {Ωs Ωt : List Pe} {ν : Type} {τ : ν → Ty} {Ω' : ν → List Pe} {o : Oper} {a : Act} {w : World} {K : Act → World → Prop} {Q : Exit → Act → World → Prop}
    (h : YieldsT P B A0 Ωs Ωt τ Ω' w ((execOp a.eval o).run P w)) (hk : ∀ g v w', Aft B A0 Ωs Ωt (τ g) (Ω' g) w w' v → K (a.put o.dst v) w') {ρ : Option Nat} : o.wpIn (FR ρ) 0 P a w K Q := by
  have hn : ∀ c, o.op ≠ .defer c := fun c hc => by rcases run_defer (ρ := a.eval) (P := P) (w := w) hc with ⟨d, w', e⟩ | ⟨x, w', e⟩ <;> rw [e] at h <;> exact h
  refine ⟨fun _ _ => trivial, ?_⟩
  rw [Oper.semAt_eq _ _ _ hn]
  generalize (execOp a.eval o).run P w = r at *
  cases r with
  | ok x w' =>
    cases x <;> simp only [YieldsT] at h <;> simp only [Oper.uponIn]
    case value v => obtain ⟨g, h⟩ := h; exact hk _ _ _ h
    case skip => obtain ⟨g, h⟩ := h; exact hk _ _ _ h
    case enter f args =>
      refine ⟨FR_depth, callsIn_FR.2 (h.mono fun e w'' ⟨v, g, he, h3⟩ => ?_)⟩
      subst he
      exact hk _ _ _ h3
  | halt x w' => simp only [YieldsT] at h

/-- the state behind a step that writes or makes private blocks -/
theorem Stt.T {r : Ref} {n : Nat} {Γ : Env} {Ωs Ωt Ωt' : List Pe} {a : Act} {w w' : World} {d : Option Tmp} {v : Value} {τ : Ty} (h : Stt r n Γ (Ωs ++ Ωt) a w) (hd : ∀ t, d = some t → t < n)
    (k : Aft r.w.heap.size r.A Ωs Ωt τ Ωt' w w' v) : Stt r n (Γ.put d τ) (Ωs ++ Ωt') (a.put d v) w' := by
  have hkp : Keep (Pub r.A (Ωs ++ Ωt)) (Pub r.A (Ωs ++ Ωt')) w w' := by
    refine ⟨k.st.size, fun j hj hp => ?_⟩
    obtain ⟨h1, h2⟩ := Pub_own.1 hp
    refine ⟨Pub_own.2 ⟨h1, fun ho => ?_⟩, k.st.cells j hj fun ho => h2 (Own_append.2 (.inr ho))⟩
    rcases Own_append.1 ho with ho | ho
    · exact h2 (Own_append.2 (.inl ho))
    · rcases k.nw j ho with ho | ho
      · exact h2 (Own_append.2 (.inr ho))
      · omega
  obtain ⟨h1, h2, h3⟩ := tmps_put (d := d) h.sz hd (fun t => (Γ t).keep hkp (h.ty t)) k.ty
  refine ⟨h1, h2.trans h.df, h.mu.stp k.st fun j hj => h.pv.own j (Own_append.2 (.inr hj)), h3, ⟨fun j hj => ?_, Pks_append.2 ⟨(Pks_append.1 h.pv.ks).1.keep hkp fun j hj ho => k.st.cells j hj fun ho2 => ?_, k.ks⟩, k.ap⟩⟩
  · rcases Own_append.1 hj with hj | hj
    · exact h.pv.own j (Own_append.2 (.inl hj))
    · rcases k.nw j hj with ho | ho
      · exact h.pv.own j (Own_append.2 (.inr ho))
      · exact .inl (Nat.le_trans h.mu.size ho)
  · obtain ⟨e, he, hp, hb⟩ := ho
    obtain ⟨f, hf, hq, hbf⟩ := ho2
    exact (List.pairwise_append.1 h.pv.ap).2.2 e he f hf hp hq (hb.trans hbf.symm)

/-- whatever may be private may be data -/
class Opens (r : Ref) : Prop where
  h : ∀ k, r.w.heap.size ≤ k ∨ r.S k → r.A k

theorem Stt.opT {P : Program} {r : Ref} {n : Nat} {Γ : Env} {Ωs Ωt : List Pe} {a : Act} {w : World} [op : Opens r] {o : Oper} {ν : Type} {τ : ν → Ty} {Ω' : ν → List Pe} {Γ' : Env} (h : Stt r n Γ (Ωs ++ Ωt) a w)
    (hΓ : ∀ t, (Γ' t).p (Pub r.A (Ωs ++ Ωt)) w (a.tmps.getD t undef)) (ho : OpT P r.w.heap.size Ωs Ωt Γ' o τ Ω') : YieldsT P r.w.heap.size r.A Ωs Ωt τ Ω' w ((execOp a.eval o).run P w) :=
  ho.2 r.A a w h.mu.size (fun k hk => r.up k (Nat.le_trans h.mu.size hk)) (fun k hk => op.h k (h.pv.own k (Own_append.2 (.inr hk)))) h.pv.ap h.pv.ks fun t _ => hΓ t

section reg
variable {P : Program} {r : Ref} {n : Nat} {Ωs : List Pe} {ops : Array Oper} {ms : List Nat} {md : Region.Mode}

/-- the state within a drawn region -/
def RSt (r : Ref) (n : Nat) (Ωs : List Pe) (Γ : Env) (F : Fam) (a : Act) (w : World) : Prop := ∃ g, Stt r n (Env.or (F.Θ g) Γ) (Ωs ++ F.Ω g) a w

theorem wpOp_of_tOp [op : Opens r] {i : Nat} {Γ : Env} {F : Fam} {K : Env → Fam → Prop} {K' : Act → World → Prop} {Q' : Exit → Act → World → Prop} {a : Act} {w : World} (ha : RSt r n Ωs Γ F a w)
    (h : ∀ Γ' F' a' w', RSt r n Ωs Γ' F' a' w' → K Γ' F' → K' a' w') (hh : tOp P r.w.heap.size Ωs ops n ms i K Γ F) : wpOpIn (FR r.ρ) 0 P ops Q' i K' a w := by
  unfold tOp at hh
  unfold wpOpIn
  split
  · rename_i ho; simp only [ho] at hh; exact h _ _ _ _ ha hh
  · rename_i o ho
    simp only [ho] at hh
    obtain ⟨hd, hh⟩ := hh
    obtain ⟨g, ha⟩ := ha
    rcases hh with ⟨hm, hof, τ, hy, hK⟩ | ⟨hm, μ, τ, Ω', hy, hK⟩
    · have hy := hy (Pub r.A (Ωs ++ F.Ω g)) a w ha.mu.size ha.up (Pks_append.1 ha.pv.ks).1 fun t _ => (ha.ty t).2
      have next : ∀ v w', Grow r.w.heap.size w w' → τ.p (Pub r.A (Ωs ++ F.Ω g)) w' v → RSt r n Ωs (Γ.put o.dst τ) F (a.put o.dst v) w' := fun v w' hg hv => by
        have hst := ha.put (d := o.dst) (τ := τ) hd hg hv
        refine ⟨g, hst.sz, hst.df, hst.mu, fun t => ?_, hst.pv⟩
        have ht := hst.ty t
        cases hdst : o.dst with
        | none => rw [hdst] at ht; exact ht
        | some d =>
          rw [hdst] at ht
          simp only [Env.put, Env.set, Env.or] at ht ⊢
          by_cases htd : t = d
          · subst htd
            simp only [if_true] at ht ⊢
            rw [F.off g t (hof t hdst)]
            exact ⟨trivial, ht⟩
          · simp only [htd, if_false] at ht ⊢
            exact ht
      split
      · rename_i hw
        simp only [hw, if_true] at hy
        exact wp_of_yields hy fun v w' hg hv => h _ _ _ _ (next v w' hg hv) hK
      · rename_i hw
        simp only [hw] at hy
        exact ⟨fun _ _ => trivial, h _ _ _ _ (next _ _ (Grow.refl _ _) hy) hK⟩
    · have hg := (hy g).1
      have hy := ha.opT ha.ty (hy g)
      rw [if_pos (by simp [Region.wanted, hg])]
      refine wp_of_yieldsT hy fun m v w' haf => h _ (F.next o.dst τ Ω') _ _ ⟨(⟨g, m⟩ : (g : F.ν) × μ g), ?_⟩ hK
      have hst := ha.T (d := o.dst) hd haf
      refine ⟨hst.sz, hst.df, hst.mu, fun t => ?_, hst.pv⟩
      have ht := hst.ty t
      cases hdst : o.dst with
      | none => rw [hdst] at ht; simpa only [Fam.next, Env.put] using ht
      | some d =>
        rw [hdst] at ht
        simp only [Fam.next, Env.put, Env.set, Env.or] at ht ⊢
        by_cases htd : t = d
        · subst htd
          simp only [if_true] at ht ⊢
          exact ⟨ht, trivial⟩
        · simp only [htd, if_false] at ht ⊢
          exact ht

theorem wpAny_of_T [op : Opens r] {K : Env → Fam → Prop} {Q' : Exit → Act → World → Prop} (hQ : ∀ Γ F a w, RSt r n Ωs Γ F a w → K Γ F → Q' .normal a w) : ∀ (fuel : Nat) (listed : Array Bool) (Γ : Env) (F : Fam) (a : Act) (w : World),
    RSt r n Ωs Γ F a w → TAny P r.w.heap.size Ωs ops n ms md K fuel listed Γ F → wpAnyIn (FR r.ρ) 0 P md ops Q' fuel listed a w
  | 0, _, _, _, _, _, ha, h => ⟨h.1, hQ _ _ _ _ ha h.2⟩
  | fuel + 1, _, _, _, _, _, ha, h => ⟨fun h0 => hQ _ _ _ _ ha (h.1 h0), fun i hi => wpOp_of_tOp ha (fun Γ' F' a' w' ha' hK => wpAny_of_T hQ fuel _ Γ' F' a' w' ha' hK) (h.2 i hi)⟩
end reg

/-- the touched part at a region's begin -/
@[reducible] def Fam.one (Ω : List Pe) : Fam := ⟨Unit, fun _ => Env.nil, fun _ => Ω, [], fun _ _ _ => rfl⟩

/-- a piece of code, from whatever state fits -/
def TC (P : Program) (r : Ref) (n : Nat) (Γ : Env) (Ω : List Pe) (c : Code) (Q : Exit → Act → World → Prop) : Prop := ∀ a w, Stt r n Γ Ω a w → c.wpIn (FR r.ρ) 0 P Q a w
/-- the end of a piece: an exit of one kind -/
def TE (r : Ref) (n : Nat) (Γ : Env) (Ω : List Pe) (Q : Exit → Act → World → Prop) (e : Exit) : Prop := ∀ a w, Stt r n Γ Ω a w → Q e a w

/-- fits better than -/
def Ty.le (τ σ : Ty) : Prop := ∀ A w v, τ.p A w v → σ.p A w v
theorem Ty.le.refl (τ : Ty) : τ.le τ := fun _ _ _ h => h
theorem Ty.le.trans {τ σ ρ : Ty} (h : τ.le σ) (k : σ.le ρ) : τ.le ρ := fun A w v x => k A w v (h A w v x)
def Env.le (Γ Δ : Env) : Prop := ∀ t, (Γ t).le (Δ t)
theorem Env.le.refl (Γ : Env) : Γ.le Γ := fun _ => Ty.le.refl _
theorem Env.le.trans {Γ Δ Θ : Env} (h : Γ.le Δ) (k : Δ.le Θ) : Γ.le Θ := fun t => (h t).trans (k t)
theorem Env.le_nil (Γ : Env) : Γ.le Env.nil := fun _ _ _ _ _ => trivial
theorem Env.le_set {Γ Δ : Env} {d : Tmp} {τ : Ty} (h : (Γ d).le τ) (k : Γ.le Δ) : Γ.le (Δ.set d τ) := fun t => by
  unfold Env.set
  split
  · rename_i e; subst e; exact h
  · exact k t
theorem Stt.le {r : Ref} {n : Nat} {Γ Δ : Env} {Ω : List Pe} {a : Act} {w : World} (h : Stt r n Γ Ω a w) (k : Γ.le Δ) : Stt r n Δ Ω a w := ⟨h.sz, h.df, h.mu, fun t => k t _ _ _ (h.ty t), h.pv⟩

/-- private blocks left out, or seen otherwise -/
structure Less (Ω Ω' : List Pe) : Prop where
  own : ∀ k, Own Ω' k → Own Ω k
  ap : Apart Ω → Apart Ω'
  ks : ∀ A w, Pks A Ω w → Pks A Ω' w
theorem Less.refl (Ω : List Pe) : Less Ω Ω := ⟨fun _ h => h, fun h => h, fun _ _ h => h⟩
theorem Less.trans {Ω Ω' Ω'' : List Pe} (h : Less Ω Ω') (k : Less Ω' Ω'') : Less Ω Ω'' := ⟨fun j x => h.own j (k.own j x), fun x => k.ap (h.ap x), fun A w x => k.ks A w (h.ks A w x)⟩
theorem Less.nil (Ω : List Pe) : Less Ω [] := ⟨fun k ⟨e, he, _⟩ => absurd he (by simp), fun _ => List.Pairwise.nil, fun _ _ _ e he => absurd he (by simp)⟩
theorem Stt.less {r : Ref} {n : Nat} {Γ : Env} {Ω Ω' : List Pe} {a : Act} {w : World} (h : Stt r n Γ Ω a w) (k : Less Ω Ω') : Stt r n Γ Ω' a w := by
  have hk : Keep (Pub r.A Ω) (Pub r.A Ω') w w := Keep.mono fun j _ hj => Pub_own.2 ⟨(Pub_own.1 hj).1, fun ho => (Pub_own.1 hj).2 (k.own j ho)⟩
  exact ⟨h.sz, h.df, h.mu, fun t => (Γ t).keep hk (h.ty t), fun j hj => h.pv.own j (k.own j hj), (k.ks _ _ h.pv.ks).keep hk fun j _ _ => SameCells.refl _, k.ap h.pv.ap⟩

section rules
variable {P : Program} {r : Ref} {n : Nat} {Γ : Env} {Ω : List Pe} {Q : Exit → Act → World → Prop}

theorem TC.weaken {Δ : Env} {c : Code} (h : Γ.le Δ) (k : TC P r n Δ Ω c Q) : TC P r n Γ Ω c Q := fun a w hs => k a w (hs.le h)
theorem TE.weaken {Δ : Env} {e : Exit} (h : Γ.le Δ) (k : TE r n Δ Ω Q e) : TE r n Γ Ω Q e := fun a w hs => k a w (hs.le h)
theorem TC.less {Ω' : List Pe} {c : Code} (h : Less Ω Ω') (k : TC P r n Γ Ω' c Q) : TC P r n Γ Ω c Q := fun a w hs => k a w (hs.less h)
theorem TE.less {Ω' : List Pe} {e : Exit} (h : Less Ω Ω') (k : TE r n Γ Ω' Q e) : TE r n Γ Ω Q e := fun a w hs => k a w (hs.less h)

/-- a region whose order is drawn: the private blocks of Ωs stay as they are, those of Ωt are touched by the steps ms -/
theorem TC.regionD [op : Opens r] {id : Nat} {l : List Oper} {Q' : Exit → Act → World → Prop} (ms : List Nat) (Ωs Ωt : List Pe) (hΩ : Less Ω (Ωs ++ Ωt)) (hm : P.follows .mixedOrders = true) (hB : Region.lexB .any l.toArray = true) (hc : chainB .any l.toArray ms = true)
    (h : TRw P r.w.heap.size Ωs l.toArray n ms 0 l Γ (Fam.one Ωt) fun Γ' F' => ∀ g, TE r n (Env.or (F'.Θ g) Γ') (Ωs ++ F'.Ω g) Q' .normal) : TC P r n Γ Ω (.region id l.toArray true) Q' := by
  intro a w hs
  have hs := hs.less hΩ
  simp only [Region.lexB, Bool.and_eq_true] at hB
  refine wpIn_region_any hm ?_
  have h2 := TAny_lex (P := P) (md := .any) (ops := l.toArray) hc l 0 (Array.replicate l.toArray.size false) Γ (Fam.one Ωt) (fun j => by simp) (by simp) (fun t ht => by
    rw [Array.getD_eq_getD_getElem?, Array.getElem?_replicate]; simp at ht; simp [ht]) (by simpa using hB.2) h
  have hg : Grow r.w.heap.size w { w with drawn := w.drawn + 1 } := Grow.drawn _
  have h3 : RSt r n Ωs Γ (Fam.one Ωt) a { w with drawn := w.drawn + 1 } :=
    ⟨(), hs.sz, hs.df, hs.mu.stp (Stp.of_grow (S := fun _ => False) hg) (fun j hj => hj.elim), fun t => ⟨trivial, (Γ t).st hg (hs.ty t)⟩, hs.pv.grow hg⟩
  have := wpAny_of_T (P := P) (Q' := Q') (md := .any) (fun Γ' F' a w ⟨g, hok⟩ hK => hK g a w hok) _ _ Γ (Fam.one Ωt) a { w with drawn := w.drawn + 1 } h3 h2
  simpa using this

theorem TC.seq {x y : Code} (h : TC P r n Γ Ω x (Exit.then (y.wpIn (FR r.ρ) 0 P Q) Q)) : TC P r n Γ Ω (.seq x y) Q := fun a w hs => wpIn_seq (h a w hs)

/-! a region in the text's order -/
def TS (P : Program) (r : Ref) (n : Nat) (ops : Array Oper) (l : List Oper) (k : Nat) (Γ : Env) (Ω : List Pe) (Q : Exit → Act → World → Prop) : Prop :=
  (∀ j, l[j]? = ops[k + j]?) → ∀ a w, Stt r n Γ Ω a w → wpOpsIn (FR r.ρ) 0 P ops Q (List.range' k l.length) a w
theorem TC.regionS {id : Nat} {l : List Oper} (h : TS P r n l.toArray l 0 Γ Ω Q) : TC P r n Γ Ω (.region id l.toArray false) Q := fun a w hs => by
  refine wpIn_region ?_
  have := h (fun j => by simp) a w hs
  simpa [List.range_eq_range'] using this
theorem TC.seqS {id : Nat} {l : List Oper} {y : Code} (h : TS P r n l.toArray l 0 Γ Ω (Exit.then (y.wpIn (FR r.ρ) 0 P Q) Q)) : TC P r n Γ Ω (.seq (.region id l.toArray false) y) Q := TC.seq (TC.regionS h)

section ts
variable {ops : Array Oper} {k : Nat} {rest : List Oper}
theorem TS.nil (h : TE r n Γ Ω Q .normal) : TS P r n ops [] k Γ Ω Q := fun _ a w hs => by simpa [wpOpsIn] using h a w hs
theorem TS.weaken {Δ : Env} {Ω' : List Pe} (h : Γ.le Δ) (h' : Less Ω Ω') (hk : TS P r n ops rest k Δ Ω' Q) : TS P r n ops rest k Γ Ω Q := fun hl a w hs => hk hl a w ((hs.le h).less h')
theorem TS.G {o : Oper} {τ : Ty} (hd : ∀ t, o.dst = some t → t < n) (h : OpG P r.w.heap.size ops Ω Γ o τ) (hk : TS P r n ops rest (k + 1) (Γ.put o.dst τ) Ω Q) : TS P r n ops (o :: rest) k Γ Ω Q := fun hl a w hs => by
  have h0 : ops[k]? = some o := by simpa using (hl 0).symm
  have hl' : ∀ j, rest[j]? = ops[k + 1 + j]? := fun j => by have := hl (j + 1); simpa [Nat.add_assoc, Nat.add_comm 1 j] using this
  simp only [List.length_cons, List.range'_succ]
  rw [wpOpsIn_cons]
  unfold wpOpIn
  simp only [h0]
  have hy := h _ a w hs.mu.size hs.up hs.pv.ks fun t _ => hs.ty t
  split
  · rename_i hw
    simp only [hw, if_true] at hy
    exact wp_of_yields hy fun v w' hg hv => hk hl' _ w' (hs.put hd hg hv)
  · rename_i hw
    simp only [hw] at hy
    exact ⟨fun _ _ => trivial, hk hl' _ w (hs.put hd (Grow.refl _ _) hy)⟩
/-- a step that writes -/
theorem TS.m {o : Oper} {Δ : Env} {Ω' : List Pe} (hg : o.guard = none)
    (h : ∀ a w, Stt r n Γ Ω a w → ∃ v w', ((execOp a.eval o).run P w = .ok (.value v) w' ∨ ((execOp a.eval o).run P w = .ok .skip w' ∧ v = undef)) ∧ Stt r n Δ Ω' (a.put o.dst v) w')
    (hk : TS P r n ops rest (k + 1) Δ Ω' Q) : TS P r n ops (o :: rest) k Γ Ω Q := fun hl a w hs => by
  have h0 : ops[k]? = some o := by simpa using (hl 0).symm
  simp only [List.length_cons, List.range'_succ]
  rw [wpOpsIn_cons]
  unfold wpOpIn
  simp only [h0, Region.wanted, hg, if_true]
  obtain ⟨v, w', h1, h3⟩ := h a w hs
  have hl' : ∀ j, rest[j]? = ops[k + 1 + j]? := fun j => by have := hl (j + 1); simpa [Nat.add_assoc, Nat.add_comm 1 j] using this
  have hn : ∀ c, o.op ≠ .defer c := fun c hc => by rcases run_defer (ρ := a.eval) (P := P) (w := w) hc with ⟨d, w', e⟩ | ⟨x, w', e⟩ <;> rw [e] at h1 <;> rcases h1 with h1 | ⟨h1, _⟩ <;> cases h1
  refine ⟨fun _ _ => trivial, ?_⟩
  rw [Oper.semAt_eq _ _ _ hn]
  rcases h1 with h1 | ⟨h1, rfl⟩ <;> rw [h1] <;> exact hk hl' _ _ h3
/-- a step that writes private blocks, or makes new ones -/
theorem TS.T [op : Opens r] {o : Oper} {ν : Type} {τ : ν → Ty} {Ωs Ωt : List Pe} {Ω' : ν → List Pe} (hΩ : Less Ω (Ωs ++ Ωt)) (hd : ∀ t, o.dst = some t → t < n) (h : OpT P r.w.heap.size Ωs Ωt Γ o τ Ω')
    (hk : ∀ g, TS P r n ops rest (k + 1) (Γ.put o.dst (τ g)) (Ωs ++ Ω' g) Q) : TS P r n ops (o :: rest) k Γ Ω Q := fun hl a w hs => by
  have hs := hs.less hΩ
  have h0 : ops[k]? = some o := by simpa using (hl 0).symm
  have hl' : ∀ j, rest[j]? = ops[k + 1 + j]? := fun j => by have := hl (j + 1); simpa [Nat.add_assoc, Nat.add_comm 1 j] using this
  simp only [List.length_cons, List.range'_succ]
  rw [wpOpsIn_cons]
  unfold wpOpIn
  simp only [h0]
  rw [if_pos (by simp [Region.wanted, h.1])]
  exact wp_of_yieldsT (hs.opT hs.ty h) fun m v w' haf => hk m hl' _ w' (hs.T hd haf)
end ts

/-- what falls through goes on with what follows -/
theorem TE.then {y : Code} (h : TC P r n Γ Ω y Q) : TE r n Γ Ω (Exit.then (y.wpIn (FR r.ρ) 0 P Q) Q) .normal := h
theorem TE.then_exit {K : Act → World → Prop} {id : Nat} (h : TE r n Γ Ω Q (.exit id)) : TE r n Γ Ω (Exit.then K Q) (.exit id) := h
theorem TE.then_ret {K : Act → World → Prop} (h : TE r n Γ Ω Q .ret) : TE r n Γ Ω (Exit.then K Q) .ret := h
theorem TE.inBlock_normal {id : Nat} (h : TE r n Γ Ω Q .normal) : TE r n Γ Ω (Exit.inBlock id Q) .normal := h
theorem TE.inBlock_ret {id : Nat} (h : TE r n Γ Ω Q .ret) : TE r n Γ Ω (Exit.inBlock id Q) .ret := h
theorem TE.inBlock_here {id : Nat} (h : TE r n Γ Ω Q .normal) : TE r n Γ Ω (Exit.inBlock id Q) (.exit id) := fun a w hs => by
  simp only [Exit.inBlock, if_true]; exact h a w hs
theorem TE.inBlock_other {id id' : Nat} (hne : (id' == id) = false) (h : TE r n Γ Ω Q (.exit id')) : TE r n Γ Ω (Exit.inBlock id Q) (.exit id') := fun a w hs => by
  have hne : id' ≠ id := by simpa using hne
  simp only [Exit.inBlock, hne, if_false]; exact h a w hs

theorem TC.skip (h : TE r n Γ Ω Q .normal) : TC P r n Γ Ω .skip Q := fun a w hs => wpIn_skip (h a w hs)
theorem TC.exit {id : Nat} (h : TE r n Γ Ω Q (.exit id)) : TC P r n Γ Ω (.exit id) Q := fun a w hs => wpIn_exit (h a w hs)
theorem TC.ret (h : TE r n Γ Ω Q .ret) : TC P r n Γ Ω .ret Q := fun a w hs => wpIn_ret (h a w hs)
theorem TC.block {id : Nat} {c : Code} (h : TC P r n Γ Ω c (Exit.inBlock id Q)) : TC P r n Γ Ω (.block id c) Q := fun a w hs => wpIn_block (h a w hs)

/-- a loop: before each round one of the family's states fits, and the measure goes down -/
theorem TC.loop {γ : Type} {c : Code} (I : γ → Env) (J : γ → List Pe) (μ : γ → Nat) (g0 : γ) (h0 : Γ.le (I g0)) (j0 : Less Ω (J g0))
    (round : ∀ g, TC P r n (I g) (J g) c (Exit.then (fun a w => ∃ g', μ g' < μ g ∧ Stt r n (I g') (J g') a w) Q)) : TC P r n Γ Ω (.loop c) Q := by
  intro a w hs b k cs hro hb hr
  have key : ∀ (m : Nat) (g : γ) a w, μ g = m → Stt r n (I g) (J g) a w →
      ∃ e a' w', Q e a' w' ∧ ArrivesIn (Machine.fenced P (FR r.ρ)) P (lone (b.atR a (.code c :: .inLoop c :: k)) cs w) b k cs e a' w' := by
    intro m
    induction m using Nat.strongRecOn with
    | _ m ih =>
      intro g a w hm hI
      obtain ⟨e, a₁, w₁, hq, harr⟩ := round g a w hI b (.inLoop c :: k) cs hro hb hr
      cases e with
      | normal =>
        obtain ⟨g', hlt, hI₁⟩ := hq
        obtain ⟨e₂, a₂, w₂, hq₂, harr₂⟩ := ih (μ g') (hm ▸ hlt) g' a₁ w₁ rfl hI₁
        exact ⟨e₂, a₂, w₂, hq₂, .of_steps (StepsIn.trans harr (.one (fenced_calm hb hr rfl) stepR_inLoop)) harr₂⟩
      | exit id => exact ⟨_, a₁, w₁, hq, .pass (x := .inLoop c) rfl (fun _ _ => .inl (by simp)) harr⟩
      | goto l => exact ⟨_, a₁, w₁, hq, .pass (x := .inLoop c) rfl (fun _ _ => .inl (by simp)) harr⟩
      | ret => exact ⟨_, a₁, w₁, hq, .pass (x := .inLoop c) rfl (fun _ _ => .inl (by simp)) harr⟩
      | panic ch => exact ⟨_, a₁, w₁, hq, .pass (x := .inLoop c) rfl (fun _ _ => .inl (by simp)) harr⟩
      | outgrown => exact ⟨_, a₁, w₁, hq, .pass (x := .inLoop c) rfl (fun _ _ => .inl (by simp)) harr⟩
  obtain ⟨e, a', w', hq, harr⟩ := key _ g0 a w rfl ((hs.le h0).less j0)
  exact ⟨e, a', w', hq, .of_steps (.one (fenced_calm hb hr rfl) stepR_loop) harr⟩
/-- the end of a round -/
theorem TE.back {γ : Type} {I : γ → Env} {J : γ → List Pe} {μ : γ → Nat} {g : γ} (g' : γ) (hlt : μ g' < μ g) (h : Γ.le (I g')) (j : Less Ω (J g')) :
    TE r n Γ Ω (Exit.then (fun a w => ∃ g', μ g' < μ g ∧ Stt r n (I g') (J g') a w) Q) .normal :=
  fun _ _ hs => ⟨g', hlt, (hs.le h).less j⟩
/-- two ways that meet again -/
theorem TC.seqJ {γ : Type} {x y : Code} (Δ : γ → Env) (J : γ → List Pe) (h : TC P r n Γ Ω x (Exit.then (fun a w => ∃ g, Stt r n (Δ g) (J g) a w) Q)) (k : ∀ g, TC P r n (Δ g) (J g) y Q) :
    TC P r n Γ Ω (.seq x y) Q := TC.seq fun a w hs => wpIn_mono (h a w hs) fun e a' w' hq => by
  cases e with
  | normal => obtain ⟨g, h1⟩ := hq; exact k g a' w' h1
  | _ => exact hq
theorem TE.join {γ : Type} {Δ : γ → Env} {J : γ → List Pe} (g : γ) (h : Γ.le (Δ g)) (j : Less Ω (J g)) : TE r n Γ Ω (Exit.then (fun a w => ∃ g, Stt r n (Δ g) (J g) a w) Q) .normal :=
  fun _ _ hs => ⟨g, (hs.le h).less j⟩
end rules

/-- a contract: it returns a value of the type, and nothing old is changed -/
def Ret (A : Nat → Prop) (w : World) (τ : Ty) (e : Ending) (w' : World) : Prop := ∃ v, e = .returned v ∧ Grow w.heap.size w w' ∧ τ.p A w' v
/-- the same where private blocks may be taken, and given back -/
def RetO (A : Nat → Prop) (w : World) (Ωt : List Pe) {ν : Type} (τ : ν → Ty) (Ω' : ν → List Pe) (e : Ending) (w' : World) : Prop := ∃ v g, e = .returned v ∧ Aft w.heap.size A [] Ωt (τ g) (Ω' g) w w' v

theorem Ret.le {A : Nat → Prop} {w : World} {τ σ : Ty} {e : Ending} {w' : World} (h : Ret A w τ e w') (k : τ.le σ) : Ret A w σ e w' :=
  let ⟨v, h1, h2, h3⟩ := h; ⟨v, h1, h2, k _ _ _ h3⟩

/-- several results -/
def Tup (τs : List Ty) : Ty := ⟨fun A w v => ∃ vs : List Value, v = .tuple vs.toArray ∧ vs.length = τs.length ∧ ∀ i (h : i < τs.length), τs[i].p A w (vs.getD i undef),
  fun hg ⟨vs, h1, h2, h3⟩ => ⟨vs, h1, h2, fun i h => (τs[i]).keep hg (h3 i h)⟩⟩

def refOf (A : Nat → Prop) (w : World) (hA : ∀ k, w.heap.size ≤ k → A k) : Ref := ⟨w, A, fun _ => False, hA, none, []⟩
instance {A : Nat → Prop} {w : World} {hA : ∀ k, w.heap.size ≤ k → A k} : Opens (refOf A w hA) := ⟨fun k h => h.elim (hA k) fun h => h.elim⟩
def refOwn (A : Nat → Prop) (w : World) (Ωt : List Pe) (hA : ∀ k, w.heap.size ≤ k → A k) : Ref := ⟨w, A, Own Ωt, hA, none, []⟩
class OwnIn (A : Nat → Prop) (Ωt : List Pe) : Prop where
  h : ∀ k, Own Ωt k → A k
instance {A : Nat → Prop} {w : World} {Ωt : List Pe} [o : OwnIn A Ωt] {hA : ∀ k, w.heap.size ≤ k → A k} : Opens (refOwn A w Ωt hA) := ⟨fun k h => h.elim (hA k) (o.h k)⟩

section entry
variable {P : Program} {r : Ref} {n : Nat} {Γ : Env} {Ω : List Pe} {R : Ending → World → Prop}

/-- a call of a function with a body -/
theorem calls_of_TC {f : FuncId} {fn : Func} {c : Code} {args : List Value} (hf : P.funcs[f]? = some fn) (hb : fn.body = some c) (hn : fn.ntmps = n) (hl : args.length ≤ n) (hΩ : Pok r Ω r.w)
    (hok : ∀ t, t < args.length → (Γ t).p (Pub r.A Ω) r.w (args.getD t undef)) (hout : ∀ t, args.length ≤ t → (Γ t).p (Pub r.A Ω) r.w undef)
    (h : TC P r n Γ Ω c (bodyPost P fn R)) (hρ : r.ρ = none := by rfl) (hds : r.ds = [] := by rfl) : Calls P f args.toArray r.w R := by
  refine calls_of_wp hf hb (wpIn_wide.1 (show c.wpIn (FR none) 0 P _ _ _ from hρ ▸ h _ _ ⟨?_, hds.symm, Mut.refl _ _, fun t => ?_, hΩ⟩))
  · simp [hn]; omega
  · simp only [Array.getD_eq_getD_getElem?]
    rcases Nat.lt_or_ge t args.length with h1 | h1
    · have := hok t h1
      rw [List.getD_eq_getElem?_getD] at this
      rw [Array.getElem?_append_left (by simpa using h1)]
      simpa using this
    · have := hout t h1
      rw [Array.getElem?_append_right (by simpa using h1)]
      simp only [Array.getElem?_replicate]
      split <;> simpa using this
end entry
end Go.Proofs.Ytfdmajkeihdhnaa.Tr
