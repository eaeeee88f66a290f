/- What the proof leans on. Conditions: none. -/
import Derived.Test.YtefmfhbkihplgaaZR1
set_option linter.all false
set_option linter.unusedSimpArgs false
set_option linter.unusedVariables false
set_option linter.unusedSectionVars false
namespace Go.Proofs.Ytefmfhbkihplgaa.Tr
open Go Go.RowKit
def PubC (C : Ct) (b : Nat) (pr : Prop) (τ σ : Ty) : Prop := ∀ (A : Nat → Prop) (w : World) (v : Value), (pr → A b ∧ ∃ cs, Blk w b cs ∧ C.p A w cs) → τ.p A w v → σ.p A w v
theorem PubC.refl {C : Ct} {b : Nat} {pr : Prop} (τ : Ty) : PubC C b pr τ τ := fun _ _ _ _ h => h
theorem PubC.sv {C : Ct} {b o n : Nat} {pr : Prop} {τ : Ty} {α : Type} {i : Dat α} {ys : List α} {upd : List α → Ct} [k : AsSv τ b pr o n] (p : PlS C o α i ys upd) (hn : n = ys.length) : PubC C b pr τ (D ys) := fun A w v hb h => by
  rcases k.le _ _ _ h with ⟨hp, o', c, rfl, h1, h2⟩ | ⟨hp, h1, rfl⟩
  · obtain ⟨ha, cs, g1, g2⟩ := hb hp
    obtain ⟨e1, e2⟩ := p.rd g2
    have hmo := p.mo g2
    refine ⟨[_], ⟨some ⟨b, o', none⟩, c, rfl, by omega, h1.2, hmo, fun q hq => ⟨b, o', rfl, ha, seg cs (o + q * Dat.sz α) (Dat.sz α), ?_, ?_⟩⟩, by rw [hn]; rfl⟩
    · obtain rfl := h2 (by omega)
      refine g1.row ?_
      have : q * Dat.sz α + Dat.sz α ≤ ys.length * Dat.sz α := by rw [← Nat.succ_mul]; exact Nat.mul_le_mul_right _ (by omega)
      omega
    · have := e2 q hq
      rwa [seg_seg (by rw [← Nat.succ_mul]; exact Nat.mul_le_mul_right _ (by omega)) e1] at this
  · have : ys = [] := List.eq_nil_of_length_eq_zero (by omega)
    subst this
    exact NilS.le _ _ _ rfl
def PubE (C : Ct) (b : Nat) (pr : Prop) (Γ Δ : Env) : Prop := ∀ t, PubC C b pr (Γ t) (Δ t)
theorem PubE.refl {C : Ct} {b : Nat} {pr : Prop} {Γ : Env} : PubE C b pr Γ Γ := fun t => PubC.refl _
theorem PubE.set {C : Ct} {b : Nat} {pr : Prop} {Γ Δ : Env} (t : Tmp) {τ σ : Ty} [h : Has Γ (.tmp t) τ] (k : PubC C b pr τ σ) (l : PubE C b pr Γ Δ) : PubE C b pr Γ (Δ.set t σ) := fun u A w v hb hv => by
  unfold Env.set
  split
  · rename_i e; subst e; exact k A w v hb (h.at _ _ _ hv)
  · exact l u A w v hb hv
section pub
variable {P : Program} {r : Ref} {n : Nat} {Γ Δ : Env} {Ω Ωr : List Pe} {Q : Exit → Act → World → Prop} {ops : Array Oper} {k : Nat} {rest : List Oper} {C : Ct} {pr : Prop}
theorem Stt.pub {b : Nat} [op : Opens r] [pk : Pick Ω b pr C Ωr] (hΔ : PubE C b pr Γ Δ) {a : Act} {w : World} (h : Stt r n Γ Ω a w) : Stt r n Δ Ωr a w := by
  have h := h.less (Less.perm pk.perm)
  have hl : Less (⟨b, pr, C⟩ :: Ωr) Ωr := Less.drop (Less.refl _)
  have h2 := h.less hl
  refine ⟨h2.sz, h2.df, h2.mu, fun t => hΔ t _ _ _ (fun hp => ?_) (h2.ty t), h2.pv⟩
  obtain ⟨cs, g1, g2⟩ := h.pv.ks ⟨b, pr, C⟩ (List.mem_cons_self ..) hp
  have hk : Keep (Pub r.A (⟨b, pr, C⟩ :: Ωr)) (Pub r.A Ωr) w w := Keep.mono fun j _ hj => Pub_own.2 ⟨(Pub_own.1 hj).1, fun ho => (Pub_own.1 hj).2 (hl.own j ho)⟩
  exact ⟨Pub_own.2 ⟨op.h b (h.pv.own b ⟨_, List.mem_cons_self .., hp, rfl⟩), fun ⟨f, hf, hpf, hfb⟩ => (List.pairwise_cons.1 h.pv.ap).1 f hf hp hpf hfb.symm⟩, cs, g1, C.keep hk g2⟩
theorem TE.pub {e : Exit} (b : Nat) [op : Opens r] [pk : Pick Ω b pr C Ωr] (hΔ : PubE C b pr Γ Δ) (h : TE r n Δ Ωr Q e) : TE r n Γ Ω Q e := fun a w hs => h a w (hs.pub hΔ)
theorem TS.pub (b : Nat) [op : Opens r] [pk : Pick Ω b pr C Ωr] (hΔ : PubE C b pr Γ Δ) (h : TS P r n ops rest k Δ Ωr Q) : TS P r n ops rest k Γ Ω Q := fun hl a w hs => h hl a w (hs.pub hΔ)
theorem TC.kp {c : Code} (ts : List Tmp) (bs : List Nat) {Ω' : List Pe} [h : Keeps Γ ts Δ] [h' : Sel Ω bs Ω'] (k : TC P r n Δ Ω' c Q) : TC P r n Γ Ω c Q := fun a w hs => k a w ((hs.le h.le).less h'.less)
theorem TE.kp {e : Exit} (ts : List Tmp) (bs : List Nat) {Ω' : List Pe} [h : Keeps Γ ts Δ] [h' : Sel Ω bs Ω'] (k : TE r n Δ Ω' Q e) : TE r n Γ Ω Q e := fun a w hs => k a w ((hs.le h.le).less h'.less)
theorem TC.re {c : Code} (b : Nat) {C' : Ct} [pk : Pick Ω b pr C Ωr] (h : ∀ A w cs, pr → C.p A w cs → C'.p A w cs) (k : TC P r n Γ (⟨b, pr, C'⟩ :: Ωr) c Q) : TC P r n Γ Ω c Q := fun a w hs => k a w ((hs.less (Less.perm pk.perm)).less
  ⟨fun j ⟨e, he, h1, h2⟩ => (by
    rcases List.mem_cons.1 he with rfl | he
    · exact ⟨_, List.mem_cons_self .., h1, h2⟩
    · exact ⟨e, List.mem_cons_of_mem _ he, h1, h2⟩), fun hp => List.pairwise_cons.2 ⟨fun f hf h1 h2 => (List.pairwise_cons.1 hp).1 f hf h1 h2, (List.pairwise_cons.1 hp).2⟩, fun A w hk e he h1 => by
    rcases List.mem_cons.1 he with rfl | he
    · obtain ⟨cs, g1, g2⟩ := hk ⟨b, pr, C⟩ (List.mem_cons_self ..) h1; exact ⟨cs, g1, h _ _ _ h1 g2⟩
    · exact hk e (List.mem_cons_of_mem _ he) h1⟩)
end pub
class NoPtr (τ : Ty) : Prop where
  h : ∀ {A A' : Nat → Prop} {w w' : World} {v : Value}, τ.p A w v → τ.p A' w' v
class Flat (α : Type) (i : Dat α) : Prop where
  h : ∀ {A A' : Nat → Prop} {w w' : World} {cs : List Value} {x : α}, Dat.rd A w cs x → Dat.rd A' w' cs x
instance : Flat Int inferInstance := ⟨fun h => h⟩
instance : Flat UInt32 inferInstance := ⟨fun h => h⟩
instance {α : Type} {i : Dat α} {x : α} [h : Flat α i] : NoPtr (D x) := ⟨fun ⟨cs, h1, h2⟩ => ⟨cs, h.h h1, h2⟩⟩
class NoPtrL (τs : List Ty) : Prop where
  h : ∀ {A A' : Nat → Prop} {w w' : World} {v : Value} (i : Nat) (hi : i < τs.length), τs[i].p A w v → τs[i].p A' w' v
instance : NoPtrL [] := ⟨fun i hi => absurd hi (by simp)⟩
instance {τ : Ty} {τs : List Ty} [h : NoPtr τ] [k : NoPtrL τs] : NoPtrL (τ :: τs) := ⟨fun i hi hv => by
  cases i with
  | zero => exact h.h hv
  | succ i => exact k.h i (by simpa using hi) hv⟩
instance {τs : List Ty} [h : NoPtrL τs] : NoPtr (Tup τs) := ⟨fun ⟨vs, h1, h2, h3⟩ => ⟨vs, h1, h2, fun i hi => h.h i hi (h3 i hi)⟩⟩
def Lent (A : Nat → Prop) (bs : List Nat) (k : Nat) : Prop := A k ∨ k ∈ bs
def ArgB (Ω : List Pe) (bs : List Nat) (τ σ : Ty) : Prop := ∀ (A : Nat → Prop) (w : World) (v : Value), Pks A Ω w → τ.p A w v → σ.p (Lent A bs) w v
theorem Lent.keep {A : Nat → Prop} {bs : List Nat} {w : World} : Keep A (Lent A bs) w w := Keep.mono fun _ _ h => .inl h
theorem ArgB.d {Ω : List Pe} {bs : List Nat} {τ σ : Ty} [k : AsT τ σ] : ArgB Ω bs τ σ := fun A w v _ h => Ty.keep σ Lent.keep (k.le A w v h)
theorem ArgB.sv {Ω : List Pe} {bs : List Nat} {τ : Ty} {b o n : Nat} {pr : Prop} {C : Ct} {α : Type} {i : Dat α} {ys : List α} {upd : List α → Ct} [k : AsSv τ b pr o n] [hb : HasB Ω b pr C] (p : PlS C o α i ys upd) (hn : n = ys.length) (hbs : b ∈ bs) : ArgB Ω bs τ (D ys) := fun A w v hk h =>
  PubC.sv (τ := τ) p hn _ w v (fun hp => ⟨.inr hbs, by obtain ⟨cs, g1, g2⟩ := hk _ hb.h hp; exact ⟨cs, g1, C.keep Lent.keep g2⟩⟩) (τ.keep Lent.keep h)
section call
variable {P : Program} {B0 : Nat} {A : Nat → Prop} {Ω : List Pe} {Γ : Env} {dst : Option Tmp} {ty : TypeId} {pos : String} {aft : Array Edge} {gd : Option (Nat × Bool)} {f : FuncId} {ts : Array TypeId} {τ : Ty}
theorem OpY.callLent {xs : Array Operand} [F : Fun P f] [N : NoPtr τ] (bs : List Nat)
    (h : ∀ (A : Nat → Prop) (a : Act) w, (∀ k, w.heap.size ≤ k → Lent A bs k) → Pks A Ω w → (∀ t, .tmp t ∈ xs.toList → (Γ t).p A w (a.tmps.getD t undef)) → Calls P f (xs.map a.eval) w (Ret (Lent A bs) w τ)) :
    OpY P B0 A Ω Γ ⟨dst, .call { callee := .value (.func f), args := xs, argTypes := ts }, ty, pos, aft, gd⟩ τ := fun a w hB hu hp hl => by
  have hc := h A a w (fun k hk => .inl (hu k hk)) hp fun t ht => hl t (by
    simp only [Op.operands, Call.operands, Array.toList_append, List.mem_append]
    exact .inr ht)
  have hr : (execOp a.eval ⟨dst, .call { callee := .value (.func f), args := xs, argTypes := ts }, ty, pos, aft, gd⟩).run P w = .ok (.enter f (xs.map a.eval)) w := by
    have e1 : a.eval (.func f) = .func (.func f) #[] #[] := rfl
    simp only [execOp, resolve, Deferred.ofValue, e1, Sem.run_bind, Sem.run_pure, Result.andThen_ok, invoke, F.h, Array.append_empty, Array.empty_append]
  rw [hr]
  refine ⟨Grow.refl _ _, hc.mono fun e w' h => ?_⟩
  obtain ⟨v, h1, h2, h3⟩ := h
  exact ⟨v, h1, h2.mono hB, N.h h3⟩
theorem OpY.callB1 {x1 : Operand} {τ1 σ1 : Ty} [h1 : Has Γ x1 τ1] [F : Fun P f] [N : NoPtr τ] (bs : List Nat) (k1 : ArgB Ω bs τ1 σ1)
    (h : ∀ {A : Nat → Prop} w v1, (∀ k, w.heap.size ≤ k → A k) → σ1.p A w v1 → Calls P f #[v1] w (Ret A w τ)) :
    OpY P B0 A Ω Γ ⟨dst, .call { callee := .value (.func f), args := #[x1], argTypes := ts }, ty, pos, aft, gd⟩ τ :=
  OpY.callLent bs fun A a w hu hp hl => by
    rw [show (#[x1].map a.eval) = #[a.eval x1] by simp]
    exact h w _ hu (k1 A w _ hp (h1.le a A w fun t e => hl t (by simp [e])))
theorem OpY.callB3 {x1 : Operand} {τ1 σ1 : Ty} [h1 : Has Γ x1 τ1] {x2 : Operand} {τ2 σ2 : Ty} [h2 : Has Γ x2 τ2] {x3 : Operand} {τ3 σ3 : Ty} [h3 : Has Γ x3 τ3] [F : Fun P f] [N : NoPtr τ] (bs : List Nat) (k1 : ArgB Ω bs τ1 σ1) (k2 : ArgB Ω bs τ2 σ2) (k3 : ArgB Ω bs τ3 σ3)
    (h : ∀ {A : Nat → Prop} w v1 v2 v3, (∀ k, w.heap.size ≤ k → A k) → σ1.p A w v1 → σ2.p A w v2 → σ3.p A w v3 → Calls P f #[v1, v2, v3] w (Ret A w τ)) :
    OpY P B0 A Ω Γ ⟨dst, .call { callee := .value (.func f), args := #[x1, x2, x3], argTypes := ts }, ty, pos, aft, gd⟩ τ :=
  OpY.callLent bs fun A a w hu hp hl => by
    rw [show (#[x1, x2, x3].map a.eval) = #[a.eval x1, a.eval x2, a.eval x3] by simp]
    exact h w _ _ _ hu (k1 A w _ hp (h1.le a A w fun t e => hl t (by simp [e]))) (k2 A w _ hp (h2.le a A w fun t e => hl t (by simp [e]))) (k3 A w _ hp (h3.le a A w fun t e => hl t (by simp [e])))
end call
class Sel2 (Ω : List Pe) (bs : List Nat) (Ωt Ωr : outParam (List Pe)) : Prop where
  perm : Ω.Perm (Ωt ++ Ωr)
instance {Ω : List Pe} : Sel2 Ω [] [] Ω := ⟨List.Perm.refl _⟩
instance {Ω Ω1 Ωt Ωr : List Pe} {b : Nat} {bs : List Nat} {pr : Prop} {C : Ct} [h : Pick Ω b pr C Ω1] [k : Sel2 Ω1 bs Ωt Ωr] : Sel2 Ω (b :: bs) (⟨b, pr, C⟩ :: Ωt) Ωr := ⟨h.perm.trans (k.perm.cons _)⟩
theorem Pub_Pub {A : Nat → Prop} {Ω Ω' : List Pe} : Pub (Pub A Ω) Ω' = Pub A (Ω ++ Ω') := by
  funext k
  refine propext ?_; rw [Pub_own, Pub_own, Pub_own, Own_append]
  constructor
  · rintro ⟨⟨h1, h2⟩, h3⟩; exact ⟨h1, fun h => h.elim h2 h3⟩
  · rintro ⟨h1, h2⟩; exact ⟨⟨h1, fun h => h2 (.inl h)⟩, fun h => h2 (.inr h)⟩
section callO
variable {P : Program} {B : Nat} {Ωs Ω Ωt Ωr : List Pe} {Γ : Env} {dst : Option Tmp} {ty : TypeId} {pos : String} {aft : Array Edge} {f : FuncId} {ts : Array TypeId} {ν : Type} {τ : ν → Ty} {Ω' : ν → List Pe}
theorem OpT.callON {xs : Array Operand} [F : Fun P f] (hp : Ω.Perm (Ωt ++ Ωr))
    (h : ∀ (A : Nat → Prop) (a : Act) w, (∀ k, w.heap.size ≤ k → A k) → OwnIn A Ωt → Apart Ωt → Pks (Pub A Ωt) Ωt w → (∀ t, .tmp t ∈ xs.toList → (Γ t).p (Pub A Ωt) w (a.tmps.getD t undef)) → Calls P f (xs.map a.eval) w (RetO A w Ωt τ Ω')) :
    OpT P B Ωs Ω Γ ⟨dst, .call { callee := .value (.func f), args := xs, argTypes := ts }, ty, pos, aft, none⟩ τ fun g => Ω' g ++ Ωr := by
  refine OpT.frame hp ⟨rfl, fun A0 a w hB hu ho ha hk hl => ?_⟩
  have hlt : ∀ j, Own (Ωs ++ Ωr) j → j < w.heap.size := fun j hj => (Pks_append.1 hk).1.lt hj
  have hr : (execOp a.eval ⟨dst, .call { callee := .value (.func f), args := xs, argTypes := ts }, ty, pos, aft, none⟩).run P w = .ok (.enter f (xs.map a.eval)) w := by
    have e1 : a.eval (.func f) = .func (.func f) #[] #[] := rfl
    simp only [execOp, resolve, Deferred.ofValue, e1, Sem.run_bind, Sem.run_pure, Result.andThen_ok, invoke, F.h, Array.append_empty, Array.empty_append]
  rw [hr]
  have hc := h (Pub A0 (Ωs ++ Ωr)) a w (fun k hk => Pub_own.2 ⟨hu k hk, fun hj => by have := hlt k hj; omega⟩)
    ⟨fun k hko => Pub_own.2 ⟨ho k hko, fun ⟨e, he, h1, h2⟩ => by
      obtain ⟨f, hf, h3, h4⟩ := hko
      exact (List.pairwise_append.1 ha).2.2 e he f hf h1 h3 (h2.trans h4.symm)⟩⟩
    (List.pairwise_append.1 ha).2.1 (by rw [Pub_Pub]; exact (Pks_append.1 hk).2) (fun t ht => by
      rw [Pub_Pub]
      exact hl t (by
        simp only [Op.operands, Call.operands, Array.toList_append, List.mem_append]
        exact .inr ht))
  refine hc.mono fun e w' ⟨v, g, h1, h2⟩ => ⟨v, g, h1, h2.st.mono hB (fun _ h => h), h2.nw, ?_, by rw [← Pub_Pub]; exact h2.ty, by rw [← Pub_Pub]; exact h2.ks⟩
  refine List.pairwise_append.2 ⟨(List.pairwise_append.1 ha).1, h2.ap, fun x hx y hy h3 h4 h5 => ?_⟩
  rcases h2.nw y.b ⟨y, hy, h4, rfl⟩ with ⟨z, hz, h6, h7⟩ | h6
  · exact (List.pairwise_append.1 ha).2.2 x hx z hz h3 h6 (h5.trans h7.symm)
  · have := hlt x.b ⟨x, hx, h3, rfl⟩; omega
theorem OpT.callO1 {x1 : Operand} {τ1 : Ty} [h1 : Has Γ x1 τ1] [F : Fun P f] (bs : List Nat) [sp : Sel2 Ω bs Ωt Ωr]
    (h : ∀ {A : Nat → Prop} w v1, (∀ k, w.heap.size ≤ k → A k) → OwnIn A Ωt → Apart Ωt → Pks (Pub A Ωt) Ωt w → τ1.p (Pub A Ωt) w v1 → Calls P f #[v1] w (RetO A w Ωt τ Ω')) :
    OpT P B Ωs Ω Γ ⟨dst, .call { callee := .value (.func f), args := #[x1], argTypes := ts }, ty, pos, aft, none⟩ τ fun g => Ω' g ++ Ωr :=
  OpT.callON sp.perm fun A a w hu ho ha hk hl => by
    rw [show (#[x1].map a.eval) = #[a.eval x1] by simp]
    exact h w _ hu ho ha hk (h1.le a _ w fun t e => hl t (by simp [e]))
theorem OpT.callO2 {x1 : Operand} {τ1 : Ty} [h1 : Has Γ x1 τ1] {x2 : Operand} {τ2 : Ty} [h2 : Has Γ x2 τ2] [F : Fun P f] (bs : List Nat) [sp : Sel2 Ω bs Ωt Ωr]
    (h : ∀ {A : Nat → Prop} w v1 v2, (∀ k, w.heap.size ≤ k → A k) → OwnIn A Ωt → Apart Ωt → Pks (Pub A Ωt) Ωt w → τ1.p (Pub A Ωt) w v1 → τ2.p (Pub A Ωt) w v2 → Calls P f #[v1, v2] w (RetO A w Ωt τ Ω')) :
    OpT P B Ωs Ω Γ ⟨dst, .call { callee := .value (.func f), args := #[x1, x2], argTypes := ts }, ty, pos, aft, none⟩ τ fun g => Ω' g ++ Ωr :=
  OpT.callON sp.perm fun A a w hu ho ha hk hl => by
    rw [show (#[x1, x2].map a.eval) = #[a.eval x1, a.eval x2] by simp]
    exact h w _ _ hu ho ha hk (h1.le a _ w fun t e => hl t (by simp [e])) (h2.le a _ w fun t e => hl t (by simp [e]))
theorem OpT.callO3 {x1 : Operand} {τ1 : Ty} [h1 : Has Γ x1 τ1] {x2 : Operand} {τ2 : Ty} [h2 : Has Γ x2 τ2] {x3 : Operand} {τ3 : Ty} [h3 : Has Γ x3 τ3] [F : Fun P f] (bs : List Nat) [sp : Sel2 Ω bs Ωt Ωr]
    (h : ∀ {A : Nat → Prop} w v1 v2 v3, (∀ k, w.heap.size ≤ k → A k) → OwnIn A Ωt → Apart Ωt → Pks (Pub A Ωt) Ωt w → τ1.p (Pub A Ωt) w v1 → τ2.p (Pub A Ωt) w v2 → τ3.p (Pub A Ωt) w v3 → Calls P f #[v1, v2, v3] w (RetO A w Ωt τ Ω')) :
    OpT P B Ωs Ω Γ ⟨dst, .call { callee := .value (.func f), args := #[x1, x2, x3], argTypes := ts }, ty, pos, aft, none⟩ τ fun g => Ω' g ++ Ωr :=
  OpT.callON sp.perm fun A a w hu ho ha hk hl => by
    rw [show (#[x1, x2, x3].map a.eval) = #[a.eval x1, a.eval x2, a.eval x3] by simp]
    exact h w _ _ _ hu ho ha hk (h1.le a _ w fun t e => hl t (by simp [e])) (h2.le a _ w fun t e => hl t (by simp [e])) (h3.le a _ w fun t e => hl t (by simp [e]))
theorem OpT.callO4 {x1 : Operand} {τ1 : Ty} [h1 : Has Γ x1 τ1] {x2 : Operand} {τ2 : Ty} [h2 : Has Γ x2 τ2] {x3 : Operand} {τ3 : Ty} [h3 : Has Γ x3 τ3] {x4 : Operand} {τ4 : Ty} [h4 : Has Γ x4 τ4] [F : Fun P f] (bs : List Nat) [sp : Sel2 Ω bs Ωt Ωr]
    (h : ∀ {A : Nat → Prop} w v1 v2 v3 v4, (∀ k, w.heap.size ≤ k → A k) → OwnIn A Ωt → Apart Ωt → Pks (Pub A Ωt) Ωt w → τ1.p (Pub A Ωt) w v1 → τ2.p (Pub A Ωt) w v2 → τ3.p (Pub A Ωt) w v3 → τ4.p (Pub A Ωt) w v4 → Calls P f #[v1, v2, v3, v4] w (RetO A w Ωt τ Ω')) :
    OpT P B Ωs Ω Γ ⟨dst, .call { callee := .value (.func f), args := #[x1, x2, x3, x4], argTypes := ts }, ty, pos, aft, none⟩ τ fun g => Ω' g ++ Ωr :=
  OpT.callON sp.perm fun A a w hu ho ha hk hl => by
    rw [show (#[x1, x2, x3, x4].map a.eval) = #[a.eval x1, a.eval x2, a.eval x3, a.eval x4] by simp]
    exact h w _ _ _ _ hu ho ha hk (h1.le a _ w fun t e => hl t (by simp [e])) (h2.le a _ w fun t e => hl t (by simp [e])) (h3.le a _ w fun t e => hl t (by simp [e])) (h4.le a _ w fun t e => hl t (by simp [e]))
theorem OpT.callO5 {x1 : Operand} {τ1 : Ty} [h1 : Has Γ x1 τ1] {x2 : Operand} {τ2 : Ty} [h2 : Has Γ x2 τ2] {x3 : Operand} {τ3 : Ty} [h3 : Has Γ x3 τ3] {x4 : Operand} {τ4 : Ty} [h4 : Has Γ x4 τ4] {x5 : Operand} {τ5 : Ty} [h5 : Has Γ x5 τ5] [F : Fun P f] (bs : List Nat) [sp : Sel2 Ω bs Ωt Ωr]
    (h : ∀ {A : Nat → Prop} w v1 v2 v3 v4 v5, (∀ k, w.heap.size ≤ k → A k) → OwnIn A Ωt → Apart Ωt → Pks (Pub A Ωt) Ωt w → τ1.p (Pub A Ωt) w v1 → τ2.p (Pub A Ωt) w v2 → τ3.p (Pub A Ωt) w v3 → τ4.p (Pub A Ωt) w v4 → τ5.p (Pub A Ωt) w v5 → Calls P f #[v1, v2, v3, v4, v5] w (RetO A w Ωt τ Ω')) :
    OpT P B Ωs Ω Γ ⟨dst, .call { callee := .value (.func f), args := #[x1, x2, x3, x4, x5], argTypes := ts }, ty, pos, aft, none⟩ τ fun g => Ω' g ++ Ωr :=
  OpT.callON sp.perm fun A a w hu ho ha hk hl => by
    rw [show (#[x1, x2, x3, x4, x5].map a.eval) = #[a.eval x1, a.eval x2, a.eval x3, a.eval x4, a.eval x5] by simp]
    exact h w _ _ _ _ _ hu ho ha hk (h1.le a _ w fun t e => hl t (by simp [e])) (h2.le a _ w fun t e => hl t (by simp [e])) (h3.le a _ w fun t e => hl t (by simp [e])) (h4.le a _ w fun t e => hl t (by simp [e])) (h5.le a _ w fun t e => hl t (by simp [e]))
end callO
end Go.Proofs.Ytefmfhbkihplgaa.Tr
namespace Go.Proofs.Ytefmfhbkihplgaa.Tr
open Go Go.RowKit
def loopN {σ ε : Type} (f : σ → Option (σ ⊕ ε)) : Nat → σ → Option ε
  | 0, _ => none
  | n + 1, s => match f s with
    | none => none
    | some (.inl s') => loopN f n s'
    | some (.inr e) => some e
def loopO {σ ε : Type} (f : σ → Option (σ ⊕ ε)) (s : σ) : Option ε := loopN f 18446744073709551616 s
theorem loopN_mono {σ ε : Type} {f : σ → Option (σ ⊕ ε)} : ∀ {n : Nat} {s : σ} {e : ε} (m : Nat), loopN f n s = some e → n ≤ m → loopN f m s = some e
  | n + 1, s, e, 0, _, h => by omega
  | n + 1, s, e, m + 1, h, hm => by
    unfold loopN at *
    cases hf : f s with
    | none => rw [hf] at h; cases h
    | some x =>
      rw [hf] at h
      cases x with
      | inl s' => exact loopN_mono m h (by omega)
      | inr e' => exact h
theorem loopO_inv {σ ε : Type} {f : σ → Option (σ ⊕ ε)} (I : σ → Prop) (μ : σ → Nat) (R : ε → Prop) (h : ∀ s, I s → (∃ s', f s = some (.inl s') ∧ I s' ∧ μ s' < μ s) ∨ ∃ e, f s = some (.inr e) ∧ R e) {s : σ} (hs : I s) (hm : μ s < 18446744073709551616) :
    ∃ e, loopO f s = some e ∧ R e := by
  have key : ∀ (k : Nat) (s : σ), μ s < k → I s → ∃ e, loopN f k s = some e ∧ R e := by
    intro k
    induction k with
    | zero => intro s h; omega
    | succ k ih =>
      intro s hk hi
      rcases h s hi with ⟨s', h1, h2, h3⟩ | ⟨e, h1, h2⟩
      · obtain ⟨e, h4, h5⟩ := ih s' (by omega) h2
        exact ⟨e, by unfold loopN; rw [h1]; exact h4, h5⟩
      · exact ⟨e, by unfold loopN; rw [h1], h2⟩
  exact key _ s hm hs
theorem bnd {α β : Type} {x : Option α} {f : α → Option β} {r : β} (h : x.bind f = some r) : ∃ a, x = some a ∧ f a = some r := by
  cases x with
  | none => cases h
  | some a => exact ⟨a, rfl, h⟩
theorem cT {α : Type} {b : Bool} {x y : Option α} {r : α} (h : (bif b then x else y) = some r) (hb : b = true) : x = some r := by rw [hb] at h; exact h
theorem cF {α : Type} {b : Bool} {x y : Option α} {r : α} (h : (bif b then x else y) = some r) (hb : b = false) : y = some r := by rw [hb] at h; exact h
def gb {α : Type} [Inhabited α] (g : Bool) (x : Option α) : Option α := bif g then x else some default
theorem gb_some {α : Type} [Inhabited α] {g : Bool} {x : Option α} {a : α} (h : gb g x = some a) (hg : g = true) : x = some a := by subst hg; exact h
def el2 {α β γ : Type} (s : α × β) (f : α → β → γ) : γ := f s.1 s.2
def el3 {α β γ δ : Type} (s : α × β × γ) (f : α → β → γ → δ) : δ := f s.1 s.2.1 s.2.2
def el4 {α β γ δ ε : Type} (s : α × β × γ × δ) (f : α → β → γ → δ → ε) : ε := f s.1 s.2.1 s.2.2.1 s.2.2.2
def elS {α β γ : Type} (s : α ⊕ β) (f : α → γ) (g : β → γ) : γ := match s with | .inl a => f a | .inr b => g b
section rules
variable {P : Program} {r : Ref} {n : Nat} {Γ : Env} {Ω : List Pe} {Q : Exit → Act → World → Prop}
theorem TC.loopP {σ ε ν : Type} {f : σ → Option (σ ⊕ ε)} {s0 : σ} {e : ε} {c : Code} (hl : loopO f s0 = some e) (I : σ → ν → Env) (J : σ → ν → List Pe) (m0 : ν) (h0 : Γ.le (I s0 m0)) (j0 : Less Ω (J s0 m0))
    (round : ∀ s m x, f s = some x → (∀ e', x = .inr e' → e' = e) → TC P r n (I s m) (J s m) c (Exit.then (fun a w => ∃ s' m', x = .inl s' ∧ Stt r n (I s' m') (J s' m') a w) Q)) : TC P r n Γ Ω (.loop c) Q := by
  refine TC.loop (γ := {g : σ × ν × Nat // loopN f g.2.2 g.1 = some e}) (fun g => I g.1.1 g.1.2.1) (fun g => J g.1.1 g.1.2.1) (fun g => g.1.2.2) ⟨(s0, m0, _), hl⟩ h0 j0 ?_
  rintro ⟨⟨s, m, k⟩, hg⟩
  cases k with
  | zero => cases hg
  | succ k =>
    have hg : loopN f (k + 1) s = some e := hg
    unfold loopN at hg
    cases hf : f s with
    | none => rw [hf] at hg; cases hg
    | some x =>
      rw [hf] at hg
      intro a w hs
      have := round s m x hf (fun e' h => by subst h; injection hg) a w hs
      refine wpIn_mono this fun ex a' w' hq => ?_
      cases ex with
      | normal =>
        obtain ⟨s', m', hx, hst⟩ := hq
        subst hx
        exact ⟨⟨(s', m', k), hg⟩, Nat.lt_succ_self _, hst⟩
      | _ => exact hq
theorem TE.backP {σ ε ν : Type} {I : σ → ν → Env} {J : σ → ν → List Pe} {x : σ ⊕ ε} (s' : σ) (m' : ν) (hx : x = .inl s') (h : Γ.le (I s' m')) (j : Less Ω (J s' m')) :
    TE r n Γ Ω (Exit.then (fun a w => ∃ s' m', x = .inl s' ∧ Stt r n (I s' m') (J s' m') a w) Q) .normal := fun _ _ hs => ⟨s', m', hx, (hs.le h).less j⟩
end rules
class Cv (τ σ : Ty) : Prop where
  le : τ.le σ
instance (priority := 2000) {τ : Ty} : Cv τ τ := ⟨Ty.le.refl _⟩
instance {τ : Ty} {α : Type} {i : Dat α} {x : α} [h : ToD τ α i x] : Cv τ (D x) := ⟨h.le⟩
theorem Env.cv {Γ Δ : Env} {d : Tmp} {τ σ : Ty} [h : Has Γ (.tmp d) τ] [c : Cv τ σ] (k : Γ.le Δ) : Γ.le (Δ.set d σ) := Env.le_set (h.at.trans c.le) k
theorem Env.cvBy {Γ Δ : Env} {d : Tmp} {τ σ : Ty} [h : Has Γ (.tmp d) τ] (c : τ.le σ) (k : Γ.le Δ) : Γ.le (Δ.set d σ) := Env.le_set (h.at.trans c) k
theorem Sl_le {b : Nat} {pr : Prop} {o m n c : Nat} (h : m = n) : (Sl b pr o m c).le (Sl b pr o n c) := h ▸ Ty.le.refl _
theorem NilS.sl0 {b : Nat} : Ty.le NilS (Sl b False 0 0 0) := NilS.sl (fun h => h)
theorem Less.nilRow {Ω Δ : List Pe} {b : Nat} {C : Ct} (h : Less Ω Δ) : Less Ω (⟨b, False, C⟩ :: Δ) := (Less.none (fun h => h)).trans (Less.cons h)
end Go.Proofs.Ytefmfhbkihplgaa.Tr
namespace Go.Proofs.Ytefmfhbkihplgaa.Tr
open Go Go.RowKit
section ops
variable {P : Program} {B0 : Nat} {A : Nat → Prop} {Ω : List Pe} {Γ : Env} {dst : Option Tmp} {ty : TypeId} {pos : String} {aft : Array Edge} {gd : Option (Nat × Bool)}
variable {α β : Type} {i : Dat α} {j : Dat β} {t u : TypeId} {f off : Nat} {get : α → β} {set : β → α → α}
class HasParts (P : Program) (t : TypeId) (Γ : Env) (ps : List (Nat × Operand)) (α : Type) (i : Dat α) (x0 : α) (x : outParam α) : Prop where
  h : ∀ (a : Act) A w, (∀ k, .tmp k ∈ ps.map (·.2) → (Γ k).p A w (a.tmps.getD k undef)) → ∀ fs places cs, P.underlying t = some (.struct fs) → fs.toList.mapM (fun f => (P.info? f.type).map fun i => (f.offset, i.size)) = some places → Dat.rd A w cs x0 →
    ∃ cs', Instr.fill (places.toArray[·]?) cs.toArray (ps.map fun p => (p.1, a.eval p.2)) = some cs'.toArray ∧ Dat.rd A w cs' x
instance {Γ : Env} {x : α} : HasParts P t Γ [] α i x x := ⟨fun a A w _ fs places cs _ _ h => ⟨cs, by simp [Instr.fill], h⟩⟩
theorem mapM_at {γ δ : Type} {g : γ → Option δ} : ∀ {l : List γ} {r : List δ}, l.mapM g = some r → ∀ (k : Nat) (x : γ), l[k]? = some x → g x = r[k]?
  | [], r, h, k, x, hx => by simp at hx
  | y :: ys, r, h, k, x, hx => by
    simp only [List.mapM_cons, Option.bind_eq_bind, Option.pure_def] at h
    cases hy : g y with
    | none => simp [hy] at h
    | some z =>
      cases hr : ys.mapM g with
      | none => simp [hy, hr] at h
      | some zs =>
        simp [hy, hr] at h
        subst h
        cases k with
        | zero => simp at hx; subst hx; simpa using hy
        | succ k => simpa using mapM_at hr k x (by simpa using hx)
instance {Γ : Env} {x0 x : α} {p : Operand} {ps : List (Nat × Operand)} {τ : Ty} {y : β} {bt : Nat} [F : TFld P t f u off] [T : TEl P u β j bt] [L : Fld α i off β j get set] [hp : Has Γ p τ] [hy : ToD τ β j y] [r : HasParts P t Γ ps α i (set y x0) x] :
    HasParts P t Γ ((f, p) :: ps) α i x0 x := ⟨fun a A w ha fs places cs hu hm hr => by
  obtain ⟨fs', fl, g1, g2, g3, g4⟩ := F.h
  rw [hu] at g1
  injection g1 with g1; injection g1 with g1; subst g1
  obtain ⟨es, e1, e2⟩ := D_cells (hy.le _ _ _ (hp.le a A w fun k e => ha k (by simp [e])))
  obtain ⟨ti, z, i1, i2, i3, i4, i5⟩ := T.h
  have hpl : places[f]? = some (off, Dat.sz β) := by
    have := mapM_at hm f fl (by simpa using g2)
    rw [← this, g3, g4, i1, Option.map_some, i3]
  have l1 : es.length = Dat.sz β := Dat.len e2
  have l2 : cs.length = Dat.sz α := Dat.len hr
  have l3 : off + Dat.sz β ≤ Dat.sz α := L.le
  obtain ⟨cs', r1, r2⟩ := r.h a A w (fun k hk => ha k (List.mem_cons_of_mem _ hk)) fs places _ hu hm (L.st hr e2)
  refine ⟨cs', ?_, r2⟩
  have hpl2 : places.toArray[f]? = some (off, Dat.sz β) := by simpa using hpl
  simp only [List.map_cons, Instr.fill, hpl2, e1]
  rw [if_neg (by simp [l1]; omega)]
  have h5 := foldl_setSeg es 0 off cs (by omega)
  simp only [Nat.add_zero] at h5
  rw [← r1]
  congr 1
  rw [← h5]; simp⟩
theorem OpY.build {parts : Array (Nat × Operand)} {ps : List (Nat × Operand)} {bt : Nat} {x : α} [T : TEl P t α i bt] (hps : parts = ps.toArray) (hu : ∃ fs, P.underlying t = some (.struct fs) ∧ (fs.toList.mapM (fun f => (P.info? f.type).map fun i => (f.offset, i.size))).isSome = true) (ha : Dat.agg α = true)
    [h : HasParts P t Γ ps α i Dat.z x] : OpY P B0 A Ω Γ ⟨dst, .build t parts, ty, pos, aft, gd⟩ (D x) :=
  OpY.val fun a w hl => by
    subst hps
    obtain ⟨fs, u1, u2⟩ := hu
    obtain ⟨places, u2⟩ := Option.isSome_iff_exists.1 u2
    obtain ⟨ti, z, i1, i2, i3, i4, i5⟩ := T.h
    obtain ⟨cs', r1, r2⟩ := h.h a A w (fun k hk => hl k (by simp only [Op.operands]; simpa using hk)) fs places _ u1 u2 Dat.zrd
    refine ⟨.agg cs'.toArray, ?_, cs', r2, by unfold mkV; rw [ha]; rfl⟩
    have hb : P.built t ((ps.toArray.map fun (i, x) => (i, a.eval x)).toList) = some cs'.toArray := by
      unfold Program.built
      rw [i1, u1]
      simp only [i2, u2, i5]
      simpa using r1
    simp only [execOp, Sem.run_bind, run_build w t _ cs'.toArray hb, Result.andThen_ok, Sem.run_pure]
theorem OpY.buildAs {parts : Array (Nat × Operand)} {ps : List (Nat × Operand)} {bt : Nat} {x : α} (y : α) [T : TEl P t α i bt] (hps : parts = ps.toArray) (hu : ∃ fs, P.underlying t = some (.struct fs) ∧ (fs.toList.mapM (fun f => (P.info? f.type).map fun i => (f.offset, i.size))).isSome = true) (ha : Dat.agg α = true)
    [h : HasParts P t Γ ps α i Dat.z x] (hxy : x = y) : OpY P B0 A Ω Γ ⟨dst, .build t parts, ty, pos, aft, gd⟩ (D y) := hxy ▸ OpY.build hps hu ha
end ops
end Go.Proofs.Ytefmfhbkihplgaa.Tr
namespace Go.Proofs.Ytefmfhbkihplgaa.Tr
open Go Go.RowKit
class OneC (τ : Ty) : Prop where
  h : ∀ {A : Nat → Prop} {w : World} {v : Value}, τ.p A w v → v.cells = #[v] ∧ v.oneCell' = true
instance {b : Nat} {pr : Prop} {o n c : Nat} : OneC (Sl b pr o n c) := ⟨fun h => by rcases h with ⟨_, _, rfl⟩ | ⟨_, _, _, rfl⟩ <;> exact ⟨rfl, rfl⟩⟩
instance {b : Nat} {pr : Prop} {o n : Nat} : OneC (Sv b pr o n) := ⟨fun h => by rcases h with ⟨_, _, _, rfl, _⟩ | ⟨_, _, rfl⟩ <;> exact ⟨rfl, rfl⟩⟩
structure CtH (C : Ct) (off : Nat) (τ : Ty) (C' : Ct) : Prop where
  h : ∀ {A w cs v}, C.p A w cs → τ.p A w v → off < cs.length ∧ C'.p A w (cs.set off v)
class CtLen (C : Ct) (n : outParam Nat) : Prop where
  h : ∀ {A w cs}, C.p A w cs → cs.length = n
instance {α : Type} {i : Dat α} {x : α} : CtLen (One x) (Dat.sz α) := ⟨fun h => Dat.len h⟩
instance {C : Ct} {o n : Nat} {τ : Ty} [k : CtLen C n] : CtLen (C.mix o τ) n := ⟨fun ⟨cs0, v, h1, h2, h3, h4⟩ => by subst h4; rw [List.length_set]; exact k.h h1⟩
theorem CtH.new {C : Ct} {off n : Nat} {τ : Ty} [k : CtLen C n] (h : off < n) : CtH C off τ (C.mix off τ) := ⟨fun {A w cs v} hc hv => by
  have := k.h hc
  exact ⟨by omega, cs, v, hc, by omega, hv, rfl⟩⟩
theorem CtH.same {C : Ct} {off : Nat} {σ τ : Ty} : CtH (C.mix off σ) off τ (C.mix off τ) := ⟨fun {A w cs v} ⟨cs0, u, h1, h2, h3, h4⟩ hv => by
  subst h4
  exact ⟨by simpa using h2, cs0, v, h1, h2, hv, by simp⟩⟩
structure CeH (C : Ct) (off : Nat) (τ : Ty) : Prop where
  h : ∀ {A w cs}, C.p A w cs → off < cs.length ∧ τ.p A w (cs.getD off undef)
theorem CeH.here {C : Ct} {off : Nat} {τ : Ty} : CeH (C.mix off τ) off τ := ⟨fun {A w cs} ⟨cs0, u, h1, h2, h3, h4⟩ => by
  subst h4
  refine ⟨by simpa using h2, ?_⟩
  rw [List.getD_eq_getElem?_getD, List.getElem?_set_self h2]; exact h3⟩
def VC (C : Ct) : Ty := ⟨fun A w v => ∃ cs, C.p A w cs ∧ v = .agg cs.toArray, fun k ⟨cs, h1, h2⟩ => ⟨cs, C.keep k h1, h2⟩⟩
section ops
variable {P : Program} {B : Nat} {Ωs Ω Ωr : List Pe} {Γ : Env} {dst : Option Tmp} {ty : TypeId} {pos : String} {aft : Array Edge}
variable {α β : Type} {i : Dat α} {j : Dat β} {t u : TypeId}
theorem run_loadRow {w : World} {b : Nat} {cs : List Value} {o k : Nat} (hb : Blk w b cs) (hl : o + k ≤ cs.length) : (loadCells ⟨b, o, none⟩ k).run P w = .ok (seg cs o k).toArray w := by
  have := run_loadCells (P := P) (hb.row hl)
  rwa [seg_length hl] at this
theorem OpT.storeC {b k : Nat} {pr : Prop} {C C' : Ct} {p x : Operand} [hp : Has Γ p (Pt b 0)] [pk : Pick Ω b pr C Ωr] [hx : Has Γ x (VC C')] [T : TDat P t α i] [l : CtLen C k] [l' : CtLen C' k] (hpr : pr) (hk : k = Dat.sz α) (hsc : ∀ {A w cs}, C'.p A w cs → ∀ v ∈ cs, v.oneCell' = true) :
    OpT P B Ωs Ω Γ ⟨none, .store t p x, ty, pos, aft, none⟩ (fun _ : Unit => Ty.any) fun _ => ⟨b, pr, C'⟩ :: Ωr :=
  OpT.wr (C := C) rfl fun A a w hks hl => by
    have e1 : a.eval p = .pointer (some ⟨b, 0, none⟩) := Has.ev (x := p) (τ := Pt b 0) (op := .store t p x) (by simp [Op.operands]) hl
    obtain ⟨ds, h2, h3⟩ := Has.ev (x := x) (τ := VC C') (op := .store t p x) (by simp [Op.operands]) hl
    obtain ⟨cs, g1, g2⟩ := hks ⟨b, pr, C⟩ (List.mem_append_right _ (pk.perm.mem_iff.2 (List.mem_cons_self ..))) hpr
    have e3 := l.h g2
    have e4 := l'.h h2
    obtain ⟨w', r1, r2, r3, r4⟩ := run_storeCells' (P := P) g1 (o := 0) (vs := ds) (by omega) (hsc h2)
    rw [setSeg_self (by omega)] at r2
    refine ⟨undef, fun _ _ => trivial, .inr ⟨hpr, w', cs, ds, .inr ⟨?_, rfl⟩, g1, r2, r3, h2⟩⟩
    have e5 : (Value.agg ds.toArray).cells = ds.toArray := rfl
    simp only [execOp, Instr.storeAt, e1, Instr.sureAddr, Sem.run_bind, Sem.run_pure, Result.andThen_ok, storeVar, T.sz, h3, e5, List.size_toArray]
    rw [if_neg (by omega)]
    simp [r1]
end ops
class CtSc (C : Ct) : Prop where
  h : ∀ {A w cs}, C.p A w cs → ∀ v ∈ cs, v.oneCell' = true
instance {α : Type} {i : Dat α} {x : α} : CtSc (One x) := ⟨fun h => Dat.scal h⟩
instance {C : Ct} {o : Nat} {τ : Ty} [k : CtSc C] [oc : OneC τ] : CtSc (C.mix o τ) := ⟨fun ⟨cs0, v, h1, h2, h3, h4⟩ u hu => by
  subst h4
  rcases List.mem_or_eq_of_mem_set hu with h | rfl
  · exact k.h h1 u h
  · exact (oc.h h3).2⟩
section rd
variable {P : Program} {B0 : Nat} {A : Nat → Prop} {Ω : List Pe} {Γ : Env} {dst : Option Tmp} {ty : TypeId} {pos : String} {aft : Array Edge} {gd : Option (Nat × Bool)}
variable {α β : Type} {i : Dat α} {j : Dat β} {t u : TypeId} {f off : Nat}
theorem run_loadC {w : World} {b k : Nat} {C : Ct} {A : Nat → Prop} {cs : List Value} [T : TDat P t α i] [l : CtLen C k] (g1 : Blk w b cs) (g2 : C.p A w cs) (hk : k = Dat.sz α) (ha : Dat.agg α = true) : (loadVar t ⟨b, 0, none⟩).run P w = .ok (.agg cs.toArray) w := by
  have e := l.h g2
  unfold loadVar
  rw [Sem.run_bind, T.ag, ha]
  simp only [Result.andThen_ok, if_true]
  rw [Sem.run_bind, T.sz]
  simp only [Result.andThen_ok]
  have hld := run_loadRow (P := P) (o := 0) (k := Dat.sz α) g1 (by omega)
  rw [seg_self (by omega)] at hld
  rw [Sem.run_bind, hld]
  rfl
theorem OpY.ldC {x : Operand} {b k : Nat} {pr : Prop} {C : Ct} [hx : Has Γ x (Pt b 0)] [hb : HasB Ω b pr C] [T : TDat P t α i] [l : CtLen C k] (hpr : pr) (hk : k = Dat.sz α) (ha : Dat.agg α = true) : OpY P B0 A Ω Γ ⟨dst, .load t x, ty, pos, aft, gd⟩ (VC C) := fun a w _ _ hp hl => by
  have e1 : a.eval x = .pointer (some ⟨b, 0, none⟩) := Has.ev (x := x) (τ := Pt b 0) (op := .load t x) (by simp [Op.operands]) hl
  obtain ⟨cs, g1, g2⟩ := hp _ hb.h hpr
  simp only [execOp, Instr.loadAt, e1, Instr.sureAddr, Sem.run_bind, Sem.run_pure, Result.andThen_ok]
  rw [run_loadC (t := t) g1 g2 hk ha]
  exact ⟨Grow.refl _ _, cs, g2, rfl⟩
instance (priority := 100) rvC {s : Tmp} {b k : Nat} {C : Ct} [h : Has Γ (.tmp s) (Pt b 0)] [hb : HasB Ω b True C] [T : TDat P t α i] [l : CtLen C k] [hk : BoolIs (Nat.beq k (Dat.sz α)) true] [ha : BoolIs (Dat.agg α) true] : Rv P Γ Ω (.cell s t) (VC C) := ⟨fun ht hk' => by
  obtain ⟨cs, g1, g2⟩ := hk' _ hb.h trivial
  have e : _ = Value.pointer (some ⟨b, 0, none⟩) := h.at _ _ _ (ht s)
  refine ⟨_, ?_, cs, g2, rfl⟩
  simp only [rvRead, Sem.run_bind, e, asAddr, Sem.run_pure, Result.andThen_ok]
  exact run_loadC (t := t) g1 g2 (Nat.eq_of_beq_eq_true hk.h) ha.h⟩
class PartsC (P : Program) (t : TypeId) (Γ : Env) (ps : List (Nat × Operand)) (C : Ct) (C' : outParam Ct) : Prop where
  h : ∀ (a : Act) A w, (∀ k, .tmp k ∈ ps.map (·.2) → (Γ k).p A w (a.tmps.getD k undef)) → ∀ fs places cs, P.underlying t = some (.struct fs) → fs.toList.mapM (fun f => (P.info? f.type).map fun i => (f.offset, i.size)) = some places → C.p A w cs →
    ∃ cs', Instr.fill (places.toArray[·]?) cs.toArray (ps.map fun p => (p.1, a.eval p.2)) = some cs'.toArray ∧ C'.p A w cs'
instance {C : Ct} : PartsC P t Γ [] C C := ⟨fun a A w _ fs places cs _ _ h => ⟨cs, by simp [Instr.fill], h⟩⟩
instance {p : Operand} {ps : List (Nat × Operand)} {τ : Ty} {y : β} {bt : Nat} {C C1 C' : Ct} [F : TFld P t f u off] [T : TEl P u β j bt] [hp : Has Γ p τ] [hy : ToD τ β j y] [c : CtSet C off β j y C1] [r : PartsC P t Γ ps C1 C'] :
    PartsC P t Γ ((f, p) :: ps) C C' := ⟨fun a A w ha fs places cs hu hm hr => by
  obtain ⟨fs', fl, g1, g2, g3, g4⟩ := F.h
  rw [hu] at g1
  injection g1 with g1; injection g1 with g1; subst g1
  obtain ⟨es, e1, e2⟩ := D_cells (hy.le _ _ _ (hp.le a A w fun k e => ha k (by simp [e])))
  obtain ⟨ti, z, i1, i2, i3, i4, i5⟩ := T.h
  have hpl : places[f]? = some (off, Dat.sz β) := by
    have := mapM_at hm f fl (by simpa using g2)
    rw [← this, g3, g4, i1, Option.map_some, i3]
  have l1 : es.length = Dat.sz β := Dat.len e2
  obtain ⟨l3, k2⟩ := c.h hr e2
  obtain ⟨cs', r1, r2⟩ := r.h a A w (fun k hk => ha k (List.mem_cons_of_mem _ hk)) fs places _ hu hm k2
  refine ⟨cs', ?_, r2⟩
  have hpl2 : places.toArray[f]? = some (off, Dat.sz β) := by simpa using hpl
  simp only [List.map_cons, Instr.fill, hpl2, e1]
  rw [if_neg (by simp [l1]; omega)]
  have h5 := foldl_setSeg es 0 off cs (by omega)
  simp only [Nat.add_zero] at h5
  rw [← r1]
  congr 1
  rw [← h5]; simp⟩
theorem PartsC.hd {p : Operand} {ps : List (Nat × Operand)} {τ : Ty} {bt : Nat} {C C1 C' : Ct} [F : TFld P t f u off] [T : TEl P u (List β) instList bt] [hp : Has Γ p τ] [oc : OneC τ] (c : CtH C off τ C1) (r : PartsC P t Γ ps C1 C') :
    PartsC P t Γ ((f, p) :: ps) C C' := ⟨fun a A w ha fs places cs hu hm hr => by
  obtain ⟨fs', fl, g1, g2, g3, g4⟩ := F.h
  rw [hu] at g1
  injection g1 with g1; injection g1 with g1; subst g1
  have hv := hp.le a A w fun k e => ha k (by simp [e])
  obtain ⟨e1, e2⟩ := oc.h hv
  obtain ⟨ti, z, i1, i2, i3, i4, i5⟩ := T.h
  have i3 : ti.size = 1 := i3
  have hpl : places[f]? = some (off, 1) := by
    have := mapM_at hm f fl (by simpa using g2)
    rw [← this, g3, g4, i1, Option.map_some, i3]
  obtain ⟨l3, k2⟩ := c.h hr hv
  obtain ⟨cs', r1, r2⟩ := r.h a A w (fun k hk => ha k (List.mem_cons_of_mem _ hk)) fs places _ hu hm k2
  refine ⟨cs', ?_, r2⟩
  have hpl2 : places.toArray[f]? = some (off, 1) := by simpa using hpl
  simp only [List.map_cons, Instr.fill, hpl2, e1]
  rw [if_neg (by simp; omega)]
  rw [← r1]
  congr 1
  simp⟩
theorem OpY.buildC {parts : Array (Nat × Operand)} {ps : List (Nat × Operand)} {bt : Nat} {C : Ct} [T : TEl P t α i bt] (hps : parts = ps.toArray) (hu : ∃ fs, P.underlying t = some (.struct fs) ∧ (fs.toList.mapM (fun f => (P.info? f.type).map fun i => (f.offset, i.size))).isSome = true)
    (h : PartsC P t Γ ps (One (Dat.z : α)) C) : OpY P B0 A Ω Γ ⟨dst, .build t parts, ty, pos, aft, gd⟩ (VC C) :=
  OpY.val fun a w hl => by
    subst hps
    obtain ⟨fs, u1, u2⟩ := hu
    obtain ⟨places, u2⟩ := Option.isSome_iff_exists.1 u2
    obtain ⟨ti, z, i1, i2, i3, i4, i5⟩ := T.h
    obtain ⟨cs', r1, r2⟩ := h.h a A w (fun k hk => hl k (by simp only [Op.operands]; simpa using hk)) fs places _ u1 u2 Dat.zrd
    refine ⟨.agg cs'.toArray, ?_, cs', r2, rfl⟩
    have hb : P.built t ((ps.toArray.map fun (i, x) => (i, a.eval x)).toList) = some cs'.toArray := by
      unfold Program.built
      rw [i1, u1]
      simp only [i2, u2, i5]
      simpa using r1
    simp only [execOp, Sem.run_bind, run_build w t _ cs'.toArray hb, Result.andThen_ok, Sem.run_pure]
end rd
section co
variable {P : Program} {r : Ref} {n : Nat} {Γ : Env} {Ω Ω1 Ω2 : List Pe} {Q : Exit → Act → World → Prop} {ops : Array Oper} {k : Nat} {rest : List Oper} {α : Type} {i : Dat α}
theorem Stt.coll {b0 b o m : Nat} {pr0 pr : Prop} {C C' D0 : Ct} {τ : Ty} {xs : List α} [op : Opens r] [p0 : Pick Ω b0 pr0 C Ω1] [p1 : Pick Ω1 b pr D0 Ω2] {a : Act} {w : World}
    (hC : ∀ {A A' : Nat → Prop} {w cs}, Keep A A' w w → (∀ v, τ.p A w v → (D xs).p A' w v) → C.p A w cs → C'.p A' w cs) (hx : PubC D0 b pr τ (D xs)) (h : Stt r n Γ Ω a w) : Stt r n Γ (⟨b0, pr0, C'⟩ :: Ω2) a w := by
  have h := (h.less (Less.perm p0.perm)).less (Less.cons (Less.perm p1.perm))
  have hl : Less (⟨b0, pr0, C⟩ :: ⟨b, pr, D0⟩ :: Ω2) (⟨b0, pr0, C⟩ :: Ω2) := Less.cons (Less.drop (Less.refl _))
  have h2 := h.less hl
  have hown : ∀ k, Own (⟨b0, pr0, C'⟩ :: Ω2) k ↔ Own (⟨b0, pr0, C⟩ :: Ω2) k := fun k => by
    constructor
    · rintro ⟨e, he, h1, h2⟩
      rcases List.mem_cons.1 he with rfl | he
      · exact ⟨_, List.mem_cons_self .., h1, h2⟩
      · exact ⟨e, List.mem_cons_of_mem _ he, h1, h2⟩
    · rintro ⟨e, he, h1, h2⟩
      rcases List.mem_cons.1 he with rfl | he
      · exact ⟨_, List.mem_cons_self .., h1, h2⟩
      · exact ⟨e, List.mem_cons_of_mem _ he, h1, h2⟩
  have hpub : Pub r.A (⟨b0, pr0, C'⟩ :: Ω2) = Pub r.A (⟨b0, pr0, C⟩ :: Ω2) := by
    funext k; exact propext (by rw [Pub_own, Pub_own, hown])
  have hk : Keep (Pub r.A (⟨b0, pr0, C⟩ :: ⟨b, pr, D0⟩ :: Ω2)) (Pub r.A (⟨b0, pr0, C⟩ :: Ω2)) w w := Keep.mono fun j _ hj => Pub_own.2 ⟨(Pub_own.1 hj).1, fun ho => (Pub_own.1 hj).2 (hl.own j ho)⟩
  refine ⟨h2.sz, h2.df, h2.mu, by rw [hpub]; exact h2.ty, ⟨fun j hj => h2.pv.own j ((hown j).1 hj), ?_, List.pairwise_cons.2 ⟨fun f hf h1 h3 => (List.pairwise_cons.1 h2.pv.ap).1 f hf h1 h3, (List.pairwise_cons.1 h2.pv.ap).2⟩⟩⟩
  rw [hpub]
  intro e he hp
  rcases List.mem_cons.1 he with rfl | he
  · obtain ⟨cs, g1, g2⟩ := h.pv.ks ⟨b0, pr0, C⟩ (List.mem_cons_self ..) hp
    refine ⟨cs, g1, hC hk (fun v hv => hx _ w v (fun hpr => ?_) (τ.keep hk hv)) g2⟩
    obtain ⟨cs', g3, g4⟩ := h.pv.ks ⟨b, pr, D0⟩ (List.mem_cons_of_mem _ (List.mem_cons_self ..)) hpr
    refine ⟨Pub_own.2 ⟨op.h b (h.pv.own b ⟨_, List.mem_cons_of_mem _ (List.mem_cons_self ..), hpr, rfl⟩), fun ⟨f, hf, hpf, hfb⟩ => ?_⟩, cs', g3, D0.keep hk g4⟩
    have ha := List.pairwise_cons.1 h.pv.ap
    rcases List.mem_cons.1 hf with rfl | hf
    · exact ha.1 _ (List.mem_cons_self ..) hpf hpr hfb
    · exact (List.pairwise_cons.1 ha.2).1 f hf hpr hpf hfb.symm
  · exact h2.pv.ks e (List.mem_cons_of_mem _ he) hp
theorem CtSet.coll {C C' : Ct} {o : Nat} {τ : Ty} {xs : List α} (c : CtSet C o (List α) instList xs C') : ∀ {A A' : Nat → Prop} {w cs}, Keep A A' w w → (∀ v, τ.p A w v → (D xs).p A' w v) → (C.mix o τ).p A w cs → C'.p A' w cs := fun {A A' w cs} hk hv ⟨cs0, v, h1, h2, h3, h4⟩ => by
  subst h4
  obtain ⟨es, h5, h6⟩ := hv v h3
  obtain ⟨-, g2⟩ := c.h (C.keep hk h1) h5
  have he : es = [v] := by
    have hl := Dat.len h5
    have h6 : v = es.getD 0 undef := h6
    obtain ⟨x, rfl⟩ : ∃ x, es = [x] := List.length_eq_one_iff.1 hl
    simp at h6; rw [h6]
  subst he
  have hs : setSeg cs0 o [v] = cs0.set o v := by
    refine getD_ext (by rw [setSeg_length (by simp; omega), List.length_set]) fun q hq => ?_; rw [setSeg_getD (by simp; omega)]
    simp only [List.getD_eq_getElem?_getD, List.length_singleton]
    by_cases hqo : q = o
    · subst hqo; rw [if_pos (by omega), List.getElem?_set_self h2]; simp
    · rw [if_neg (by omega), List.getElem?_set_ne (Ne.symm hqo)]
  rwa [hs] at g2
theorem TE.coll {e : Exit} (b0 b : Nat) {o : Nat} {pr0 pr : Prop} {C C' D0 : Ct} {τ : Ty} {xs : List α} [op : Opens r] [p0 : Pick Ω b0 pr0 (C.mix o τ) Ω1] [p1 : Pick Ω1 b pr D0 Ω2] (cs : CtSet C o (List α) instList xs C') (hx : PubC D0 b pr τ (D xs)) (h : TE r n Γ (⟨b0, pr0, C'⟩ :: Ω2) Q e) : TE r n Γ Ω Q e := fun a w hs => h a w (hs.coll (m := 0) (o := o) cs.coll hx)
theorem TS.coll (b0 b : Nat) {o : Nat} {pr0 pr : Prop} {C C' D0 : Ct} {τ : Ty} {xs : List α} [op : Opens r] [p0 : Pick Ω b0 pr0 (C.mix o τ) Ω1] [p1 : Pick Ω1 b pr D0 Ω2] (cs : CtSet C o (List α) instList xs C') (hx : PubC D0 b pr τ (D xs)) (h : TS P r n ops rest k Γ (⟨b0, pr0, C'⟩ :: Ω2) Q) : TS P r n ops rest k Γ Ω Q := fun hl a w hs => h hl a w (hs.coll (m := 0) (o := o) cs.coll hx)
end co
end Go.Proofs.Ytefmfhbkihplgaa.Tr
namespace Go.Proofs.Ytefmfhbkihplgaa.Tr
open Go Go.RowKit
structure Vec (α : Type) (n : Nat) where
  l : List α
  h : l.length = n
def Vec.put {α : Type} {n : Nat} (v : Vec α n) (k : Nat) (ys : List α) : Vec α n := if h : (splice v.l k ys).length = n then ⟨splice v.l k ys, h⟩ else v
end Go.Proofs.Ytefmfhbkihplgaa.Tr
namespace Go.Proofs.Ytefmfhbkihplgaa.Tr
open Go Go.RowKit
def ok64 (z : Int) : Option Int := if -9223372036854775808 ≤ z ∧ z ≤ 9223372036854775807 then some z else none
def addI (a b : Int) : Option Int := ok64 (a + b)
def subI (a b : Int) : Option Int := ok64 (a - b)
def mulI (a b : Int) : Option Int := ok64 (a * b)
def quoI (a b : Int) : Option Int := if 0 ≤ a ∧ 0 < b then some (a / b) else none
def remI (a b : Int) : Option Int := if 0 ≤ a ∧ 0 < b then some (a % b) else none
def cnt (s : Int) : Option Nat := if 0 ≤ s then some s.toNat else none
def cut (n : Nat) (l r : Int) : Option Unit := if 0 ≤ l ∧ l ≤ r ∧ r ≤ n then some () else none
def room (bt : Nat) (n : Int) : Option Unit := if 0 ≤ n ∧ n * bt ≤ 140737488355328 ∧ n ≤ 140737488351232 then some () else none
theorem ok64_some {z y : Int} (h : ok64 z = some y) : z = y ∧ -9223372036854775808 ≤ z ∧ z ≤ 9223372036854775807 := by
  unfold ok64 at h; split at h
  · injection h with h; exact ⟨h, ‹_›⟩
  · cases h
theorem cut_some {n : Nat} {l r : Int} {u : Unit} (h : cut n l r = some u) : 0 ≤ l ∧ l ≤ r ∧ r ≤ n := by
  unfold cut at h; split at h
  · rename_i hc; exact hc
  · cases h
theorem room_some {bt : Nat} {n : Int} {u : Unit} (h : room bt n = some u) : 0 ≤ n ∧ n * bt ≤ 140737488355328 ∧ n ≤ 140737488351232 := by
  unfold room at h; split at h
  · rename_i hc; exact hc
  · cases h
theorem cnt_some {s : Int} {k : Nat} (h : cnt s = some k) : 0 ≤ s ∧ s.toNat = k := by
  unfold cnt at h; split at h
  · injection h with h; exact ⟨‹_›, h⟩
  · cases h
section ops
variable {P : Program} {B0 : Nat} {A : Nat → Prop} {Ω : List Pe} {Γ : Env} {dst : Option Tmp} {ty : TypeId} {pos : String} {aft : Array Edge} {gd : Option (Nat × Bool)}
theorem OpY.toD {o : Oper} {τ σ : Ty} (h : τ.le σ) (k : OpY P B0 A Ω Γ o τ) : OpY P B0 A Ω Γ o σ := fun a w hB hu hp hl => by
  have := k a w hB hu hp hl
  generalize (execOp a.eval o).run P w = r at *
  cases r with
  | ok x w' =>
    cases x <;> simp only [Yields] at this ⊢
    case value v => exact ⟨this.1, h _ _ _ this.2⟩
    case skip => exact ⟨this.1, h _ _ _ this.2⟩
    case enter f args => exact ⟨this.1, this.2.mono fun e w'' ⟨v, h1, h2, h3⟩ => ⟨v, h1, h2, h _ _ _ h3⟩⟩
  | halt x w' => simp only [Yields] at this
section int
variable {x y : Operand} {τ σ : Ty} {t u : TypeId} {m k z : Int} [hsx : Has Γ x τ] [hx : AsI τ m] [hsy : Has Γ y σ] [hy : AsI σ k]
include hsx hx hsy hy
theorem OpD.add (h : addI m k = some z) : OpY P B0 A Ω Γ ⟨dst, .binOp .add t x y u, ty, pos, aft, gd⟩ (D z) := by
  obtain ⟨rfl, h1, h2⟩ := ok64_some h; exact OpY.toD (I_D h1 h2) (OpY.add h1 h2)
theorem OpD.sub (h : subI m k = some z) : OpY P B0 A Ω Γ ⟨dst, .binOp .sub t x y u, ty, pos, aft, gd⟩ (D z) := by
  obtain ⟨rfl, h1, h2⟩ := ok64_some h; exact OpY.toD (I_D h1 h2) (OpY.sub h1 h2)
theorem OpD.mul (h : mulI m k = some z) : OpY P B0 A Ω Γ ⟨dst, .binOp .mul t x y u, ty, pos, aft, gd⟩ (D z) := by
  obtain ⟨rfl, h1, h2⟩ := ok64_some h; exact OpY.toD (I_D h1 h2) (OpY.mul h1 h2)
end int
section intD
variable {x y : Operand} {τ σ : Ty} {t u : TypeId} {m k z : Int} [hsx : Has Γ x τ] [hx : ToD τ Int inferInstance m] [hsy : Has Γ y σ] [hy : ToD σ Int inferInstance k]
include hsx hx hsy hy
theorem evD2 {op : BinOp} {a : Act} {w : World} (hl : ∀ s, .tmp s ∈ (Op.binOp op t x y u).operands.toList → (Γ s).p A w (a.tmps.getD s undef)) :
    a.eval x = .int .i64 m ∧ a.eval y = .int .i64 k ∧ intIn m ∧ intIn k := by
  have h1 := hx.le _ _ _ (Has.ev (x := x) (τ := τ) (op := .binOp op t x y u) (by simp [Op.operands]) hl)
  have h2 := hy.le _ _ _ (Has.ev (x := y) (τ := σ) (op := .binOp op t x y u) (by simp [Op.operands]) hl)
  exact ⟨D_I _ _ _ h1, D_I _ _ _ h2, D.wf h1, D.wf h2⟩
theorem OpD.quo (h : quoI m k = some z) : OpY P B0 A Ω Γ ⟨dst, .binOp .quo t x y u, ty, pos, aft, gd⟩ (D z) := fun a w hB hu hp hl => by
  unfold quoI at h; split at h
  · rename_i hc
    injection h with h; subst h
    obtain ⟨e1, e2, hm, hk⟩ := evD2 (x := x) (y := y) (τ := τ) (σ := σ) (t := t) (u := u) (m := m) (k := k) (A := A) (op := .quo) hl
    have hd0 : 0 ≤ m / k := Int.ediv_nonneg hc.1 (by omega)
    have hd1 : m / k ≤ m := Int.ediv_le_self _ hc.1
    haveI : AsI τ m := ⟨hx.le.trans D_I⟩
    haveI : AsI σ k := ⟨hy.le.trans D_I⟩
    exact OpY.toD (I_D (by omega) (by have := hm.2; omega)) (OpY.quo (x := x) (y := y) (τ := τ) (σ := σ) (m := m) (k := k) hc.1 hm.2 hc.2) a w hB hu hp hl
  · cases h
theorem OpD.rem (h : remI m k = some z) : OpY P B0 A Ω Γ ⟨dst, .binOp .rem t x y u, ty, pos, aft, gd⟩ (D z) := fun a w hB hu hp hl => by
  unfold remI at h; split at h
  · rename_i hc
    injection h with h; subst h
    obtain ⟨e1, e2, hm, hk⟩ := evD2 (x := x) (y := y) (τ := τ) (σ := σ) (t := t) (u := u) (m := m) (k := k) (A := A) (op := .rem) hl
    have hd0 : 0 ≤ m % k := Int.emod_nonneg _ (by omega)
    have hd1 : m % k < k := Int.emod_lt_of_pos _ hc.2
    haveI : AsI τ m := ⟨hx.le.trans D_I⟩
    haveI : AsI σ k := ⟨hy.le.trans D_I⟩
    exact OpY.toD (I_D (by omega) (by have := hk.2; omega)) (OpY.rem (x := x) (y := y) (τ := τ) (σ := σ) (m := m) (k := k) hc.1 hc.2) a w hB hu hp hl
  · cases h
end intD
theorem OpD.min {x y : Operand} {τ σ : Ty} {ts : Array TypeId} {m k : Int} [hsx : Has Γ x τ] [hx : ToD τ Int inferInstance m] [hsy : Has Γ y σ] [hy : ToD σ Int inferInstance k] :
    OpY P B0 A Ω Γ ⟨dst, .call { callee := .builtin .min, args := #[x, y], argTypes := ts }, ty, pos, aft, gd⟩ (D (min m k)) := fun a w hB hu hp hl => by
  have h1 := D.wf (hx.le _ _ _ (Has.ev (x := x) (τ := τ) (op := .call { callee := .builtin .min, args := #[x, y], argTypes := ts }) (by simp [Op.operands, Call.operands]) hl))
  have h2 := D.wf (hy.le _ _ _ (Has.ev (x := y) (τ := σ) (op := .call { callee := .builtin .min, args := #[x, y], argTypes := ts }) (by simp [Op.operands, Call.operands]) hl))
  haveI : AsI τ m := ⟨hx.le.trans D_I⟩
  haveI : AsI σ k := ⟨hy.le.trans D_I⟩
  have h1 : intIn m := h1
  have h2 : intIn k := h2
  unfold intIn at h1 h2
  exact OpY.toD (I_D (by omega) (by omega)) (OpY.minI (x := x) (y := y) (τ := τ) (σ := σ) (m := m) (k := k)) a w hB hu hp hl
theorem OpD.max {x y : Operand} {τ σ : Ty} {ts : Array TypeId} {m k : Int} [hsx : Has Γ x τ] [hx : ToD τ Int inferInstance m] [hsy : Has Γ y σ] [hy : ToD σ Int inferInstance k] :
    OpY P B0 A Ω Γ ⟨dst, .call { callee := .builtin .max, args := #[x, y], argTypes := ts }, ty, pos, aft, gd⟩ (D (max m k)) := fun a w hB hu hp hl => by
  have h1 := D.wf (hx.le _ _ _ (Has.ev (x := x) (τ := τ) (op := .call { callee := .builtin .max, args := #[x, y], argTypes := ts }) (by simp [Op.operands, Call.operands]) hl))
  have h2 := D.wf (hy.le _ _ _ (Has.ev (x := y) (τ := σ) (op := .call { callee := .builtin .max, args := #[x, y], argTypes := ts }) (by simp [Op.operands, Call.operands]) hl))
  haveI : AsI τ m := ⟨hx.le.trans D_I⟩
  haveI : AsI σ k := ⟨hy.le.trans D_I⟩
  have h1 : intIn m := h1
  have h2 : intIn k := h2
  unfold intIn at h1 h2
  exact OpY.toD (I_D (by omega) (by omega)) (OpY.maxI (x := x) (y := y) (τ := τ) (σ := σ) (m := m) (k := k)) a w hB hu hp hl
theorem OpD.len {t e : TypeId} {x : Operand} {τ : Ty} {α : Type} {i : Dat α} {xs : List α} [hsx : Has Γ x τ] [hx : AsL τ α i xs] [S : TSl P t e] :
    OpY P B0 A Ω Γ ⟨dst, .call { callee := .builtin .len, args := #[x], argTypes := #[t] }, ty, pos, aft, gd⟩ (D (xs.length : Int)) := fun a w hB hu hp hl => by
  have h1 := (D.wf (hx.le _ _ _ (Has.ev (x := x) (τ := τ) (op := .call { callee := .builtin .len, args := #[x], argTypes := #[t] }) (by simp [Op.operands, Call.operands]) hl))).1
  have h1 : xs.length ≤ most := h1
  unfold most at h1
  exact OpY.toD (I_D (by omega) (by omega)) (OpY.len (x := x) (τ := τ) (xs := xs)) a w hB hu hp hl
theorem OpD.lenNil {t e : TypeId} {x : Operand} [hsx : Has Γ x NilS] [S : TSl P t e] :
    OpY P B0 A Ω Γ ⟨dst, .call { callee := .builtin .len, args := #[x], argTypes := #[t] }, ty, pos, aft, gd⟩ (D (0 : Int)) :=
  OpY.toD (I_D (by omega) (by omega)) OpY.lenNil
theorem OpD.lenSv {t e : TypeId} {x : Operand} {τ : Ty} {b o m n : Nat} {pr : Prop} [hsx : Has Γ x τ] [ka : AsSv τ b pr o m] [S : TSl P t e] (hn : m = n) :
    OpY P B0 A Ω Γ ⟨dst, .call { callee := .builtin .len, args := #[x], argTypes := #[t] }, ty, pos, aft, gd⟩ (D (n : Int)) := fun a w hB hu hp hl => by
  subst hn
  have h := ka.le _ _ _ (Has.ev (x := x) (τ := τ) (op := .call { callee := .builtin .len, args := #[x], argTypes := #[t] }) (by simp [Op.operands, Call.operands]) hl)
  have h1 : m ≤ 9223372036854775807 := by
    rcases h with ⟨_, o', c, _, h2, _⟩ | ⟨_, h2, _⟩
    · unfold maxLen at h2; omega
    · omega
  exact OpY.toD (I_D (by omega) (by omega)) (OpY.lenSv (x := x) (τ := τ) (b := b) (o := o) (m := m) (pr := pr)) a w hB hu hp hl
section cv
variable {s d : TypeId} {x : Operand} {τ : Ty} [hsx : Has Γ x τ]
include hsx
theorem OpD.conv8_i {m : UInt8} [hx : AsU8 τ m] [S : TIn P s .u8] [T : TIn P d .i64] : OpY P B0 A Ω Γ ⟨dst, .convert s d x, ty, pos, aft, gd⟩ (D (m.toNat : Int)) := OpY.toD (I_D (by omega) (by have := natU8 m; omega)) OpY.conv8_i
theorem OpD.conv64_i {m : UInt64} {z : Int} [hx : AsU64 τ m] [S : TIn P s .u64] [T : TIn P d .i64] (h : ok64 m.toNat = some z) : OpY P B0 A Ω Γ ⟨dst, .convert s d x, ty, pos, aft, gd⟩ (D z) := by
  obtain ⟨rfl, h1, h2⟩ := ok64_some h; exact OpY.toD (I_D h1 h2) (OpY.conv64_i (by omega))
end cv
instance {n : Int} : AsCnt (D n) n := ⟨fun A w v h => ⟨.i64, D_I _ _ _ h⟩⟩
section sl
variable {t e : TypeId} {x y z : Operand} {τ σ ρ : Ty} {α : Type} {i : Dat α} {xs : List α} {l r : Int} {u : Unit}
theorem OpD.index [Has Γ x τ] [hx : AsL τ α i xs] [Has Γ y σ] [hy : AsIx σ l] [S : TSl P t e] [T : TDat P e α i] {v : α} (h : idx xs l = some v) : OpY P B0 A Ω Γ ⟨dst, .indexAddr t x y, ty, pos, aft, gd⟩ (PtrD v) :=
  OpY.indexAddr (idx_some h).1 (idx_some h).2
theorem OpD.slice2 [hsx : Has Γ x τ] [hx : AsL τ α i xs] [hsy : Has Γ y σ] [hy : AsI σ l] [hsz : Has Γ z ρ] [hz : AsI ρ r] [S : TSl P t e] [T : TDat P e α i] (h : cut xs.length l r = some u) :
    OpY P B0 A Ω Γ ⟨dst, .slice t x (some y) (some z) none, ty, pos, aft, gd⟩ (D ((xs.take r.toNat).drop l.toNat)) := by
  obtain ⟨h1, h2, h3⟩ := cut_some h; exact OpY.slice2 h1 h2 h3
theorem OpD.sliceTo [hsx : Has Γ x τ] [hx : AsL τ α i xs] [hsz : Has Γ z ρ] [hz : AsI ρ r] [S : TSl P t e] [T : TDat P e α i] (h : cut xs.length 0 r = some u) :
    OpY P B0 A Ω Γ ⟨dst, .slice t x none (some z) none, ty, pos, aft, gd⟩ (D (xs.take r.toNat)) := by
  obtain ⟨h1, h2, h3⟩ := cut_some h; exact OpY.sliceTo h2 h3
theorem OpD.sliceFrom [hsx : Has Γ x τ] [hx : AsL τ α i xs] [hsy : Has Γ y σ] [hy : AsI σ l] [S : TSl P t e] [T : TDat P e α i] (h : cut xs.length l xs.length = some u) :
    OpY P B0 A Ω Γ ⟨dst, .slice t x (some y) none none, ty, pos, aft, gd⟩ (D (xs.drop l.toNat)) := by
  obtain ⟨h1, h2, h3⟩ := cut_some h; exact OpY.sliceFrom h1 h2
end sl
end ops
theorem room_app {bt m k : Nat} {u : Unit} (h : room bt ((m + k : Nat) : Int) = some u) : (m + k) * bt ≤ 140737488355328 ∧ m + k ≤ most := by
  obtain ⟨h1, h2, h3⟩ := room_some h
  rw [← Int.natCast_mul] at h2
  unfold most
  exact ⟨by omega, by omega⟩
theorem room_make {bt : Nat} {n : Int} {u : Unit} (h : room bt n = some u) : 0 ≤ n ∧ bt * n.toNat ≤ 281474976710656 ∧ n ≤ 140737488351232 := by
  obtain ⟨h1, h2, h3⟩ := room_some h
  refine ⟨h1, ?_, h3⟩
  have : ((bt * n.toNat : Nat) : Int) ≤ 281474976710656 := by rw [Int.natCast_mul, Int.toNat_of_nonneg h1, Int.mul_comm]; omega
  omega
end Go.Proofs.Ytefmfhbkihplgaa.Tr
namespace Go.Proofs.Ytefmfhbkihplgaa.Tr
open Go Go.RowKit
def Pq (b o : Nat) (pr : Prop) : Ty := ⟨fun _ _ v => pr ∧ v = .pointer (some ⟨b, o, none⟩), fun _ h => h⟩
class AsPq (τ : Ty) (b o : outParam Nat) (pr : outParam Prop) : Prop where
  le : τ.le (Pq b o pr)
instance {b o : Nat} {pr : Prop} : AsPq (Pq b o pr) b o pr := ⟨Ty.le.refl _⟩
instance {b o : Nat} : AsPq (Pt b o) b o True := ⟨fun _ _ _ h => ⟨trivial, h⟩⟩
instance {p : Prop} {τ : Ty} {b o : Nat} {pr : Prop} [h : Ft p] [k : AsPq τ b o pr] : AsPq (Cond p τ) b o pr := ⟨fun A w v x => k.le A w v (x.1 h.h)⟩
section ops
variable {P : Program} {B0 : Nat} {A : Nat → Prop} {Ω Ωs Ωr : List Pe} {Γ : Env} {dst : Option Tmp} {ty : TypeId} {pos : String} {aft : Array Edge} {gd : Option (Nat × Bool)}
variable {α β : Type} {i : Dat α} {j : Dat β} {t u e : TypeId} {f off : Nat} {get : α → β} {set : β → α → α} {upd : α → Ct}
instance {b o : Nat} {pr : Prop} : FaP (Pq b o pr) α off β (Pq b (o + off) pr) := ⟨fun h => ⟨b, o, h.2, h.1, rfl⟩⟩
theorem OpD.ldq {x : Operand} {τ : Ty} {b o : Nat} {pr : Prop} {C : Ct} {v : α} [hx : Has Γ x τ] [q : AsPq τ b o pr] [T : TDat P t α i] [hb : HasB Ω b pr C] (p : Pl C o α i v upd) : OpY P B0 A Ω Γ ⟨dst, .load t x, ty, pos, aft, gd⟩ (D v) :=
  OpY.ldBy (τ := τ) ⟨fun {A w u} hk hv => by
    obtain ⟨h1, h2⟩ := q.le _ _ _ hv
    obtain ⟨cs, g1, g2⟩ := hk _ hb.h h1
    obtain ⟨g3, g4⟩ := p.rd.h g2
    exact ⟨b, o, _, h2, g1.row g3, g4⟩⟩
theorem OpD.ldHq {x : Operand} {τ0 : Ty} {b o : Nat} {pr : Prop} {C : Ct} {τ : Ty} [hx : Has Γ x τ0] [q : AsPq τ0 b o pr] [hb : HasB Ω b pr C] [T : TDat P t (List α) instList] (c : CeH C o τ) : OpY P B0 A Ω Γ ⟨dst, .load t x, ty, pos, aft, gd⟩ τ := fun a w hB hu hp hl => by
  obtain ⟨hpr, e1⟩ := q.le _ _ _ (Has.ev (x := x) (τ := τ0) (op := .load t x) (by simp [Op.operands]) hl)
  obtain ⟨cs, g1, g2⟩ := hp _ hb.h hpr
  obtain ⟨k1, k2⟩ := c.h g2
  have hag : (isAgg t).run P w = .ok false w := T.ag w
  have : (loadVar t ⟨b, o, none⟩).run P w = .ok (cs.getD o undef) w := by
    unfold loadVar
    rw [Sem.run_bind, hag]
    simp only [Result.andThen_ok, Bool.false_eq_true, if_false]
    have hc := g1.cell k1
    rw [run_load, hc]
  simp only [execOp, Instr.loadAt, e1, Instr.sureAddr, Sem.run_bind, Sem.run_pure, Result.andThen_ok, this]
  exact ⟨Grow.refl _ _, k2⟩
theorem OpD.indexq [S : TSl P t e] [T : TDat P e α i] {x y : Operand} {τ σ : Ty} {b o m : Nat} {pr : Prop} {k : Int} [hx : Has Γ x τ] [ka : AsSv τ b pr o m] [Has Γ y σ] [hy : AsIx σ k] (h0 : 0 ≤ k ∧ k < m) :
    OpY P B0 A Ω Γ ⟨dst, .indexAddr t x y, ty, pos, aft, gd⟩ (Pq b (o + k.toNat * Dat.sz α) pr) :=
  OpY.val fun a w hl => by
    have h := ka.le _ _ _ (Has.ev (x := x) (τ := τ) (op := .indexAddr t x y) (by simp [Op.operands]) hl)
    obtain ⟨kd, e2⟩ := hy.h (Has.ev (x := y) (τ := σ) (op := .indexAddr t x y) (by simp [Op.operands]) hl)
    rcases h with ⟨hp, o', c, e1, _, ho⟩ | ⟨_, h2, e1⟩
    · obtain rfl := ho (by omega)
      refine ⟨_, ?_, hp, rfl⟩
      have hin : 0 ≤ k ∧ k < (m : Int) := h0
      simp only [execOp, e1, e2, Instr.indexAt, asIntOf, Sem.run_bind, Sem.run_pure, Result.andThen_ok, run_underlying S.h, hin, and_self, if_true, T.sz, addr_add]
    · omega
theorem OpT.storeq {b o : Nat} {pr : Prop} {C : Ct} {p x : Operand} {τ σ : Ty} {v y : α} [hp : Has Γ p τ] [q : AsPq τ b o pr] [pk : Pick Ω b pr C Ωr] [hx : Has Γ x σ] [T : TDat P t α i] [hy : ToD σ α i y] (pl : Pl C o α i v upd) :
    OpT P B0 Ωs Ω Γ ⟨none, .store t p x, ty, pos, aft, none⟩ (fun _ : Unit => Ty.any) fun _ => ⟨b, pr, upd y⟩ :: Ωr :=
  OpT.wr (C := C) rfl fun A a w hk hl => by
    obtain ⟨hpr, e1⟩ := q.le _ _ _ (Has.ev (x := p) (τ := τ) (op := .store t p x) (by simp [Op.operands]) hl)
    have h2 := hy.le _ _ _ (Has.ev (x := x) (τ := σ) (op := .store t p x) (by simp [Op.operands]) hl)
    obtain ⟨cs, g1, g2⟩ := hk ⟨b, pr, C⟩ (List.mem_append_right _ (pk.perm.mem_iff.2 (List.mem_cons_self ..))) hpr
    obtain ⟨ds0, -, r0⟩ := D_cells h2
    obtain ⟨w', ds, k1, k2, k3, k4, k5⟩ := run_storeVar (P := P) (t := t) g1 ((pl.st y).h g2 r0).1 h2
    refine ⟨undef, fun _ _ => trivial, .inr ⟨hpr, w', cs, _, .inr ⟨?_, rfl⟩, g1, k3, k4, ((pl.st y).h g2 k2).2⟩⟩
    simp only [execOp, Instr.storeAt, e1, Instr.sureAddr, Sem.run_bind, Sem.run_pure, Result.andThen_ok, k1]
theorem OpT.storeHq {b o : Nat} {pr : Prop} {C C' : Ct} {p x : Operand} {τ σ : Ty} [hp : Has Γ p τ] [q : AsPq τ b o pr] [pk : Pick Ω b pr C Ωr] [hx : Has Γ x σ] [T : TDat P t (List α) instList] [oc : OneC σ] (c : CtH C o σ C') :
    OpT P B0 Ωs Ω Γ ⟨none, .store t p x, ty, pos, aft, none⟩ (fun _ : Unit => Ty.any) fun _ => ⟨b, pr, C'⟩ :: Ωr :=
  OpT.wr (C := C) rfl fun A a w hk hl => by
    obtain ⟨hpr, e1⟩ := q.le _ _ _ (Has.ev (x := p) (τ := τ) (op := .store t p x) (by simp [Op.operands]) hl)
    have h2 := Has.ev (x := x) (τ := σ) (op := .store t p x) (by simp [Op.operands]) hl
    obtain ⟨cs, g1, g2⟩ := hk ⟨b, pr, C⟩ (List.mem_append_right _ (pk.perm.mem_iff.2 (List.mem_cons_self ..))) hpr
    obtain ⟨h3, h4⟩ := oc.h h2
    obtain ⟨k1, k2⟩ := c.h g2 h2
    have hs : setSeg cs o [a.eval x] = cs.set o (a.eval x) := by
      refine getD_ext (by rw [setSeg_length (by simp; omega), List.length_set]) fun q hq => ?_; rw [setSeg_getD (by simp; omega)]
      simp only [List.getD_eq_getElem?_getD, List.length_singleton]
      by_cases hqo : q = o
      · subst hqo; rw [if_pos (by omega), List.getElem?_set_self k1]; simp
      · rw [if_neg (by omega), List.getElem?_set_ne (Ne.symm hqo)]
    obtain ⟨w', r1, r2, r3, r4⟩ := run_storeCells' (P := P) g1 (o := o) (vs := [a.eval x]) (by simp; omega) (by simp [h4])
    refine ⟨undef, fun _ _ => trivial, .inr ⟨hpr, w', cs, _, .inr ⟨?_, rfl⟩, g1, r2, r3, by rw [hs]; exact k2⟩⟩
    have hsz : (sizeOf t).run P w = .ok 1 w := T.sz w
    simp only [execOp, Instr.storeAt, e1, Instr.sureAddr, Sem.run_bind, Sem.run_pure, Result.andThen_ok, storeVar, hsz, h3]
    simp [r1]
theorem PubC.pq {C : Ct} {b o : Nat} {pr : Prop} {τ : Ty} {x : α} [q : AsPq τ b o pr] (p : Pl C o α i x upd) : PubC C b pr τ (PtrD x) := fun A w v hb h => by
  obtain ⟨hp, h2⟩ := q.le _ _ _ h
  obtain ⟨ha, cs, g1, g2⟩ := hb hp
  obtain ⟨e1, e2⟩ := p.rd.h g2
  exact ⟨b, o, _, h2, ha, g1.row e1, e2⟩
end ops
theorem idx_in {α : Type} {xs : List α} {k : Int} {x : α} {m : Nat} (h : idx xs k = some x) (hm : m = xs.length) : 0 ≤ k ∧ k < m := by rw [hm]; exact idx_lt h
theorem PlS.all {α : Type} {i : Dat α} {xs : List α} {c : Nat} : PlS (Row xs c) 0 α i xs fun ys => Row (splice xs 0 ys) c := by
  have := PlS.row0 (i := i) (xs := xs) (c := c) (n := xs.length) (Nat.le_refl _)
  rwa [List.take_of_length_le (Nat.le_refl _)] at this
theorem cut_row {m : Nat} {n : Nat} {l r : Int} {u : Unit} (h : cut n l r = some u) (hm : m = n) : 0 ≤ l ∧ l ≤ r ∧ r ≤ m := by rw [hm]; exact cut_some h
end Go.Proofs.Ytefmfhbkihplgaa.Tr
namespace Go.Proofs.Ytefmfhbkihplgaa.Tr
open Go Go.RowKit
section ts
variable {P : Program} {r : Ref} {n : Nat} {ops : Array Oper} {k : Nat} {rest : List Oper} {Γ : Env} {Ω Ωr : List Pe} {Q : Exit → Act → World → Prop} [op : Opens r]
variable {d : Tmp} {ty : TypeId} {pos : String} {aft : Array Edge} {α : Type} {i : Dat α} {t e : TypeId} {bt : Nat}
theorem TS.box {x : Operand} {τ : Ty} {y : α} [T : TDat P t α i] [hx : Has Γ x τ] [hy : ToD τ α i y] (hd : Nat.blt d n = true)
    (hk : ∀ b, TS P r n ops rest (k + 1) (Γ.set d (Pt b 0)) (⟨b, True, One y⟩ :: Ω) Q) : TS P r n ops (⟨some d, .box t x, ty, pos, aft, none⟩ :: rest) k Γ Ω Q :=
  TS.t OpT.box hd fun g => hk g.1
theorem TS.alloc [T : TEl P t α i bt] (hd : Nat.blt d n = true)
    (hk : ∀ b, TS P r n ops rest (k + 1) (Γ.set d (Pt b 0)) (⟨b, True, One (Dat.z : α)⟩ :: Ω) Q) : TS P r n ops (⟨some d, .alloc t, ty, pos, aft, none⟩ :: rest) k Γ Ω Q :=
  TS.t (OpT.alloc (by obtain ⟨ti, z, h1, h2, _, _, h3⟩ := T.h; exact ⟨ti, z, h1, h2, h3⟩)) hd fun g => hk g.1
theorem TS.build [S : TSl P t e] [T : TEl P e α i bt] {m : Nat} {parts : Array (Nat × Operand)} (xs : List Operand) {ys : List α} [h : HasAll Γ xs α i ys]
    (hp : parts = (xs.zipIdx.map fun p => (p.2, p.1)).toArray) (hn : xs.length = m) (hs : m * Dat.sz α ≤ 16777216) (hd : Nat.blt d n = true)
    (hk : ∀ b, TS P r n ops rest (k + 1) (Γ.set d (Sl b True 0 ys.length ys.length)) (⟨b, True, Row ys ys.length⟩ :: Ω) Q) : TS P r n ops (⟨some d, .buildSlice t m parts, ty, pos, aft, none⟩ :: rest) k Γ Ω Q :=
  TS.t (OpT.buildSlice xs hp hn hs) hd fun g => hk g.1
theorem TS.make [S : TSl P t e] [T : TEl P e α i bt] {x y : Operand} {τ σ : Ty} {m q : Int} {u : Unit} [hx : Has Γ x τ] [kx : AsI τ m] [hy : Has Γ y σ] [kk : AsI σ q] (h0 : room bt q = some u) (hm : 0 ≤ m ∧ m ≤ q) (hd : Nat.blt d n = true)
    (hk : ∀ b, TS P r n ops rest (k + 1) (Γ.set d (Sl b True 0 m.toNat q.toNat)) (⟨b, True, Row (List.replicate q.toNat (Dat.z (α := α))) q.toNat⟩ :: Ω) Q) : TS P r n ops (⟨some d, .makeSlice t x y, ty, pos, aft, none⟩ :: rest) k Γ Ω Q :=
  TS.t (OpT.makeSlice hm.1 hm.2 (room_make h0).2.1 (room_make h0).2.2) hd fun g => hk g.1
theorem TS.app [S : TSl P t e] [T : TEl P e α i bt] {s x : Operand} {σ : Ty} {b m c c' : Nat} {pr : Prop} {xs ys : List α} {u : Unit} [hs : Has Γ s (Sl b pr 0 m c')] [sp : Pick Ω b pr (Row xs c) Ωr] [hx : Has Γ x σ] (hl : SrcOf Ω σ α i ys)
    (hr : room bt ((xs.length + ys.length : Nat) : Int) = some u) (hc : c' = c) (hm : m = xs.length) (hd : Nat.blt d n = true)
    (hk : ∀ b pr c, TS P r n ops rest (k + 1) (Γ.set d (Sl b pr 0 (xs ++ ys).length c)) (⟨b, pr, Row (xs ++ ys) c⟩ :: Ωr) Q) : TS P r n ops (⟨some d, .call { callee := .builtin .append, args := #[s, x], argTypes := #[t, t] }, ty, pos, aft, none⟩ :: rest) k Γ Ω Q :=
  TS.t (OpT.append hl hc hm (room_app hr).1 (room_app hr).2) hd fun g => hk g.1 g.2.1 g.2.2
theorem TS.u {gd : Option (Nat × Bool)} {o : Op} {τ : Ty} {Ω' : List Pe} (h : OpT P r.w.heap.size [] Ω Γ ⟨some d, o, ty, pos, aft, gd⟩ (fun _ : Unit => τ) fun _ => Ω') (hd : Nat.blt d n = true) (hk : TS P r n ops rest (k + 1) (Γ.set d τ) Ω' Q) : TS P r n ops (⟨some d, o, ty, pos, aft, gd⟩ :: rest) k Γ Ω Q :=
  TS.t h hd fun _ => hk
theorem TS.un {gd : Option (Nat × Bool)} {o : Op} {τ : Ty} {Ω' : List Pe} (h : OpT P r.w.heap.size [] Ω Γ ⟨none, o, ty, pos, aft, gd⟩ (fun _ : Unit => τ) fun _ => Ω') (hk : TS P r n ops rest (k + 1) Γ Ω' Q) : TS P r n ops (⟨none, o, ty, pos, aft, gd⟩ :: rest) k Γ Ω Q :=
  TS.tn h fun _ => hk
end ts
section cut
variable {P : Program} {r : Ref} {n : Nat} {Γ : Env} {Ω Ωr : List Pe} {Q : Exit → Act → World → Prop}
def CutQ {σ ν : Type} (r : Ref) (n : Nat) (p : σ → Prop) (Δ : σ → ν → Env) (J : σ → ν → List Pe) (Q : Exit → Act → World → Prop) : Exit → Act → World → Prop
  | .normal, a, w => ∃ s m, p s ∧ Stt r n (Δ s m) (J s m) a w
  | e, a, w => Q e a w
theorem TC.cutP {σ ν : Type} {c : Code} (p : σ → Prop) (Δ : σ → ν → Env) (J : σ → ν → List Pe) (h : TC P r n Γ Ω c (CutQ r n p Δ J Q)) (k : ∀ s m, p s → TE r n (Δ s m) (J s m) Q .normal) : TC P r n Γ Ω c Q := fun a w hs => wpIn_mono (h a w hs) fun e a' w' hq => by
  cases e with
  | normal => obtain ⟨s, m, h1, h2⟩ := hq; exact k s m h1 a' w' h2
  | _ => exact hq
theorem TE.cutP {σ ν : Type} {p : σ → Prop} {Δ : σ → ν → Env} {J : σ → ν → List Pe} (s : σ) (m : ν) (hp : p s) (h : Γ.le (Δ s m)) (j : Less Ω (J s m)) : TE r n Γ Ω (CutQ r n p Δ J Q) .normal :=
  fun _ _ hs => ⟨s, m, hp, (hs.le h).less j⟩
theorem TE.cut_ret {σ ν : Type} {p : σ → Prop} {Δ : σ → ν → Env} {J : σ → ν → List Pe} (h : TE r n Γ Ω Q .ret) : TE r n Γ Ω (CutQ r n p Δ J Q) .ret := h
theorem TC.nmB {c : Code} (b : Nat) {pr : Prop} {C C' : Ct} [pk : Pick Ω b pr C Ωr] (h : C = C') (k : TC P r n Γ (⟨b, pr, C'⟩ :: Ωr) c Q) : TC P r n Γ Ω c Q := fun a w hs => k a w (by subst h; exact hs.less (Less.perm pk.perm))
theorem TE.nmB {e : Exit} (b : Nat) {pr : Prop} {C C' : Ct} [pk : Pick Ω b pr C Ωr] (h : C = C') (k : TE r n Γ (⟨b, pr, C'⟩ :: Ωr) Q e) : TE r n Γ Ω Q e := fun a w hs => k a w (by subst h; exact hs.less (Less.perm pk.perm))
end cut
theorem nm_one {α : Type} {i : Dat α} {x y : α} (h : some x = some y) : One x = One y := by injection h with h; rw [h]
theorem nm_row {α : Type} {i : Dat α} {x y : List α} {c : Nat} (h : some x = some y) : Row x c = Row y c := by injection h with h; rw [h]
theorem nm_mix {C C' : Ct} {o : Nat} {τ : Ty} (h : C = C') : C.mix o τ = C'.mix o τ := by rw [h]
theorem nm_cv {τ : Ty} {α : Type} {i : Dat α} {x y : α} [k : ToD τ α i x] (h : some x = some y) : τ.le (D y) := by injection h with h; rw [← h]; exact k.le
theorem elS_l {α β γ : Type} {o : α ⊕ β} {s : α} {f : α → Option γ} {g : β → Option γ} {r : γ} (F : o = .inl s) (h : elS o f g = some r) : f s = some r := by subst F; exact h
theorem elS_r {α β γ : Type} {o : α ⊕ β} {q : β} {f : α → Option γ} {g : β → Option γ} {r : γ} (F : .inr q = o) (h : elS o f g = some r) : g q = some r := by subst F; exact h
instance negInt {n : Nat} [h : BoolIs (Nat.ble n 9223372036854775808) true] : Ft (intIn (-(no_index (OfNat.ofNat n)))) := ⟨by
  have := Nat.le_of_ble_eq_true h.h
  show intIn (-(n : Int))
  unfold intIn; omega⟩
instance Has.orL {Θ Γ : Env} {x : Operand} {τ : Ty} [h : Has Θ x τ] : Has (Env.or Θ Γ) x τ := ⟨fun a A w hl => h.le a A w fun t e => (hl t e).1⟩
instance (priority := 100) Has.orR {Θ Γ : Env} {x : Operand} {τ : Ty} [h : Has Γ x τ] : Has (Env.or Θ Γ) x τ := ⟨fun a A w hl => h.le a A w fun t e => (hl t e).2⟩
theorem nF {b : Bool} (h : b = false) : (!b) = true := by rw [h]; rfl
theorem aT {x y : Bool} (h : x = true) (k : y = true) : (x && y) = true := by rw [h, k]; rfl
instance ftAnd {p q : Prop} [h : Ft p] [k : Ft q] : Ft (p ∧ q) := ⟨⟨h.h, k.h⟩⟩
instance {p : Prop} {b want d : Bool} {τ : Ty} [h : Ft p] [k : AsB τ d] : AsBC (Cond (p ∧ b = want) τ) b want d := ⟨fun e A w v x => k.le A w v (x.1 ⟨h.h, e⟩)⟩
theorem toD {τ : Ty} {α : Type} {i : Dat α} {x : α} [k : ToD τ α i x] {A : Nat → Prop} {w : World} {v : Value} (h : τ.p A w v) : (D x).p A w v := k.le _ _ _ h
theorem RetO.pub1 {A : Nat → Prop} {w : World} {α : Type} {i : Dat α} {xs : List α} {e : Ending} {w' : World} (hA : ∀ k, w.heap.size ≤ k → A k)
    (h : RetO A w [] (fun g : Nat × Prop × Nat => Sl g.1 g.2.1 0 xs.length g.2.2) (fun g => [⟨g.1, g.2.1, Row xs g.2.2⟩]) e w') : Ret A w (D xs) e w' := by
  obtain ⟨v, ⟨b, pr, c⟩, h1, h2⟩ := h
  refine ⟨v, h1, ⟨h2.st.os, h2.st.tape, h2.st.output, h2.st.size, fun k hk => h2.st.old k hk fun ⟨e, he, _⟩ => absurd he (by simp), fun k hk => h2.st.cells k hk fun ⟨e, he, _⟩ => absurd he (by simp)⟩, ?_⟩
  refine PubC.sv (C := Row xs c) (b := b) (pr := pr) (τ := Sl b pr 0 xs.length c) PlS.all rfl A w' v (fun hp => ?_) (Ty.keep _ (Keep.mono fun k _ hk => (Pub_own.1 hk).1) h2.ty)
  obtain ⟨cs, g1, g2⟩ := h2.ks ⟨b, pr, Row xs c⟩ (by simp) hp
  refine ⟨?_, cs, g1, (Row xs c).keep (Keep.mono fun k _ hk => (Pub_own.1 hk).1) g2⟩
  rcases h2.nw b ⟨_, List.mem_singleton.2 rfl, hp, rfl⟩ with ⟨e, he, _⟩ | h
  · exact absurd he (by simp)
  · exact hA b h
theorem CtH.nil {C : Ct} {A : Nat → Prop} {w : World} {cs : List Value} {o b : Nat} (hc : C.p A w cs) (h : cs[o]? = some (.slice none 0 0)) : (C.mix o (Sl b False 0 0 0)).p A w cs := by
  obtain ⟨h1, h2⟩ := List.getElem?_eq_some_iff.1 h
  exact ⟨cs, .slice none 0 0, hc, h1, .inr ⟨fun h => h, rfl, rfl, rfl⟩, by rw [← h2]; simp⟩
theorem Less.pk {Ω Ωr Δ : List Pe} {b : Nat} {pr : Prop} {C C' : Ct} [h : Pick Ω b pr C Ωr] (e : C = C') (k : Less Ωr Δ) : Less Ω (⟨b, pr, C'⟩ :: Δ) := (Less.perm h.perm).trans (e ▸ Less.cons k)
end Go.Proofs.Ytefmfhbkihplgaa.Tr
namespace Go.Proofs.Ytefmfhbkihplgaa.Tr
open Go Go.RowKit
theorem Pl.rowz {α : Type} {i : Dat α} {xs : List α} {c : Nat} {k : Int} {x : α} (h : idx xs k = some x) : Pl (Row xs c) (0 + k.toNat * Dat.sz α) α i x fun y => Row (xs.set k.toNat y) c := by
  rw [Nat.zero_add]; exact Pl.row h
theorem nm_len {α : Type} {x y : List α} {m : Nat} (h : some x = some y) (hn : m = x.length) : m = y.length := by injection h with h; rw [← h]; exact hn
theorem nm_sl2 {α : Type} {b o c m : Nat} {pr : Prop} {x y : List α} (h : some x = some y) (hn : m = x.length) : (Sl b pr o m c).le (Sl b pr o y.length c) := by rw [nm_len h hn]; exact Ty.le.refl _
theorem mix_n {C : Ct} {o b q m n c : Nat} {pr : Prop} (e : m = n) : C.mix o (Sl b pr q m c) = C.mix o (Sl b pr q n c) := by rw [e]
theorem el2_mk {α β γ : Type} {a : α} {b : β} {f : α → β → Option γ} {r : γ} (h : el2 (a, b) f = some r) : f a b = some r := h
theorem el3_mk {α β γ δ : Type} {a : α} {b : β} {c : γ} {f : α → β → γ → Option δ} {r : δ} (h : el3 (a, b, c) f = some r) : f a b c = some r := h
theorem el4_mk {α β γ δ ε : Type} {a : α} {b : β} {c : γ} {d : δ} {f : α → β → γ → δ → Option ε} {r : ε} (h : el4 (a, b, c, d) f = some r) : f a b c d = some r := h
theorem cut_le {n : Nat} {l r : Int} {u : Unit} (h : cut n l r = some u) : l.toNat + (r - l).toNat ≤ n := by have := cut_some h; omega
theorem cut_le0 {n : Nat} {r : Int} {u : Unit} (h : cut n 0 r = some u) : r.toNat ≤ n := by have := cut_some h; omega
theorem cut_len {α : Type} {xs : List α} {n : Nat} {l r : Int} {u : Unit} (h : cut n l r = some u) (hn : xs.length = n) : (r - l).toNat = ((xs.drop l.toNat).take (r - l).toNat).length := by have := cut_some h; simp; omega
theorem cut_leF {α : Type} {xs : List α} {m : Nat} {l : Int} {u : Unit} (h : cut xs.length l xs.length = some u) (hm : m = xs.length) : l.toNat + ((m : Int) - l).toNat ≤ xs.length := by have := cut_some h; omega
theorem cut_lenF {α : Type} {xs : List α} {m : Nat} {l : Int} {u : Unit} (h : cut xs.length l xs.length = some u) (hm : m = xs.length) : ((m : Int) - l).toNat = ((xs.drop l.toNat).take ((m : Int) - l).toNat).length := by have := cut_some h; simp; omega
theorem PlS.rowz {α : Type} {i : Dat α} {xs : List α} {c k n : Nat} (h : k + n ≤ xs.length) : PlS (Row xs c) (0 + k * Dat.sz α) α i ((xs.drop k).take n) fun ys => Row (splice xs k ys) c := by
  rw [Nat.zero_add]; exact PlS.row h
theorem Vec.put_nil {α : Type} {n : Nat} {v : Vec α n} {k : Nat} : v.put k [] = v := by
  unfold Vec.put splice
  split
  · cases v; simp
  · rfl
theorem slD {b c m n : Nat} {pr : Prop} {A : Nat → Prop} {w : World} {v : Value} (e : m = n) (h : (Sl b pr 0 m c).p A w v) : (Sl b pr 0 n c).p A w v := e ▸ h
theorem VC_le {C C' : Ct} (h : ∀ A w cs, C.p A w cs → C'.p A w cs) : (VC C).le (VC C') := fun A w v ⟨cs, h1, h2⟩ => ⟨cs, h A w cs h1, h2⟩
theorem mix_nil {α : Type} {i : Dat α} {C C' : Ct} {o b m n c : Nat} {pr : Prop} (hs : CtSet C o (List α) instList [] C') (e : m = n) : ∀ A w cs, (C.mix o (Sl b pr 0 m c)).p A w cs → (C'.mix o (Sl b pr 0 n c)).p A w cs := fun A w cs ⟨cs0, v, h1, h2, h3, h4⟩ => by
  subst e
  have hz : Dat.rd A w [.slice none 0 0] ([] : List α) := ⟨none, 0, rfl, Nat.le_refl _, by unfold maxLen; omega, by unfold most; simp, fun i hi => absurd hi (by simp)⟩
  obtain ⟨-, g2⟩ := hs.h h1 hz
  have hss : setSeg cs0 o [Value.slice none 0 0] = cs0.set o (.slice none 0 0) := by
    refine getD_ext (by rw [setSeg_length (by simp; omega), List.length_set]) fun q hq => ?_; rw [setSeg_getD (by simp; omega)]
    simp only [List.getD_eq_getElem?_getD, List.length_singleton]
    by_cases hqo : q = o
    · subst hqo; rw [if_pos (by omega), List.getElem?_set_self h2]; simp
    · rw [if_neg (by omega), List.getElem?_set_ne (Ne.symm hqo)]
  rw [hss] at g2
  exact ⟨_, v, g2, by simpa using h2, h3, by rw [h4]; simp⟩
section ops
variable {P : Program} {B0 : Nat} {A : Nat → Prop} {Ω : List Pe} {Γ : Env} {dst : Option Tmp} {ty : TypeId} {pos : String} {aft : Array Edge} {gd : Option (Nat × Bool)}
def shr32 (m : UInt32) (s : Int) : UInt32 := UInt32.ofNat (m.toNat / 2 ^ s.toNat)
def shl64 (m : UInt64) (s : Int) : UInt64 := UInt64.ofNat (m.toNat * 2 ^ s.toNat)
def shr64 (m : UInt64) (s : Int) : UInt64 := UInt64.ofNat (m.toNat / 2 ^ s.toNat)
section
variable {x y : Operand} {τ σ : Ty} {t u : TypeId} {s : Int} [hsx : Has Γ x τ] [hsy : Has Γ y σ] [hy : AsCnt σ s]
include hsx hsy hy
theorem OpD.shr32 {m : UInt32} [hx : AsU32 τ m] (h : 0 ≤ s) : OpY P B0 A Ω Γ ⟨dst, .binOp .shr t x y u, ty, pos, aft, gd⟩ (U32 (Tr.shr32 m s)) := OpY.shr32 h
theorem OpD.shl64 {m : UInt64} [hx : AsU64 τ m] (h : 0 ≤ s) : OpY P B0 A Ω Γ ⟨dst, .binOp .shl t x y u, ty, pos, aft, gd⟩ (U64 (Tr.shl64 m s)) := OpY.shl64 h
theorem OpD.shr64 {m : UInt64} [hx : AsU64 τ m] (h : 0 ≤ s) : OpY P B0 A Ω Γ ⟨dst, .binOp .shr t x y u, ty, pos, aft, gd⟩ (U64 (Tr.shr64 m s)) := OpY.shr64 h
end
end ops
section hasb
instance (priority := 800) {b : Nat} {pr : Prop} {C : Ct} {Ω Ω' Ωr : List Pe} [h : Pick Ω' b pr C Ωr] : Pick (Ω ++ Ω') b pr C (Ω ++ Ωr) := ⟨(h.perm.append_left Ω).trans List.perm_middle⟩
instance (priority := 900) {b : Nat} {pr : Prop} {C : Ct} {Ω Ω' : List Pe} [h : HasB Ω' b pr C] : HasB (Ω ++ Ω') b pr C := ⟨List.mem_append_right _ h.h⟩
end hasb
section within
variable {P : Program} {B : Nat} {Ωs Ω Ωr : List Pe} {Γ : Env} {t ty e : TypeId} {d : Tmp} {pos : String} {aft : Array Edge} {α : Type} {i : Dat α} {bt : Nat}
theorem run_appendIn [S : TSl P t e] [T : TEl P e α i bt] {A : Nat → Prop} {w : World} {b m c : Nat} {cs : List Value} {u : Value} {xs ys : List α} {ty : TypeId} (hblk : Blk w b cs) (hrow : (Row xs c).p A w cs) (hu : Src A w u ys) (hm : m + ys.length ≤ xs.length) :
    ∃ w', (Builtin.append_ #[t, t] ty #[.slice (some ⟨b, 0, none⟩) m c, u]).run P w = .ok (.slice (some ⟨b, 0, none⟩) (m + ys.length) c) w' ∧ ((ys = [] ∧ w' = w) ∨
      ∃ news, Blk w' b (setSeg cs (m * Dat.sz α) news) ∧ Mut (fun k => k = b) w w' ∧ news.length = ys.length * Dat.sz α ∧ elemsIn A w news ys) := by
  obtain ⟨ti, z, hi1, hi2, hi3, hi4, hi5⟩ := T.h
  obtain ⟨ad, c2, rfl, h4⟩ := hu
  obtain ⟨hcl, hle, hcm, hmx, hel⟩ := hrow
  have hroom : m + ys.length ≤ c := by omega
  have hmc : m ≤ c := by omega
  rcases Nat.eq_zero_or_pos ys.length with h0 | h0
  · have hy0 : ys = [] := List.eq_nil_of_length_eq_zero h0
    subst hy0
    refine ⟨w, ?_, .inl ⟨rfl, rfl⟩⟩
    have hf : (Builtin.firstCells ti.size 0 (.slice ad 0 c2)).run P w = .ok #[] w := by
      cases ad <;> simp [Builtin.firstCells, loadCells, loadCellsFrom]
    simp [Builtin.append_, run_underlying S.h, sizeOf, typeInfo, hi1, Builtin.lenOf, hf, hmc, storeCells]
  obtain ⟨b2, off, news, rfl, hl, hr, he⟩ := h4 h0
  have hnews : ∀ j v, news[j]? = some v → w.cell? (Addr.add ⟨b2, off, none⟩ j) = some v := fun j v hj => by
    obtain ⟨h5, rfl⟩ := List.getElem?_eq_some_iff.1 hj
    rw [addr_add, hr j h5, List.getD_eq_getElem?_getD, List.getElem?_eq_getElem h5]; rfl
  have hfit : m * Dat.sz α + news.length ≤ cs.length := by rw [hl, hcl, ← Nat.add_mul]; exact Nat.mul_le_mul_right _ hroom
  obtain ⟨w', r1, r2, r3, r4⟩ := run_storeCells' (P := P) hblk hfit (he.scal hl)
  have hf := run_firstCells_some (P := P) w ti.size ys.length ⟨b2, off, none⟩ ys.length c2 news (by rw [hl, hi3]) hnews
  refine ⟨w', ?_, .inr ⟨news, r2, r3, hl, he⟩⟩
  rw [hi3] at hf
  simp [Builtin.append_, run_underlying S.h, sizeOf, typeInfo, hi1, hi3, Builtin.lenOf, hroom, hf, addr_add, r1]
theorem OpT.appIn [S : TSl P t e] [T : TEl P e α i bt] {s x : Operand} {σ : Ty} {b m c c' : Nat} {pr : Prop} {xs ys : List α} [hs : Has Γ s (Sl b pr 0 m c')] [pk : Pick Ω b pr (Row xs c) Ωr] [hx : Has Γ x σ] (hl : SrcOf (Ωs ++ Ω) σ α i ys)
    (hp : pr) (hc : c' = c) (hm : m + ys.length ≤ xs.length) :
    OpT P B Ωs Ω Γ ⟨some d, .call { callee := .builtin .append, args := #[s, x], argTypes := #[t, t] }, ty, pos, aft, none⟩ (fun _ : Unit => Sl b pr 0 (m + ys.length) c') fun _ => ⟨b, pr, Row (splice xs m ys) c⟩ :: Ωr := by
  subst hc
  exact OpT.wr (C := Row xs c') rfl fun A a w hk hlv => by
    have h1 := hs.le a _ w fun t ht => hlv t (by simp [Op.operands, Call.operands, ← ht])
    have h2 := hl.h hk (hx.le a _ w fun t ht => hlv t (by simp [Op.operands, Call.operands, ← ht]))
    rcases h1 with ⟨-, h0, h1⟩ | ⟨hn, -⟩
    · obtain ⟨cs, g1, g2⟩ := hk ⟨b, pr, Row xs c'⟩ (List.mem_append_right _ (pk.perm.mem_iff.2 (List.mem_cons_self ..))) hp
      obtain ⟨w', r1, r2⟩ := run_appendIn (P := P) (t := t) (e := e) (bt := bt) (ty := ty) (m := m) g1 g2 h2 hm
      rw [← h1] at r1
      have hle : xs.length ≤ c' := g2.2.1
      refine ⟨_, fun _ _ => .inl ⟨hp, ⟨by omega, h0.2⟩, rfl⟩, ?_⟩
      rcases r2 with ⟨hy, rfl⟩ | ⟨news, r2, r3, r4, r5⟩
      · left
        refine ⟨.inl (app_run r1), fun A cs _ hc => ?_⟩
        subst hy
        have : splice xs m ([] : List α) = xs := by simp [splice]
        rw [this]; exact hc
      · right
        refine ⟨hp, w', cs, _, .inl (app_run r1), g1, r2, r3, ?_⟩
        exact Row.splice g2 r5 r4 (by omega) (by omega) (by have := g2.2.2.2.1; omega)
    · exact absurd hp hn
theorem Less.ct {b : Nat} {pr : Prop} {C C' : Ct} (h : ∀ A w cs, C.p A w cs → C'.p A w cs) : Less (⟨b, pr, C⟩ :: Ω) (⟨b, pr, C'⟩ :: Ω) :=
  ⟨fun k ⟨e, he, h1, h2⟩ => by
    rcases List.mem_cons.1 he with rfl | he
    · exact ⟨_, List.mem_cons_self .., h1, h2⟩
    · exact ⟨e, List.mem_cons_of_mem _ he, h1, h2⟩, fun hap => by
    obtain ⟨h1, h2⟩ := List.pairwise_cons.1 hap
    exact List.pairwise_cons.2 ⟨fun f hf a1 a2 => h1 f hf a1 a2, h2⟩, fun A w hk e he h1 => by
    rcases List.mem_cons.1 he with rfl | he
    · obtain ⟨cs, g1, g2⟩ := hk _ (List.mem_cons_self ..) h1
      exact ⟨cs, g1, h _ _ _ g2⟩
    · exact hk e (List.mem_cons_of_mem _ he) h1⟩
theorem Less.pkTake {Δ : List Pe} {b c : Nat} {pr : Prop} {xs ys : List α} (m : Nat) [h : Pick Ω b pr (Row xs c) Ωr] (hm : m ≤ xs.length) (he : xs.take m = ys) (k : Less Ωr Δ) : Less Ω (⟨b, pr, Row ys c⟩ :: Δ) := by
  subst he
  exact (Less.perm h.perm).trans ((Less.cons k).trans (Less.ct fun A w cs hc => Row.take hc hm))
end within
section al
variable {P : Program} {B : Nat} {Ωs Ω : List Pe} {Γ : Env} {t ty : TypeId} {d : Tmp} {pos : String} {aft : Array Edge} {α : Type} {i : Dat α} {bt : Nat}
theorem OpT.allocT [T : TEl P t α i bt] : OpT P B Ωs Ω Γ ⟨some d, .alloc t, ty, pos, aft, none⟩ (fun g : Nat × Unit => Pt g.1 0) fun g => ⟨g.1, True, One (Dat.z : α)⟩ :: Ω :=
  OpT.alloc (by obtain ⟨ti, z, h1, h2, _, _, h3⟩ := T.h; exact ⟨ti, z, h1, h2, h3⟩)
end al
section pc
variable {P : Program} {t u : TypeId} {Γ : Env} {f off : Nat} {β : Type} {j : Dat β}
theorem PartsC.d {p : Operand} {ps : List (Nat × Operand)} {τ : Ty} {y : β} {bt : Nat} {C C1 C' : Ct} [F : TFld P t f u off] [T : TEl P u β j bt] [hp : Has Γ p τ] [hy : ToD τ β j y] (c : CtSet C off β j y C1) (r : PartsC P t Γ ps C1 C') :
    PartsC P t Γ ((f, p) :: ps) C C' := by haveI := c; haveI := r; infer_instance
end pc
theorem TRw_mono {P : Program} {B : Nat} {Ωs : List Pe} {ops : Array Oper} {n : Nat} {ms : List Nat} {K K' : Env → Fam → Prop} (hk : ∀ Γ F, K Γ F → K' Γ F) : ∀ (l : List Oper) (k : Nat) (Γ : Env) (F : Fam), TRw P B Ωs ops n ms k l Γ F K → TRw P B Ωs ops n ms k l Γ F K'
  | [], _, _, _, h => hk _ _ h
  | o :: l, k, _, _, h => by
    obtain ⟨h1, h2⟩ := h
    refine ⟨h1, ?_⟩
    rcases h2 with ⟨h2, h3, τ, h4, h5⟩ | ⟨h2, μ, τ, Ω', h4, h5⟩
    · exact .inl ⟨h2, h3, τ, h4, TRw_mono hk l _ _ _ h5⟩
    · exact .inr ⟨h2, μ, τ, Ω', h4, TRw_mono hk l _ _ _ h5⟩
section drawn
variable {P : Program} {r : Ref} {n : Nat} {Γ : Env} {Ω Ωs Ωt : List Pe} {Q : Exit → Act → World → Prop} [op : Opens r]
theorem TC.regD {id : Nat} {l : List Oper} (ms : List Nat) (bs : List Nat) [hs : Split Ω bs Ωs Ωt] (hm : P.follows .mixedOrders = true) (hB : Region.lexB .any l.toArray = true) (hc : chainB .any l.toArray ms = true)
    (h : TRw P r.w.heap.size Ωs l.toArray n ms 0 l Γ (Fam.one Ωt) fun Γ' F' => ∀ g, TE r n (Env.or (F'.Θ g) Γ') (Ωs ++ F'.Ω g) Q .normal) : TC P r n Γ Ω (.region id l.toArray true) Q :=
  TC.regionD ms Ωs Ωt (Less.perm hs.perm) hm hB hc h
theorem TC.seqD {id : Nat} {l : List Oper} {y : Code} (ms : List Nat) (bs : List Nat) [hs : Split Ω bs Ωs Ωt] (hm : P.follows .mixedOrders = true) (hB : Region.lexB .any l.toArray = true) (hc : chainB .any l.toArray ms = true)
    (h : TRw P r.w.heap.size Ωs l.toArray n ms 0 l Γ (Fam.one Ωt) fun Γ' F' => ∀ g, TC P r n (Env.or (F'.Θ g) Γ') (Ωs ++ F'.Ω g) y Q) : TC P r n Γ Ω (.seq (.region id l.toArray true) y) Q :=
  TC.seq (TC.regionD ms Ωs Ωt (Less.perm hs.perm) hm hB hc h)
theorem Less.left {Ω Ω' : List Pe} : Less (Ω ++ Ω') Ω := ⟨fun k hk => Own_append.2 (.inl hk), fun hp => (List.pairwise_append.1 hp).1, fun A w hk => (Pks_append.1 hk).1⟩
theorem Env.or_le {Θ Γ : Env} : (Env.or Θ Γ).le Γ := fun t A w v h => h.2
theorem TC.regD0 {id : Nat} {l : List Oper} (hm : P.follows .mixedOrders = true) (hB : Region.lexB .any l.toArray = true)
    (h : TRw P r.w.heap.size Ω l.toArray n [] 0 l Γ (Fam.one []) fun Γ' _ => TE r n Γ' Ω Q .normal) : TC P r n Γ Ω (.region id l.toArray true) Q :=
  TC.regionD [] Ω [] (by rw [List.append_nil]; exact Less.refl _) hm hB rfl (TRw_mono (fun Γ' F' hk g a w hs => hk a w ((hs.le Env.or_le).less Less.left)) _ _ _ _ h)
theorem TC.seqD0 {id : Nat} {l : List Oper} {y : Code} (hm : P.follows .mixedOrders = true) (hB : Region.lexB .any l.toArray = true)
    (h : TRw P r.w.heap.size Ω l.toArray n [] 0 l Γ (Fam.one []) fun Γ' _ => TC P r n Γ' Ω y Q) : TC P r n Γ Ω (.seq (.region id l.toArray true) y) Q :=
  TC.seq (TC.regD0 hm hB h)
variable {B : Nat} {Ωr : List Pe} {α : Type} {i : Dat α} {t e : TypeId} {bt : Nat} {d : Tmp} {ty : TypeId} {pos : String} {aft : Array Edge}
theorem OpT.appR [S : TSl P t e] [T : TEl P e α i bt] {s x : Operand} {σ : Ty} {b m c c' : Nat} {pr : Prop} {xs ys : List α} {u : Unit} [hs : Has Γ s (Sl b pr 0 m c')] [sp : Pick Ω b pr (Row xs c) Ωr] [hx : Has Γ x σ] (hl : SrcOf (Ωs ++ Ω) σ α i ys)
    (hr : room bt ((xs.length + ys.length : Nat) : Int) = some u) (hc : c' = c) (hm : m = xs.length) :
    OpT P B Ωs Ω Γ ⟨some d, .call { callee := .builtin .append, args := #[s, x], argTypes := #[t, t] }, ty, pos, aft, none⟩ (fun g : Nat × Prop × Nat => Sl g.1 g.2.1 0 (xs ++ ys).length g.2.2) fun g => ⟨g.1, g.2.1, Row (xs ++ ys) g.2.2⟩ :: Ωr :=
  OpT.append hl hc hm (room_app hr).1 (room_app hr).2
end drawn
end Go.Proofs.Ytefmfhbkihplgaa.Tr
namespace Go.Proofs.Ytefmfhbkihplgaa.Tr
open Go Go.RowKit
def edgeB (md : Region.Mode) (ops : Array Oper) (i t : Nat) : Bool := (ops[i]?).any fun o => o.after.toList.any fun e => Region.binds md e && decide (e.on = t)
theorem edgeB_spec {md : Region.Mode} {ops : Array Oper} {i t : Nat} (h : edgeB md ops i t = true) : ∃ o, ops[i]? = some o ∧ ∃ e ∈ o.after, Region.binds md e = true ∧ e.on = t := by
  unfold edgeB at h
  cases ho : ops[i]? with
  | none => rw [ho] at h; cases h
  | some o =>
    rw [ho] at h
    simp only [Option.any_some, List.any_eq_true, Bool.and_eq_true, decide_eq_true_eq] at h
    obtain ⟨e, he, h1, h2⟩ := h
    exact ⟨o, rfl, e, by simpa using he, h1, h2⟩
def barB (md : Region.Mode) (ops : Array Oper) (k : Nat) : Bool :=
  ((List.range ops.size).all fun i => (ops[i]?).all fun o =>
    (o.after.toList.all fun e => !Region.binds md e || decide (e.on < i)) && (o.guard.all fun g => decide (g.1 < i))) &&
  (List.range k).all fun t => ((List.range (ops.size - k)).all fun i => edgeB md ops (k + i) t) || (List.range (k - t - 1)).any fun s => edgeB md ops (t + 1 + s) t
theorem barB_spec {md : Region.Mode} {ops : Array Oper} {k : Nat} (h : barB md ops k = true) {i : Nat} {o : Oper} (ho : ops[i]? = some o) :
    (∀ e ∈ o.after, Region.binds md e = true → e.on < i) ∧ (∀ g, o.guard = some g → g.1 < i) := by
  have hi : i < ops.size := (Array.getElem?_eq_some_iff.1 ho).1
  unfold barB at h
  rw [Bool.and_eq_true] at h
  have h1 := List.all_eq_true.1 h.1 i (by simpa using hi)
  rw [ho] at h1
  simp only [Option.all_some, Bool.and_eq_true, List.all_eq_true] at h1
  obtain ⟨h2, h3⟩ := h1
  refine ⟨fun e he hb => by simpa [hb] using h2 e (by simpa using he), fun g hg => ?_⟩
  rw [hg] at h3; simpa using h3
theorem barB_wait {md : Region.Mode} {ops : Array Oper} {k : Nat} (h : barB md ops k = true) {t : Nat} (ht : t < k) :
    (∀ i, k ≤ i → i < ops.size → edgeB md ops i t = true) ∨ ∃ s, t < s ∧ s < k ∧ edgeB md ops s t = true := by
  unfold barB at h
  rw [Bool.and_eq_true] at h
  have h1 := List.all_eq_true.1 h.2 t (by simpa using ht)
  rw [Bool.or_eq_true] at h1
  rcases h1 with h1 | h1
  · left
    intro i hi hs
    have := List.all_eq_true.1 h1 (i - k) (by simp; omega)
    rwa [show k + (i - k) = i by omega] at this
  · right
    obtain ⟨s, hs, he⟩ := List.any_eq_true.1 h1
    exact ⟨t + 1 + s, by omega, by simp at hs; omega, he⟩
section ext
variable {P : Program} {B : Nat} {Ωs : List Pe} {ops ops1 : Array Oper} {n : Nat} {ms : List Nat} {md : Region.Mode}
theorem OpG.ext {Γ : Env} {o : Oper} {τ : Ty} (hg : ∀ g, o.guard = some g → ops1[g.1]? = ops[g.1]?) (h : OpG P B ops1 Ωs Γ o τ) : OpG P B ops Ωs Γ o τ := by
  intro A a w hB hu hp hl
  have e1 : o.looksAt ops = o.looksAt ops1 := by
    unfold Oper.looksAt
    cases hq : o.guard with
    | none => rfl
    | some g => obtain ⟨g, b⟩ := g; simp only [hg _ hq]
  have e2 : Region.wanted o (yielded ops a.tmps) = Region.wanted o (yielded ops1 a.tmps) := by
    unfold Region.wanted
    cases hq : o.guard with
    | none => rfl
    | some g => obtain ⟨g, b⟩ := g; have := hg _ hq; simp only at this; simp only [yielded, this]
  have := h A a w hB hu hp (by rw [← e1]; exact hl)
  rw [e2]; exact this
theorem tOp_ext {i : Nat} {K : Env → Fam → Prop} {Γ : Env} {F : Fam} (he : ops1[i]? = ops[i]?) (hg : ∀ o, ops[i]? = some o → ∀ g, o.guard = some g → ops1[g.1]? = ops[g.1]?) (h : tOp P B Ωs ops1 n ms i K Γ F) : tOp P B Ωs ops n ms i K Γ F := by
  unfold tOp at *
  rw [he] at h
  split
  · rename_i ho; simp only [ho] at h; exact h
  · rename_i o ho
    simp only [ho] at h
    obtain ⟨h1, h2⟩ := h
    refine ⟨h1, ?_⟩
    rcases h2 with ⟨h3, h4, τ, h5, h6⟩ | h2
    · exact .inl ⟨h3, h4, τ, h5.ext (hg o ho), h6⟩
    · exact .inr h2
end ext
section any
variable {P : Program} {ops : Array Oper} {md : Region.Mode} {Q : Exit → Act → World → Prop}
theorem wpAny_more {ρ : Option Nat} : ∀ (f : Nat) (listed : Array Bool) (a : Act) (w : World), wpAnyIn (FR ρ) 0 P md ops Q f listed a w → wpAnyIn (FR ρ) 0 P md ops Q (f + 1) listed a w
  | 0, listed, a, w, h => ⟨fun _ => h.2, fun i hi => by rw [h.1] at hi; cases hi⟩
  | f + 1, listed, a, w, h => ⟨h.1, fun i hi => wpOpIn_mono (fun a' w' h' => wpAny_more f _ a' w' h') (h.2 i hi)⟩
theorem wpAny_le {ρ : Option Nat} {f g : Nat} (hfg : f ≤ g) {listed : Array Bool} {a : Act} {w : World} (h : wpAnyIn (FR ρ) 0 P md ops Q f listed a w) : wpAnyIn (FR ρ) 0 P md ops Q g listed a w := by
  induction hfg with
  | refl => exact h
  | step _ ih => exact wpAny_more _ _ _ _ ih
variable {r : Ref} {n : Nat} {Ωs : List Pe} {ms : List Nat} {ops1 : Array Oper} {k m : Nat}
theorem wpAny_phase [op : Opens r] (hb : barB md ops k = true) (hk : k ≤ ops.size) (h1 : ∀ i, i < k → ops1[i]? = ops[i]?) (hz1 : ops1.size = k) {K : Env → Fam → Prop}
    (hQ : ∀ Γ F a w (listed : Array Bool), listed.size = ops.size → (∀ t, t < ops.size → listed.getD t true = decide (t < k)) → RSt r n Ωs Γ F a w → K Γ F → wpAnyIn (FR r.ρ) 0 P md ops Q m listed a w) :
    ∀ (fuel : Nat) (l1 listed : Array Bool) (Γ : Env) (F : Fam) (a : Act) (w : World), l1.size = k → listed.size = ops.size → (∀ t, t < k → listed.getD t true = l1.getD t true) → (∀ t, k ≤ t → t < ops.size → listed.getD t true = false) →
      (∀ j, j < k → l1.getD j true = true → ∀ o, ops1[j]? = some o → ∀ e ∈ o.after, Region.binds md e = true → l1.getD e.on false = true) →
      RSt r n Ωs Γ F a w → TAny P r.w.heap.size Ωs ops1 n ms md K fuel l1 Γ F → wpAnyIn (FR r.ρ) 0 P md ops Q (fuel + m) listed a w := by
  have hgd : ∀ (l : Array Bool) (t : Nat), t < l.size → l.getD t false = l.getD t true := fun l t ht => by simp [ht]
  -- when nothing of the first phase is ready, all of it is done
  have hall : ∀ (l1 : Array Bool), l1.size = k → Region.ready md ops1 l1 = [] → ∀ t, t < k → l1.getD t true = true := by
    intro l1 hs hr t
    induction t using Nat.strongRecOn with
    | _ t ih =>
      intro ht
      cases hc : l1.getD t true with
      | true => rfl
      | false =>
        exfalso
        obtain ⟨o, ho⟩ : ∃ o, ops1[t]? = some o := ⟨ops1[t]'(by omega), Array.getElem?_eq_getElem (by omega)⟩
        have hmem : t ∈ Region.ready md ops1 l1 := mem_ready.2 ⟨hc, o, ho, fun e he hbe => by
          have hlt := (barB_spec hb (by rw [← h1 t ht]; exact ho)).1 e he hbe
          rw [hgd l1 e.on (by omega)]; exact ih e.on hlt (by omega)⟩
        rw [hr] at hmem; cases hmem
  have hrd : ∀ (l1 listed : Array Bool), l1.size = k → listed.size = ops.size → (∀ t, t < k → listed.getD t true = l1.getD t true) → (∀ t, k ≤ t → t < ops.size → listed.getD t true = false) →
      (∀ j, j < k → l1.getD j true = true → ∀ o, ops1[j]? = some o → ∀ e ∈ o.after, Region.binds md e = true → l1.getD e.on false = true) → ¬ (∀ t, t < k → l1.getD t true = true) →
      ∀ i, i ∈ Region.ready md ops listed → i < k ∧ i ∈ Region.ready md ops1 l1 := by
    intro l1 listed hs hz he hf hcl hn i hi
    obtain ⟨hun, o, ho, hall'⟩ := mem_ready.1 hi
    have hik : i < k := by
      rcases Nat.lt_or_ge i k with h | h
      · exact h
      · exfalso
        have key : ∀ q t, t < k → k - t ≤ q → l1.getD t true = true := by
          intro q
          induction q with
          | zero => intro t ht hq; omega
          | succ q ih =>
            intro t ht hq
            rcases barB_wait hb ht with h5 | ⟨s, h5, h6, h7⟩
            · obtain ⟨o', ho', e, he1, he2, he3⟩ := edgeB_spec (h5 i h (by have := (Array.getElem?_eq_some_iff.1 ho).1; omega))
              rw [ho] at ho'
              injection ho' with ho'
              subst ho'
              have := hall' e he1 he2
              rw [he3, hgd listed t (by omega)] at this
              rw [← he t ht]; exact this
            · obtain ⟨o', ho', e, he1, he2, he3⟩ := edgeB_spec h7
              have := hcl s h6 (ih s h6 (by omega)) o' (by rw [h1 s h6]; exact ho') e he1 he2
              rw [he3, hgd l1 t (by omega)] at this
              exact this
        exact hn fun t ht => key k t ht (by omega)
    refine ⟨hik, mem_ready.2 ⟨by rw [← he i hik]; exact hun, o, by rw [h1 i hik]; exact ho, fun e he1 he2 => ?_⟩⟩
    have hlt := (barB_spec hb ho).1 e he1 he2
    have := hall' e he1 he2
    rw [hgd listed _ (by omega)] at this
    rw [hgd l1 _ (by omega), ← he _ (by omega)]; exact this
  intro fuel
  induction fuel with
  | zero =>
    intro l1 listed Γ F a w hs hz he hf hcl ha h
    have hd := hall l1 hs h.1
    rw [Nat.zero_add]
    refine hQ Γ F a w listed hz (fun t ht => ?_) ha h.2
    by_cases htk : t < k
    · rw [he t htk, hd t htk]; simp [htk]
    · rw [hf t (by omega) ht]; simp [htk]
  | succ fuel ih =>
    intro l1 listed Γ F a w hs hz he hf hcl ha h
    by_cases hd : ∀ t, t < k → l1.getD t true = true
    · have hr : Region.ready md ops1 l1 = [] := by
        cases hr : Region.ready md ops1 l1 with
        | nil => rfl
        | cons i _ =>
          exfalso
          obtain ⟨hun, o, ho, -⟩ := mem_ready.1 (show i ∈ Region.ready md ops1 l1 by rw [hr]; exact List.mem_cons_self ..)
          have hi : i < k := by have := (Array.getElem?_eq_some_iff.1 ho).1; omega
          rw [hd i hi] at hun; cases hun
      exact wpAny_le (by omega) (hQ Γ F a w listed hz (fun t ht => by
        by_cases htk : t < k
        · rw [he t htk, hd t htk]; simp [htk]
        · rw [hf t (by omega) ht]; simp [htk]) ha (h.1 hr))
    · rw [show fuel + 1 + m = (fuel + m) + 1 by omega]
      refine ⟨fun hr => ?_, fun i hi => ?_⟩
      · exfalso
        -- the first that isn't listed is ready
        refine hd (hall l1 hs ?_)
        cases hr1 : Region.ready md ops1 l1 with
        | nil => rfl
        | cons i _ =>
          exfalso
          obtain ⟨hun, o, ho, hall'⟩ := mem_ready.1 (show i ∈ Region.ready md ops1 l1 by rw [hr1]; exact List.mem_cons_self ..)
          have hik : i < k := by have := (Array.getElem?_eq_some_iff.1 ho).1; omega
          have : i ∈ Region.ready md ops listed := mem_ready.2 ⟨by rw [he i hik]; exact hun, o, by rw [← h1 i hik]; exact ho, fun e he1 he2 => by
            have hlt := (barB_spec hb (by rw [← h1 i hik]; exact ho)).1 e he1 he2
            have := hall' e he1 he2
            rw [hgd l1 _ (by omega)] at this
            rw [hgd listed _ (by omega), he _ (by omega)]; exact this⟩
          rw [hr] at this; cases this
      · obtain ⟨hik, hi1⟩ := hrd l1 listed hs hz he hf hcl hd i hi
        have ht := tOp_ext (h1 i hik) (fun o ho g hg => h1 _ (by have := (barB_spec hb ho).2 g hg; omega)) (h.2 i hi1)
        refine wpOp_of_tOp ha (fun Γ' F' a' w' ha' hK => ih _ _ Γ' F' a' w' (by simpa using hs) (by simpa using hz) (fun t htk => ?_) (fun t htk hts => ?_) (fun j hj hjl o ho e he1 he2 => ?_) ha' hK) ht
        · by_cases e : i = t
          · subst e; simp [hs, hz, hik, show i < ops.size by omega]
          · rw [getD_set_ne true e, getD_set_ne true e]; exact he t htk
        · rw [getD_set_ne true (show i ≠ t by omega)]; exact hf t htk hts
        · have hlt := (barB_spec hb (by rw [← h1 j hj]; exact ho)).1 e he1 he2
          have hold : l1.getD e.on false = true := by
            by_cases hij : i = j
            · subst hij
              obtain ⟨-, o2, ho2, hall'⟩ := mem_ready.1 hi1
              rw [ho] at ho2
              injection ho2 with ho2
              subst ho2
              exact hall' e he1 he2
            · rw [getD_set_ne true hij] at hjl
              exact hcl j hj hjl o ho e he1 he2
          by_cases h9 : i = e.on
          · simp [← h9, hs, hik]
          · rw [getD_set_ne false h9]; exact hold
end any
theorem lexFrom_drop {md : Region.Mode} {ops : Array Oper} : ∀ (j m s : Nat) (listed : Array Bool), listed.size = ops.size → s + j ≤ ops.size → (∀ t, t < ops.size → listed.getD t true = decide (t < s)) → Region.lexFrom md ops (j + m) s listed = true →
    ∃ listed', listed'.size = ops.size ∧ (∀ t, t < ops.size → listed'.getD t true = decide (t < s + j)) ∧ Region.lexFrom md ops m (s + j) listed' = true
  | 0, m, s, listed, hz, _, ht, h => ⟨listed, hz, ht, by rw [Nat.zero_add] at h; exact h⟩
  | j + 1, m, s, listed, hz, hs, ht, h => by
    rw [show j + 1 + m = (j + m) + 1 by omega] at h
    simp only [Region.lexFrom, Bool.and_eq_true] at h
    have := lexFrom_drop j m (s + 1) (listed.setIfInBounds s true) (by simpa using hz) (by omega) (fun t hts => by
      by_cases h1 : s = t
      · subst h1
        have : s < listed.size := by omega
        simp [this]
      · rw [getD_set_ne true h1, ht t hts, decide_eq_decide]; omega) h.2
    rw [show s + (j + 1) = s + 1 + j by omega]; exact this
theorem listed_ext {l l' : Array Bool} (hs : l.size = l'.size) (h : ∀ t, t < l.size → l.getD t true = l'.getD t true) : l = l' := by
  apply Array.ext hs
  intro t h1 h2
  have := h t h1
  simpa [h1, h2] using this
section tc
variable {P : Program} {r : Ref} {n : Nat} {Γ : Env} {Ω : List Pe} {Q : Exit → Act → World → Prop}
theorem TC.regionP [op : Opens r] {id : Nat} {l : List Oper} {Q' : Exit → Act → World → Prop} (k : Nat) (ms ms2 : List Nat) (Ωs Ωt : List Pe) (hΩ : Less Ω (Ωs ++ Ωt)) (hm : P.follows .mixedOrders = true) (hB : Region.lexB .any l.toArray = true) (hB1 : Region.lexB .any (l.take k).toArray = true)
    (hk : Nat.ble k l.length = true) (hb : barB .any l.toArray k = true) (hc : chainB .any (l.take k).toArray ms = true) (hc2 : chainB .any l.toArray ms2 = true)
    (h : TRw P r.w.heap.size Ωs (l.take k).toArray n ms 0 (l.take k) Γ (Fam.one Ωt) fun Γ' F' => ∀ g, ∃ Ωs2 Ωt2, Less (Ωs ++ F'.Ω g) (Ωs2 ++ Ωt2) ∧
      TRw P r.w.heap.size Ωs2 l.toArray n ms2 k (l.drop k) (Env.or (F'.Θ g) Γ') (Fam.one Ωt2) fun Γ'' F'' => ∀ g, TE r n (Env.or (F''.Θ g) Γ'') (Ωs2 ++ F''.Ω g) Q' .normal) : TC P r n Γ Ω (.region id l.toArray true) Q' := by
  intro a w hs
  have hs := hs.less hΩ
  have hkl : k ≤ l.length := Nat.le_of_ble_eq_true hk
  have hB0 := hB
  simp only [Region.lexB, Bool.and_eq_true] at hB hB1
  refine wpIn_region_any hm ?_
  have h2 := TAny_lex (P := P) (md := .any) (ops := (l.take k).toArray) hc (l.take k) 0 (Array.replicate (l.take k).toArray.size false) Γ (Fam.one Ωt) (fun j => by simp) (by simp) (fun t ht => by
    rw [Array.getD_eq_getD_getElem?, Array.getElem?_replicate]; have h6 : t < min k l.length := by simpa using ht
    simp [h6]) (by simpa using hB1.2) h
  have hg : Grow r.w.heap.size w { w with drawn := w.drawn + 1 } := Grow.drawn _
  have h3 : RSt r n Ωs Γ (Fam.one Ωt) a { w with drawn := w.drawn + 1 } :=
    ⟨(), hs.sz, hs.df, hs.mu.stp (Stp.of_grow (S := fun _ => False) hg) (fun j hj => hj.elim), fun t => ⟨trivial, (Γ t).st hg (hs.ty t)⟩, hs.pv.grow hg⟩
  have hsz : l.toArray.size = k + (l.drop k).length := by simp; omega
  have := wpAny_phase (P := P) (md := .any) (ops := l.toArray) (ops1 := (l.take k).toArray) (Q := Q') (r := r) (n := n) (Ωs := Ωs) (ms := ms) (k := k) (m := (l.drop k).length) hb (by simpa using hkl) (fun i hi => by simp [List.getElem?_take, hi]) (by simp; omega)
    (fun Γ' F' a w listed hz ht ⟨g, hok⟩ hK => by
      obtain ⟨Ωs2, Ωt2, hl2, hT⟩ := hK g
      obtain ⟨listed', hz', ht', hlex⟩ := lexFrom_drop (md := .any) (ops := l.toArray) k (l.drop k).length 0 (Array.replicate l.toArray.size false) (by simp) (by simpa using hkl) (fun t ht => by
        rw [Array.getD_eq_getD_getElem?, Array.getElem?_replicate]; simp at ht; simp [ht]) (by rw [← hsz]; simpa using hB.2)
      have he : listed' = listed := listed_ext (by rw [hz, hz']) fun t htt => by
        rw [hz'] at htt
        rw [ht' t htt, ht t htt, Nat.zero_add]
      subst he
      have h4 := TAny_lex (P := P) (md := .any) (ops := l.toArray) hc2 (l.drop k) k listed' (Env.or (F'.Θ g) Γ') (Fam.one Ωt2) (fun j => by simp [List.getElem?_drop]) hz ht (by rw [Nat.zero_add] at hlex; exact hlex) hT
      have hok' := hok.less hl2
      exact wpAny_of_T (P := P) (Q' := Q') (md := .any) (fun Γ'' F'' a w ⟨g, hok⟩ hK => hK g a w hok) _ _ _ (Fam.one Ωt2) a w ⟨(), hok'.sz, hok'.df, hok'.mu, fun t => ⟨trivial, hok'.ty t⟩, hok'.pv⟩ h4)
    (l.take k).length (Array.replicate (l.take k).toArray.size false) (Array.replicate l.toArray.size false) Γ (Fam.one Ωt) a { w with drawn := w.drawn + 1 } (by simp; omega) (by simp) (fun t ht => by
      rw [Array.getD_eq_getD_getElem?, Array.getElem?_replicate, Array.getD_eq_getD_getElem?, Array.getElem?_replicate]
      have h5 : t < l.length := by omega
      have h6 : t < min k l.length := by omega
      simp [h5, h6]) (fun t h5 h6 => by
      rw [Array.getD_eq_getD_getElem?, Array.getElem?_replicate]; simp at h6; simp [h6]) (fun j hj hjl => by
      rw [Array.getD_eq_getD_getElem?, Array.getElem?_replicate] at hjl
      have h6 : j < min k l.length := by omega
      simp [h6] at hjl) h3 h2
  have hk' : (l.take k).length = k := by simp; omega
  rw [hk', ← hsz] at this
  exact this
theorem TC.seqPh [op : Opens r] {id : Nat} {l : List Oper} {y : Code} {Ωs Ωt : List Pe} (k : Nat) (ms ms2 bs : List Nat) [hs : Split Ω bs Ωs Ωt] (hm : P.follows .mixedOrders = true) (hB : Region.lexB .any l.toArray = true) (hB1 : Region.lexB .any (l.take k).toArray = true)
    (hk : Nat.ble k l.length = true) (hb : barB .any l.toArray k = true) (hc : chainB .any (l.take k).toArray ms = true) (hc2 : chainB .any l.toArray ms2 = true)
    (h : TRw P r.w.heap.size Ωs (l.take k).toArray n ms 0 (l.take k) Γ (Fam.one Ωt) fun Γ' F' => ∀ g, ∃ Ωs2 Ωt2, Less (Ωs ++ F'.Ω g) (Ωs2 ++ Ωt2) ∧
      TRw P r.w.heap.size Ωs2 l.toArray n ms2 k (l.drop k) (Env.or (F'.Θ g) Γ') (Fam.one Ωt2) fun Γ'' F'' => ∀ g, TC P r n (Env.or (F''.Θ g) Γ'') (Ωs2 ++ F''.Ω g) y Q) : TC P r n Γ Ω (.seq (.region id l.toArray true) y) Q :=
  TC.seq (TC.regionP k ms ms2 Ωs Ωt (Less.perm hs.perm) hm hB hB1 hk hb hc hc2 h)
theorem PH.next {B : Nat} {ops : Array Oper} {ms2 : List Nat} {k : Nat} {l : List Oper} {K : List Pe → Env → Fam → Prop} {Ωs2 Ωt2 : List Pe} (bs : List Nat) [hs : Split Ω bs Ωs2 Ωt2] (h : TRw P B Ωs2 ops n ms2 k l Γ (Fam.one Ωt2) (K Ωs2)) :
    ∃ Ωs2 Ωt2, Less Ω (Ωs2 ++ Ωt2) ∧ TRw P B Ωs2 ops n ms2 k l Γ (Fam.one Ωt2) (K Ωs2) := ⟨Ωs2, Ωt2, Less.perm hs.perm, h⟩
end tc
end Go.Proofs.Ytefmfhbkihplgaa.Tr
namespace Go.Proofs.Ytefmfhbkihplgaa.Tr
open Go
theorem idx_nat {α : Type} {l : List α} {i : Nat} (h : i < l.length) : idx l (i : Int) = some l[i] := by
  unfold idx
  rw [if_pos (by omega), Int.toNat_natCast, List.getElem?_eq_getElem h]
theorem idx_of {α : Type} {l : List α} {k : Int} (h0 : 0 ≤ k) (h : k < l.length) : idx l k = some (l[k.toNat]'(by omega)) := by
  unfold idx
  rw [if_pos h0, List.getElem?_eq_getElem (by omega)]
theorem ok64_ok {z : Int} (h1 : -9223372036854775808 ≤ z) (h2 : z ≤ 9223372036854775807) : ok64 z = some z := by
  unfold ok64; rw [if_pos ⟨h1, h2⟩]
theorem addI_ok {a b : Int} (h1 : -9223372036854775808 ≤ a + b) (h2 : a + b ≤ 9223372036854775807) : addI a b = some (a + b) := ok64_ok h1 h2
theorem subI_ok {a b : Int} (h1 : -9223372036854775808 ≤ a - b) (h2 : a - b ≤ 9223372036854775807) : subI a b = some (a - b) := ok64_ok h1 h2
theorem mulI_ok {a b : Int} (h1 : -9223372036854775808 ≤ a * b) (h2 : a * b ≤ 9223372036854775807) : mulI a b = some (a * b) := ok64_ok h1 h2
theorem addI_nat {i : Nat} (h : i < 9223372036854775807) : addI (i : Int) 1 = some ((i + 1 : Nat) : Int) := by
  rw [addI_ok (by omega) (by omega)]; rfl
theorem remI_ok {a b : Int} (h1 : 0 ≤ a) (h2 : 0 < b) : remI a b = some (a % b) := by unfold remI; rw [if_pos ⟨h1, h2⟩]
theorem quoI_ok {a b : Int} (h1 : 0 ≤ a) (h2 : 0 < b) : quoI a b = some (a / b) := by unfold quoI; rw [if_pos ⟨h1, h2⟩]
theorem room_ok {bt : Nat} {n : Int} (h0 : 0 ≤ n) (h1 : n * bt ≤ 140737488355328) (h2 : n ≤ 140737488351232) : room bt n = some () := by unfold room; rw [if_pos ⟨h0, h1, h2⟩]
theorem cut_ok {n : Nat} {l r : Int} (h1 : 0 ≤ l) (h2 : l ≤ r) (h3 : r ≤ n) : cut n l r = some () := by unfold cut; rw [if_pos ⟨h1, h2, h3⟩]
-- not by rfl alone: what a rule by rfl rewrites the kernel would run
theorem gb_true {α : Type} [Inhabited α] {x : Option α} : gb true x = x := Eq.trans rfl rfl
theorem gb_false {α : Type} [Inhabited α] {x : Option α} : gb false x = some default := Eq.trans rfl rfl
theorem cond_t {α : Type} {x y : α} : (bif true then x else y) = x := Eq.trans rfl rfl
theorem cond_f {α : Type} {x y : α} : (bif false then x else y) = y := Eq.trans rfl rfl
theorem bind_s {α β : Type} {a : α} {f : α → Option β} : (some a).bind f = f a := Eq.trans rfl rfl
theorem el2_at {α β ρ : Type} {a : α} {b : β} {f : α → β → ρ} : el2 (a, b) f = f a b := Eq.trans rfl rfl
theorem elS_inl {α β γ : Type} {a : α} {f : α → γ} {g : β → γ} : elS (.inl a) f g = f a := Eq.trans rfl rfl
theorem elS_inr {α β γ : Type} {a : β} {f : α → γ} {g : β → γ} : elS (.inr a) f g = g a := Eq.trans rfl rfl
theorem loopO_of {σ ε : Type} {f : σ → Option (σ ⊕ ε)} {s : σ} {e : ε} (k : Nat) (hk : k ≤ 18446744073709551616) (h : loopN f k s = some e) : loopO f s = some e := loopN_mono _ h hk
theorem loopN_done {σ ε : Type} {f : σ → Option (σ ⊕ ε)} {s : σ} {e : ε} {k : Nat} (h : f s = some (.inr e)) : loopN f (k + 1) s = some e := by unfold loopN; rw [h]
theorem loopN_next {σ ε : Type} {f : σ → Option (σ ⊕ ε)} {s s' : σ} {k : Nat} (h : f s = some (.inl s')) : loopN f (k + 1) s = loopN f k s' := by rw [loopN, h]
theorem gb_of {α : Type} [Inhabited α] {g : Bool} {x : Option α} {a : α} (h : g = true → x = some a) : gb g x = some (bif g then a else default) := by
  cases g with
  | true => exact h rfl
  | false => rfl
end Go.Proofs.Ytefmfhbkihplgaa.Tr
namespace Go.Proofs.Ytefmfhbkihplgaa.Tr
open Go Go.RowKit
theorem Row.zeros {α : Type} {i : Dat α} {A : Nat → Prop} {w : World} {zs : Array Value} {m gc : Nat} (hz : zs = (Dat.zc α).toArray) (ge : m ≤ gc) (cm : gc ≤ maxLen) (hm : m ≤ most) :
    (Row (List.replicate m (Dat.z (α := α))) gc).p A w (Builtin.zeroCells zs m ++ Builtin.zeroCells zs (gc - m)).toList := by
  have hzl : zs.size = Dat.sz α := by rw [hz]; simpa using Dat.len (Dat.zrd (α := α) (A := fun _ => True) (w := w))
  have hsz := Dat.pos (α := α)
  refine ⟨?_, by simpa using ge, cm, by simpa using hm, fun j hj => ?_⟩
  · simp only [Array.length_toList, Array.size_append, size_zeroCells, hzl, ← Nat.add_mul]; congr 1; omega
  · simp only [List.length_replicate] at hj
    have hzc : (Dat.zc α).length = Dat.sz α := Dat.len (Dat.zrd (α := α) (A := fun _ => True) (w := w))
    have hle : j * Dat.sz α + Dat.sz α ≤ m * Dat.sz α := by rw [← Nat.succ_mul]; exact Nat.mul_le_mul_right _ (by omega)
    have e3 : seg (Builtin.zeroCells zs m ++ Builtin.zeroCells zs (gc - m)).toList (j * Dat.sz α) (Dat.sz α) = Dat.zc α := by
      rw [Array.toList_append, seg_left (by rw [Array.length_toList, size_zeroCells, hzl]; exact hle)]
      refine getD_ext (by rw [seg_length (by rw [Array.length_toList, size_zeroCells, hzl]; exact hle), hzc]) fun q hq => ?_; rw [seg_length (by rw [Array.length_toList, size_zeroCells, hzl]; exact hle)] at hq
      rw [seg_getD hq]
      have h3 : j * Dat.sz α + q < m * Dat.sz α := by omega
      have h4 : (j * Dat.sz α + q) % Dat.sz α = q := by rw [Nat.mul_comm, Nat.mul_add_mod, Nat.mod_eq_of_lt hq]
      have h5 : (Builtin.zeroCells zs m).toList.getD (j * Dat.sz α + q) undef = zs[(j * Dat.sz α + q) % zs.size]! := by
        simp [Builtin.zeroCells, List.getD_eq_getElem?_getD, hzl, h3]
      rw [h5, hzl, h4, hz, getElem!_pos _ _ (by simpa [hzc] using hq)]
      simp [List.getD_eq_getElem?_getD, hzc, hq]
    rw [e3, List.getElem_replicate]; exact Dat.zrd
def posI (n : Int) : Option Unit := if 0 < n then some () else none
theorem posI_some {n : Int} {u : Unit} (h : posI n = some u) : 0 < n := by
  unfold posI at h; split at h
  · assumption
  · cases h
section am
variable {P : Program} {B : Nat} {Ωs Ω : List Pe} {Γ : Env} {t e u ty : TypeId} {d : Tmp} {pos : String} {aft : Array Edge} {α : Type} {i : Dat α} {bt : Nat}
theorem OpT.appMake [S : TSl P t e] [T : TEl P e α i bt] [U : TIn P u .i64] {s x : Operand} {σ : Ty} {n : Int} {v v' : Unit} [hs : Has Γ s NilS] [hx : Has Γ x σ] [k : AsI σ n] (hr : room bt n = some v) (h0' : posI n = some v') :
    OpT P B Ωs Ω Γ ⟨some d, .call { callee := .builtin .append, args := #[s, x], argTypes := #[t, u] }, ty, pos, aft, none⟩ (fun g : Nat × Nat => Sl g.1 True 0 (List.replicate n.toNat (Dat.z (α := α))).length g.2)
      fun g => ⟨g.1, True, Row (List.replicate n.toNat (Dat.z (α := α))) g.2⟩ :: Ω :=
  OpT.newB (C := fun c => Row (List.replicate n.toNat (Dat.z (α := α))) c) rfl fun A a w _ _ hl => by
    have h0 := posI_some h0'
    obtain ⟨-, h1', hm'⟩ := room_some hr
    obtain ⟨m, rfl⟩ := Int.eq_ofNat_of_zero_le (show 0 ≤ n by omega)
    have h1 : m * bt ≤ 140737488355328 := by rw [← Int.natCast_mul] at h1'; omega
    have hm : m ≤ 140737488351232 := by omega
    simp only [Int.toNat_natCast, List.length_replicate]
    obtain ⟨ti, z, hi1, hi2, hi3, hi4, hi5⟩ := T.h
    have e1 : a.eval s = .slice none 0 0 := Has.ev (x := s) (τ := NilS) (op := .call { callee := .builtin .append, args := #[s, x], argTypes := #[t, u] }) (by simp [Op.operands, Call.operands]) hl
    have e2 : a.eval x = .int .i64 m := k.le _ _ _ (Has.ev (x := x) (τ := σ) (op := .call { callee := .builtin .append, args := #[s, x], argTypes := #[t, u] }) (by simp [Op.operands, Call.operands]) hl)
    have hsz := Dat.pos (α := α)
    have hw : IntKind.i64.wrap (m : Int) = m := wrap64_in (by omega) (by omega)
    have n0 : ¬ m = 0 := by omega
    have n1 : ¬ (m : Int) < 0 := by omega
    have hb : (m : Int) * (ti.bytes : Int) ≤ 281474976710656 := by
      rw [hi4]
      have h2 : ((m * bt : Nat) : Int) ≤ 140737488355328 := by omega
      rw [Int.natCast_mul] at h2
      omega
    have n2 : ¬ (281474976710656 < (m : Int) * (ti.bytes : Int)) := by omega
    have n3 : ¬ ((9223372036854775807 : Int) < (m : Int)) := by omega
    have n4 : ¬ (281474976710656 < Builtin.nextslicecap m 0 * ti.bytes) := by rw [nextslicecap_zero (by omega), hi4]; omega
    have n5 : ¬ m * Dat.sz α = 0 := by intro h; rcases Nat.mul_eq_zero.1 h with h | h <;> omega
    have ge := grownCap_ge w m 0 e
    have cm := grownCap_le_maxLen w m 0 e (by unfold maxLen; omega)
    have hrun : (execOp a.eval ⟨some d, .call { callee := .builtin .append, args := #[s, x], argTypes := #[t, u] }, ty, pos, aft, none⟩).run P w =
        .ok (.value (.slice (some ⟨w.heap.size, 0, none⟩) m (grownCap w m 0 e))) (w.drew.alloc (.cells (Builtin.zeroCells z.cells m ++ Builtin.zeroCells z.cells (grownCap w m 0 e - m)) e)) := by
      simp [execOp, resolve, invoke, builtin, e1, e2, Builtin.append_, run_underlying S.h, run_underlying U.h, sizeOf, typeInfo, zeroValue, hi1, hi2, hi3, asInt, asIntOf, hw, n0, n1, n2, n3, n4, n5, Question.forced, Builtin.firstCells, newRow, grownCap]
    generalize grownCap w m 0 e = gc at *
    refine ⟨gc, _, w.drawn + 1, (Builtin.zeroCells z.cells m ++ Builtin.zeroCells z.cells (gc - m)).toList, e, ?_, fun _ _ => .inl ⟨trivial, ⟨ge, cm⟩, rfl⟩, Row.zeros hi5 ge cm (by unfold most; omega)⟩
    rw [hrun, Array.toArray_toList]; rfl
end am
section ts
variable {P : Program} {r : Ref} {n : Nat} {ops : Array Oper} {k : Nat} {rest : List Oper} {Γ : Env} {Ω : List Pe} {Q : Exit → Act → World → Prop}
variable {t e u ty : TypeId} {d : Tmp} {pos : String} {aft : Array Edge} {α : Type} {i : Dat α} {bt : Nat}
theorem TS.appMake [op : Opens r] [S : TSl P t e] [T : TEl P e α i bt] [U : TIn P u .i64] {s x : Operand} {σ : Ty} {q : Int} {v v' : Unit} [hs : Has Γ s NilS] [hx : Has Γ x σ] [kx : AsI σ q] (hr : room bt q = some v) (h0 : posI q = some v') (hd : Nat.blt d n = true)
    (hk : ∀ b c, TS P r n ops rest (k + 1) (Γ.set d (Sl b True 0 (List.replicate q.toNat (Dat.z (α := α))).length c)) (⟨b, True, Row (List.replicate q.toNat (Dat.z (α := α))) c⟩ :: Ω) Q) :
    TS P r n ops (⟨some d, .call { callee := .builtin .append, args := #[s, x], argTypes := #[t, u] }, ty, pos, aft, none⟩ :: rest) k Γ Ω Q :=
  TS.t (OpT.appMake hr h0) hd fun g => hk g.1 g.2
theorem TS.nilE (b : Nat) (α : Type) [i : Dat α] (h : TS P r n ops rest k Γ (⟨b, False, Row ([] : List α) 0⟩ :: Ω) Q) : TS P r n ops rest k Γ Ω Q :=
  TS.weaken (Env.le.refl _) (Less.none fun h => h) h
structure ZeroC (α : Type) (i : Dat α) (C : Ct) : Prop where
  h : ∀ {A : Nat → Prop} {w : World}, C.p A w (Dat.zc α)
theorem ZeroC.one : ZeroC α i (One (Dat.z : α)) := ⟨Dat.zrd⟩
theorem ZeroC.mix {C : Ct} {o b : Nat} (h : ZeroC α i C) (hz : (Dat.zc α)[o]? = some (.slice none 0 0)) : ZeroC α i (C.mix o (Sl b False 0 0 0)) := ⟨CtH.nil h.h hz⟩
theorem OpT.allocZ {B : Nat} {Ωs : List Pe} [T : TEl P t α i bt] {C : Ct} (hz : ZeroC α i C) : OpT P B Ωs Ω Γ ⟨some d, .alloc t, ty, pos, aft, none⟩ (fun g : Nat × Unit => Pt g.1 0) fun g => ⟨g.1, True, C⟩ :: Ω :=
  OpT.newB (C := fun _ => C) rfl fun A a w _ _ hl => by
    obtain ⟨ti, z, h1, h2, _, _, h3⟩ := T.h
    refine ⟨(), .pointer (some ⟨w.heap.size, 0, none⟩), w.drawn, Dat.zc α, t, ?_, fun _ _ => rfl, hz.h⟩
    simp [execOp, Instr.alloc, zeroValue, typeInfo, h1, h2, newVar, newRow, h3]
theorem TS.allocZ [op : Opens r] [T : TEl P t α i bt] {C : Ct} (hz : ZeroC α i C) (hd : Nat.blt d n = true)
    (hk : ∀ b, TS P r n ops rest (k + 1) (Γ.set d (Pt b 0)) (⟨b, True, C⟩ :: Ω) Q) : TS P r n ops (⟨some d, .alloc t, ty, pos, aft, none⟩ :: rest) k Γ Ω Q :=
  TS.t (OpT.allocZ hz) hd fun g => hk g.1
theorem OpY.buildZ {B0 : Nat} {A : Nat → Prop} {dst : Option Tmp} {gd : Option (Nat × Bool)} {parts : Array (Nat × Operand)} {ps : List (Nat × Operand)} {C0 C : Ct} [T : TEl P t α i bt] (hps : parts = ps.toArray) (hu : ∃ fs, P.underlying t = some (.struct fs) ∧ (fs.toList.mapM (fun f => (P.info? f.type).map fun i => (f.offset, i.size))).isSome = true)
    (hz : ZeroC α i C0) (h : PartsC P t Γ ps C0 C) : OpY P B0 A Ω Γ ⟨dst, .build t parts, ty, pos, aft, gd⟩ (VC C) :=
  OpY.val fun a w hl => by
    subst hps
    obtain ⟨fs, u1, u2⟩ := hu
    obtain ⟨places, u2⟩ := Option.isSome_iff_exists.1 u2
    obtain ⟨ti, z, i1, i2, i3, i4, i5⟩ := T.h
    obtain ⟨cs', r1, r2⟩ := h.h a A w (fun k hk => hl k (by simp only [Op.operands]; simpa using hk)) fs places _ u1 u2 hz.h
    refine ⟨.agg cs'.toArray, ?_, cs', r2, rfl⟩
    have hb : P.built t ((ps.toArray.map fun (i, x) => (i, a.eval x)).toList) = some cs'.toArray := by
      unfold Program.built
      rw [i1, u1]
      simp only [i2, u2, i5]
      simpa using r1
    simp only [execOp, Sem.run_bind, run_build w t _ cs'.toArray hb, Result.andThen_ok, Sem.run_pure]
theorem TC.trim {c : Code} (b m : Nat) {pr : Prop} {c0 : Nat} {xs : List α} {Ωr : List Pe} [h : Pick Ω b pr (Row xs c0) Ωr] (hm : m ≤ xs.length) (hk : TC P r n Γ (⟨b, pr, Row (xs.take m) c0⟩ :: Ωr) c Q) : TC P r n Γ Ω c Q :=
  TC.less (Less.pkTake m hm rfl (Less.refl _)) hk
theorem TE.trim {e : Exit} (b m : Nat) {pr : Prop} {c0 : Nat} {xs : List α} {Ωr : List Pe} [h : Pick Ω b pr (Row xs c0) Ωr] (hm : m ≤ xs.length) (hk : TE r n Γ (⟨b, pr, Row (xs.take m) c0⟩ :: Ωr) Q e) : TE r n Γ Ω Q e :=
  TE.less (Less.pkTake m hm rfl (Less.refl _)) hk
end ts
theorem RetO.pub {A : Nat → Prop} {w : World} {ν : Type} {τ : ν → Ty} {σ : Ty} {Ω' : ν → List Pe} {e : Ending} {w' : World} (hA : ∀ k, w.heap.size ≤ k → A k)
    (hσ : ∀ g (A : Nat → Prop) w v, (∀ e ∈ Ω' g, e.pr → A e.b ∧ ∃ cs, Blk w e.b cs ∧ e.C.p A w cs) → (τ g).p A w v → σ.p A w v) (h : RetO A w [] τ Ω' e w') : Ret A w σ e w' := by
  obtain ⟨v, g, h1, h2⟩ := h
  refine ⟨v, h1, ⟨h2.st.os, h2.st.tape, h2.st.output, h2.st.size, fun k hk => h2.st.old k hk fun ⟨e, he, _⟩ => absurd he (by simp), fun k hk => h2.st.cells k hk fun ⟨e, he, _⟩ => absurd he (by simp)⟩, ?_⟩
  refine hσ g A w' v (fun e he hp => ?_) (Ty.keep _ (Keep.mono fun k _ hk => (Pub_own.1 hk).1) h2.ty)
  obtain ⟨cs, g1, g2⟩ := h2.ks e he hp
  refine ⟨?_, cs, g1, e.C.keep (Keep.mono fun k _ hk => (Pub_own.1 hk).1) g2⟩
  rcases h2.nw e.b ⟨e, he, hp, rfl⟩ with ⟨x, hx, _⟩ | h
  · exact absurd hx (by simp)
  · exact hA e.b h
theorem Pl.rowSub {α : Type} {i : Dat α} {xs : List α} {c k m : Nat} {j : Int} {x : α} (h : idx ((xs.drop k).take m) j = some x) : Pl (Row xs c) (0 + k * Dat.sz α + j.toNat * Dat.sz α) α i x fun y => Row (xs.set (k + j.toNat) y) c := by
  obtain ⟨h1, h2⟩ := idx_some h
  have h3 : idx xs ((k + j.toNat : Nat) : Int) = some x := by
    obtain ⟨g1, g2⟩ := List.getElem?_eq_some_iff.1 h2
    simp only [List.length_take, List.length_drop] at g1
    unfold idx
    rw [if_pos (by omega), Int.toNat_natCast, ← h2, List.getElem?_take_of_lt (by omega), List.getElem?_drop]
  have h4 := Pl.rowz (i := i) (c := c) h3
  rw [Int.toNat_natCast, Nat.add_mul, ← Nat.add_assoc] at h4
  exact h4
theorem idx_sv {α : Type} {xs : List α} {n : Nat} {k : Int} {x : α} (h : idx xs k = some x) (hn : n = xs.length) : 0 ≤ k ∧ k < n := by
  obtain ⟨h1, h2⟩ := idx_some h
  obtain ⟨g1, g2⟩ := List.getElem?_eq_some_iff.1 h2
  omega
theorem splice_over_len {α : Type} {l ys : List α} {k m : Nat} (h : k + m ≤ l.length) : (splice l k (over ((l.drop k).take m) ys)).length = l.length := by
  rw [splice_len (by omega), over_len, List.length_take, List.length_drop]; omega
theorem splice_rep_len {α : Type} {l : List α} {k m : Nat} {z : α} (h : k + m ≤ l.length) : (splice l k (List.replicate m z)).length = l.length := by
  rw [splice_len (by omega), List.length_replicate]; omega
def orI (a b : Int) : Option Int := if 0 ≤ a ∧ 0 ≤ b then some ((a.toNat ||| b.toNat : Nat) : Int) else none
def shrI (a s : Int) : Option Int := if 0 ≤ a ∧ 0 ≤ s then some (a / 2 ^ s.toNat) else none
def shlI (a s : Int) : Option Int := if 0 ≤ a ∧ 0 ≤ s ∧ s ≤ 62 ∧ a * 2 ^ s.toNat ≤ 9223372036854775807 then some (a * 2 ^ s.toNat) else none
section bi
variable {P : Program} {B0 : Nat} {A : Nat → Prop} {Ω : List Pe} {Γ : Env} {dst : Option Tmp} {ty : TypeId} {pos : String} {aft : Array Edge} {gd : Option (Nat × Bool)}
theorem OpD.ori {x y : Operand} {τ σ : Ty} {t u : TypeId} {m k z : Int} [hsx : Has Γ x τ] [hx : ToD τ Int inferInstance m] [hsy : Has Γ y σ] [hy : ToD σ Int inferInstance k] (h : orI m k = some z) :
    OpY P B0 A Ω Γ ⟨dst, .binOp .or t x y u, ty, pos, aft, gd⟩ (D z) := fun a w hB hu hp hl => by
  unfold orI at h; split at h
  · rename_i hc
    injection h with h; subst h
    obtain ⟨e1, e2, hm, hk⟩ := evD2 (x := x) (y := y) (τ := τ) (σ := σ) (t := t) (u := u) (m := m) (k := k) (A := A) (op := .or) hl
    unfold intIn at hm hk
    have h1 : m.toNat < 2 ^ 63 := by omega
    have h2 : k.toNat < 2 ^ 63 := by omega
    have h3 : m.toNat ||| k.toNat < 2 ^ 63 := Nat.or_lt_two_pow h1 h2
    refine OpY.toD (I_D (by omega) (by omega)) (OpY.val fun a w hl => ⟨.int .i64 (m.toNat ||| k.toNat : Nat), ?_, rfl⟩) a w hB hu hp hl
    obtain ⟨e1, e2, -, -⟩ := evD2 (x := x) (y := y) (τ := τ) (σ := σ) (t := t) (u := u) (m := m) (k := k) (A := A) (op := .or) hl
    have e3 : IntKind.i64.wrap ((BitVec.ofInt IntKind.i64.bits m ||| BitVec.ofInt IntKind.i64.bits k).toNat : Int) = ((m.toNat ||| k.toNat : Nat) : Int) := by
      have g1 : (BitVec.ofInt IntKind.i64.bits m).toNat = m.toNat := by show (BitVec.ofInt 64 m).toNat = _; rw [BitVec.toNat_ofInt]; omega
      have g2 : (BitVec.ofInt IntKind.i64.bits k).toNat = k.toNat := by show (BitVec.ofInt 64 k).toNat = _; rw [BitVec.toNat_ofInt]; omega
      rw [BitVec.toNat_or, g1, g2]
      exact wrap64_in (by omega) (by omega)
    simp only [execOp, e1, e2, eqGuard_or, binOp_or, Op.intBits, Sem.run_bind, Sem.run_pure, Result.andThen_ok]
    exact congrArg (fun z => Result.ok (Next.value (Value.int .i64 z)) w) e3
  · cases h
theorem OpD.shri {x y : Operand} {τ σ : Ty} {t u : TypeId} {m k z : Int} [hsx : Has Γ x τ] [hx : ToD τ Int inferInstance m] [hsy : Has Γ y σ] [hy : AsCnt σ k] (h : shrI m k = some z) :
    OpY P B0 A Ω Γ ⟨dst, .binOp .shr t x y u, ty, pos, aft, gd⟩ (D z) := fun a w hB hu hp hl => by
  unfold shrI at h; split at h
  · rename_i hc
    injection h with h; subst h
    have h1 := hx.le _ _ _ (Has.ev (x := x) (τ := τ) (op := .binOp .shr t x y u) (by simp [Op.operands]) hl)
    have hm := D.wf h1
    have hm : intIn m := hm
    unfold intIn at hm
    have hd0 : 0 ≤ m / 2 ^ k.toNat := Int.ediv_nonneg hc.1 (Int.pow_nonneg (by decide))
    have hd1 : m / 2 ^ k.toNat ≤ m := Int.ediv_le_self _ hc.1
    refine OpY.toD (I_D (by omega) (by omega)) (OpY.val fun a w hl => ⟨.int .i64 (m / 2 ^ k.toNat), ?_, rfl⟩) a w hB hu hp hl
    have e1 : a.eval x = .int .i64 m := D_I _ _ _ (hx.le _ _ _ (Has.ev (x := x) (τ := τ) (op := .binOp .shr t x y u) (by simp [Op.operands]) hl))
    obtain ⟨K, e2⟩ := hy.ex _ _ _ (Has.ev (x := y) (τ := σ) (op := .binOp .shr t x y u) (by simp [Op.operands]) hl)
    have e3 : m.fdiv ((2 : Int) ^ (Min.min k.toNat IntKind.i64.bits : Nat)) = m / 2 ^ k.toNat := by
      rw [Int.fdiv_eq_ediv_of_nonneg _ (Int.pow_nonneg (by decide))]
      rcases Nat.le_total k.toNat 64 with hs | hs
      · rw [show Min.min k.toNat IntKind.i64.bits = k.toNat from Nat.min_eq_left hs]
      · rw [show Min.min k.toNat IntKind.i64.bits = 64 from Nat.min_eq_right hs]
        have hp : (2 : Nat) ^ 64 ≤ 2 ^ k.toNat := Nat.pow_le_pow_right (by decide) hs
        have hp2 : (2 : Int) ^ 64 ≤ 2 ^ k.toNat := by exact_mod_cast hp
        rw [Int.ediv_eq_zero_of_lt hc.1 (by omega), Int.ediv_eq_zero_of_lt hc.1 (by omega)]
    simp only [execOp, e1, e2, eqGuard_shr, binOp_shr, Op.shift]
    rw [if_neg (by omega)]
    simp only [e3, Sem.run_bind, Sem.run_pure, Result.andThen_ok]
  · cases h
theorem OpD.shli {x y : Operand} {τ σ : Ty} {t u : TypeId} {m k z : Int} [hsx : Has Γ x τ] [hx : ToD τ Int inferInstance m] [hsy : Has Γ y σ] [hy : AsCnt σ k] (h : shlI m k = some z) :
    OpY P B0 A Ω Γ ⟨dst, .binOp .shl t x y u, ty, pos, aft, gd⟩ (D z) := fun a w hB hu hp hl => by
  unfold shlI at h; split at h
  · rename_i hc
    injection h with h; subst h
    have hd0 : 0 ≤ m * 2 ^ k.toNat := Int.mul_nonneg hc.1 (Int.pow_nonneg (by decide))
    refine OpY.toD (I_D (by omega) (by omega)) (OpY.val fun a w hl => ⟨.int .i64 (m * 2 ^ k.toNat), ?_, rfl⟩) a w hB hu hp hl
    have e1 : a.eval x = .int .i64 m := D_I _ _ _ (hx.le _ _ _ (Has.ev (x := x) (τ := τ) (op := .binOp .shl t x y u) (by simp [Op.operands]) hl))
    obtain ⟨K, e2⟩ := hy.ex _ _ _ (Has.ev (x := y) (τ := σ) (op := .binOp .shl t x y u) (by simp [Op.operands]) hl)
    have e3 : IntKind.i64.wrap (m * (2 : Int) ^ (Min.min k.toNat IntKind.i64.bits : Nat)) = m * 2 ^ k.toNat := by
      rw [show Min.min k.toNat IntKind.i64.bits = k.toNat from Nat.min_eq_left (show k.toNat ≤ 64 by omega)]
      exact wrap64_in (by omega) (by omega)
    simp only [execOp, e1, e2, eqGuard_shl, binOp_shl, Op.shift]
    rw [if_neg (by omega)]
    simp only [e3, Sem.run_bind, Sem.run_pure, Result.andThen_ok]
  · cases h
end bi
end Go.Proofs.Ytefmfhbkihplgaa.Tr
namespace Go.Proofs.Ytefmfhbkihplgaa.Tr
open Go Go.RowKit Go.MapKept
section ops
variable {P : Program} {r0 r : Ref} {n : Nat} {Γ : Env} {Ω : List Pe} {Q : Exit → Act → World → Prop} {N : Nat} {M : List Int} {ops : Array Oper} {k : Nat} {rest : List Oper}
variable {t kt et ty : TypeId} {d : Tmp} {pos : String} {aft : Array Edge}
theorem TS.rest_l {o : Oper} (hl : ∀ j, (o :: rest)[j]? = ops[k + j]?) : ∀ j, rest[j]? = ops[k + 1 + j]? := fun j => by have := hl (j + 1); simpa [Nat.add_assoc, Nat.add_comm 1 j] using this
end ops
end Go.Proofs.Ytefmfhbkihplgaa.Tr
namespace Go.Proofs.Ytefmfhbkihplgaa.Tr
open Go Go.RowKit
section op
variable {P : Program} {B : Nat} {Ωs Ωt : List Pe} {ops : Array Oper}
theorem OpT.env {Γ1 Γ2 : Env} {o : Oper} {ν : Type} {τ : ν → Ty} {Ω' : ν → List Pe} (h : OpT P B Ωs Ωt Γ1 o τ Ω') (he : ∀ t ∈ o.looksAt ops, (Γ2 t).le (Γ1 t)) : OpT P B Ωs Ωt Γ2 o τ Ω' :=
  ⟨h.1, fun A0 a w hB hu ho ha hp hl => h.2 A0 a w hB hu ho ha hp fun t ht => he t (mem_looks ht) _ _ _ (hl t ht)⟩
theorem OpG.env {Γ1 Γ2 : Env} {o : Oper} {τ : Ty} (h : OpG P B ops Ωs Γ1 o τ) (he : ∀ t ∈ o.looksAt ops, (Γ2 t).le (Γ1 t)) : OpG P B ops Ωs Γ2 o τ :=
  fun A a w hB hu hp hl => h A a w hB hu hp fun t ht => he t ht _ _ _ (hl t ht)
theorem OpG.more {Γ : Env} {o : Oper} {τ : Ty} {Ω2 : List Pe} (h : OpG P B ops Ωs Γ o τ) (hk : ∀ A w, Pks A Ω2 w → Pks A Ωs w) : OpG P B ops Ω2 Γ o τ :=
  fun A a w hB hu hp hl => h A a w hB hu (hk _ _ hp) hl
theorem OpT.perm {Γ : Env} {o : Oper} {ν : Type} {τ : ν → Ty} {Ω' : ν → List Pe} {Ω2 : List Pe} (hp : Ω2.Perm Ωt) (h : OpT P B Ωs Ωt Γ o τ Ω') : OpT P B Ωs Ω2 Γ o τ fun g => Ω' g ++ [] :=
  OpT.frame (Ωt := Ωt) (Ωr := []) (by rw [List.append_nil]; exact hp) (by rw [List.append_nil]; exact h)
end op
structure Sub (F' F : Fam) where
  h : F'.ν → F.ν
  th : ∀ g t, (F'.Θ g t).le (F.Θ (h g) t)
  pm : ∀ g, (F'.Ω g).Perm (F.Ω (h g))
  tl : ∀ t, t ∈ F'.tl ↔ t ∈ F.tl
theorem put_le {Γ Δ : Env} {τ : Ty} {d : Option Tmp} (h : ∀ t, (Γ t).le (Δ t)) : ∀ t, (Γ.put d τ t).le (Δ.put d τ t) := fun t => by
  cases d with
  | none => exact h t
  | some d =>
    simp only [Env.put, Env.set]
    split
    · exact Ty.le.refl _
    · exact h t
def Sub.next {F' F : Fam} (s : Sub F' F) (d : Option Tmp) {μ : F.ν → Type} (τ : (g : F.ν) → μ g → Ty) (Ω' : (g : F.ν) → μ g → List Pe) (Ω'' : (g : F'.ν) → μ (s.h g) → List Pe) (hp : ∀ g m, (Ω'' g m).Perm (Ω' (s.h g) m)) :
    Sub (F'.next d (μ := fun g => μ (s.h g)) (fun g m => τ (s.h g) m) Ω'') (F.next d τ Ω') where
  h g := ⟨s.h g.1, g.2⟩
  th g := put_le (s.th g.1)
  pm g := hp g.1 g.2
  tl t := by simp only [Fam.next, List.mem_append, s.tl]
theorem or_le {Θ1 Θ2 Γ : Env} (h : ∀ t, (Θ1 t).le (Θ2 t)) (t : Tmp) : (Env.or Θ1 Γ t).le (Env.or Θ2 Γ t) := fun A w v x => ⟨h t A w v x.1, x.2⟩
def AllocU (P : Program) (o : Oper) (C : Ct) : Prop := ∀ (B : Nat) (Ωs Ω : List Pe) (Γ : Env), OpT P B Ωs Ω Γ o (fun b : Nat => Pt b 0) fun b => ⟨b, True, C⟩ :: Ω
section cls
variable (P : Program) (B : Nat) (Ωs : List Pe) (ops : Array Oper) (n : Nat) (cl : Nat → Nat)
def OpU (Γ : Env) (F : Fam) (o : Oper) {μ : F.ν → Type} (τ : (g : F.ν) → μ g → Ty) (Ω' : (g : F.ν) → μ g → List Pe) : Prop :=
  ∀ Ωr g, OpT P B (Ωs ++ Ωr) (F.Ω g) (Env.or (F.Θ g) Γ) o (τ g) (Ω' g)
def OpR (Γ : Env) (F : Fam) (o : Oper) (τ : F.ν → Ty) : Prop := ∀ g, OpG P B ops (Ωs ++ F.Ω g) (Env.or (F.Θ g) Γ) o (τ g)
def Stepc (c : Nat) (o : Oper) (K : Env → Fam → Prop) (Γ : Env) (F : Fam) : Prop :=
  (c = 0 ∧ (∀ t, o.dst = some t → t ∉ F.tl) ∧ ∃ τ, OpG P B ops Ωs Γ o τ ∧ K (Γ.put o.dst τ) F) ∨
  (c = 1 ∧ ∃ (μ : F.ν → Type) (τ : (g : F.ν) → μ g → Ty) (Ω' : (g : F.ν) → μ g → List Pe), OpU P B Ωs Γ F o τ Ω' ∧ K (Γ.put o.dst Ty.any) (F.next o.dst τ Ω')) ∨
  (c = 2 ∧ ∃ τ : F.ν → Ty, OpR P B Ωs ops Γ F o τ ∧ K (Γ.put o.dst Ty.any) (F.next o.dst (μ := fun _ => Unit) (fun g _ => τ g) fun g _ => F.Ω g)) ∨
  (c = 3 ∧ ∃ C, AllocU P o C ∧ K (Γ.put o.dst Ty.any) (F.next o.dst (μ := fun _ => Nat) (fun _ b => Pt b 0) fun g b => ⟨b, True, C⟩ :: F.Ω g))
def tOp2 (i : Nat) (K : Env → Fam → Prop) (Γ : Env) (F : Fam) : Prop :=
  match ops[i]? with
  | none => K Γ F
  | some o => (∀ t, o.dst = some t → t < n) ∧ Stepc P B Ωs ops (cl i) o K Γ F
def TRw2 : Nat → List Oper → Env → Fam → (Env → Fam → Prop) → Prop
  | _, [], Γ, F, K => K Γ F
  | k, o :: rest, Γ, F, K => (∀ t, o.dst = some t → t < n) ∧ Stepc P B Ωs ops (cl k) o (fun Γ F => TRw2 (k + 1) rest Γ F K) Γ F
def TAny2 (md : Region.Mode) (K : Env → Fam → Prop) : Nat → Array Bool → Env → Fam → Prop
  | 0, listed, Γ, F => Region.ready md ops listed = [] ∧ K Γ F
  | fuel + 1, listed, Γ, F =>
    (Region.ready md ops listed = [] → K Γ F) ∧
    ∀ i ∈ Region.ready md ops listed, tOp2 P B Ωs ops n cl i (TAny2 md K fuel (listed.setIfInBounds i true)) Γ F
end cls
def Cl (K : Env → Fam → Prop) : Prop := ∀ Γ F F', Sub F' F → K Γ F → K Γ F'
section any
variable {P : Program} {B : Nat} {Ωs : List Pe} {ops : Array Oper} {n : Nat} {cl : Nat → Nat} {md : Region.Mode}
theorem Stepc.mono {c : Nat} {o : Oper} {K K' : Env → Fam → Prop} {Γ : Env} {F : Fam} (h : ∀ Γ F, K Γ F → K' Γ F) (hh : Stepc P B Ωs ops c o K Γ F) : Stepc P B Ωs ops c o K' Γ F := by
  rcases hh with ⟨h0, h1, τ, h2, h3⟩ | ⟨h0, μ, τ, Ω', h2, h3⟩ | ⟨h0, τ, h2, h3⟩ | ⟨h0, C, h2, h3⟩
  · exact .inl ⟨h0, h1, τ, h2, h _ _ h3⟩
  · exact .inr (.inl ⟨h0, μ, τ, Ω', h2, h _ _ h3⟩)
  · exact .inr (.inr (.inl ⟨h0, τ, h2, h _ _ h3⟩))
  · exact .inr (.inr (.inr ⟨h0, C, h2, h _ _ h3⟩))
theorem tOp2.mono {i : Nat} {K K' : Env → Fam → Prop} {Γ : Env} {F : Fam} (h : ∀ Γ F, K Γ F → K' Γ F) (hh : tOp2 P B Ωs ops n cl i K Γ F) : tOp2 P B Ωs ops n cl i K' Γ F := by
  unfold tOp2 at *
  split
  · rename_i ho; simp only [ho] at hh; exact h _ _ hh
  · rename_i o ho; simp only [ho] at hh; exact ⟨hh.1, hh.2.mono h⟩
theorem Stepc.sub {c : Nat} {o : Oper} {K : Env → Fam → Prop} (hK : Cl K) {Γ : Env} {F F' : Fam} (s : Sub F' F) (hh : Stepc P B Ωs ops c o K Γ F) : Stepc P B Ωs ops c o K Γ F' := by
  rcases hh with ⟨h0, h1, τ, h2, h3⟩ | ⟨h0, μ, τ, Ω', h2, h3⟩ | ⟨h0, τ, h2, h3⟩ | ⟨h0, C, h2, h3⟩
  · exact .inl ⟨h0, fun t ht hm => h1 t ht ((s.tl t).1 hm), τ, h2, hK _ _ _ s h3⟩
  · refine .inr (.inl ⟨h0, fun g => μ (s.h g), fun g m => τ (s.h g) m, fun g m => Ω' (s.h g) m ++ [], fun Ωr g => OpT.env (ops := ops) (OpT.perm (s.pm g) (h2 Ωr (s.h g))) fun t _ => or_le (s.th g) t, hK _ _ _ (s.next _ _ _ _ fun g m => by rw [List.append_nil]) h3⟩)
  · refine .inr (.inr (.inl ⟨h0, fun g => τ (s.h g), fun g => OpG.more (OpG.env (h2 (s.h g)) fun t _ => or_le (s.th g) t) fun A w hk e he => hk e (((s.pm g).append_left Ωs).mem_iff.2 he), hK _ _ _ (s.next o.dst (μ := fun _ => Unit) (fun g _ => τ g) (fun g _ => F.Ω g) (fun g _ => F'.Ω g) fun g m => s.pm g) h3⟩))
  · exact .inr (.inr (.inr ⟨h0, C, h2, hK _ _ _ (s.next o.dst (μ := fun _ => Nat) (fun _ b => Pt b 0) (fun g b => ⟨b, True, C⟩ :: F.Ω g) (fun g b => ⟨b, True, C⟩ :: F'.Ω g) fun g m => (s.pm g).cons _) h3⟩))
theorem tOp2.sub {i : Nat} {K : Env → Fam → Prop} (hK : Cl K) : Cl (tOp2 P B Ωs ops n cl i K) := fun Γ F F' s hh => by
  unfold tOp2 at *
  split
  · rename_i ho; simp only [ho] at hh; exact hK _ _ _ s hh
  · rename_i o ho; simp only [ho] at hh; exact ⟨hh.1, hh.2.sub hK s⟩
theorem TAny2.sub {K : Env → Fam → Prop} (hK : Cl K) : ∀ (fuel : Nat) (listed : Array Bool), Cl (TAny2 P B Ωs ops n cl md K fuel listed)
  | 0, _ => fun Γ F F' s h => ⟨h.1, hK _ _ _ s h.2⟩
  | fuel + 1, listed => fun Γ F F' s h => ⟨fun h0 => hK _ _ _ s (h.1 h0), fun i hi => tOp2.sub (TAny2.sub hK fuel _) _ _ _ s (h.2 i hi)⟩
def Cmp (c d : Nat) : Prop := c = 0 ∨ d = 0 ∨ d = 3 ∨ (c = 2 ∧ d = 2)
theorem exch {j : Nat} {oi oj : Oper} {ci : Nat} (hj : ops[j]? = some oj) (hap : oi.apart ops oj = true) (hc : Cmp ci (cl j)) {K : Env → Fam → Prop} (hK : Cl K) {Γ : Env} {F : Fam}
    (h : Stepc P B Ωs ops ci oi (tOp2 P B Ωs ops n cl j K) Γ F) : tOp2 P B Ωs ops n cl j (fun Γ' F' => Stepc P B Ωs ops ci oi K Γ' F') Γ F := by
  obtain ⟨a1, a2, a3⟩ := Oper.apart_spec hap
  have e1 : ∀ (Γ : Env) (τ : Ty), ∀ t ∈ oj.looksAt ops, Γ.put oi.dst τ t = Γ t := fun Γ τ t ht => Env.put_other Γ τ fun e => a1 t e ht
  have e2 : ∀ (Γ : Env) (τ : Ty), ∀ t ∈ oi.looksAt ops, Γ.put oj.dst τ t = Γ t := fun Γ τ t ht => Env.put_other Γ τ fun e => a3 t e ht
  have pc : ∀ (Γ : Env) (τ σ : Ty), (Γ.put oi.dst τ).put oj.dst σ = (Γ.put oj.dst σ).put oi.dst τ := fun Γ τ σ => Env.put_comm Γ τ σ a2
  unfold tOp2 at *
  simp only [hj] at *
  rcases h with ⟨c0, hoff, τi, hi, hd, h⟩ | ⟨c0, μi, τi, Ωi, hi, hd, h⟩ | ⟨c0, τi, hi, hd, h⟩ | ⟨c0, Ci, hi, hd, h⟩
  · -- i touches nothing
    refine ⟨hd, ?_⟩
    rcases h with ⟨d0, hof, τ, ho, hk⟩ | ⟨d0, μ, τ, Ω', ho, hk⟩ | ⟨d0, τ, ho, hk⟩ | ⟨d0, C, ho, hk⟩
    · refine .inl ⟨d0, hof, τ, ho.congr fun t ht => (e1 Γ τi t ht).symm, .inl ⟨c0, hoff, τi, hi.congr fun t ht => e2 Γ τ t ht, ?_⟩⟩
      rw [← pc]; exact hk
    · refine .inr (.inl ⟨d0, μ, τ, Ω', fun Ωr g => OpT.env (ops := ops) (ho Ωr g) fun t ht A w v x => ⟨x.1, by rw [e1 Γ τi t ht]; exact x.2⟩, .inl ⟨c0, fun t ht hx => ?_, τi, hi.congr fun t ht => e2 Γ Ty.any t ht, ?_⟩⟩)
      · rcases List.mem_append.1 hx with hx | hx
        · exact a2 t ht (by simpa using hx)
        · exact hoff t ht hx
      · rw [← pc]; exact hk
    · refine .inr (.inr (.inl ⟨d0, τ, fun g => OpG.env (ho g) fun t ht A w v x => ⟨x.1, by rw [e1 Γ τi t ht]; exact x.2⟩, .inl ⟨c0, fun t ht hx => ?_, τi, hi.congr fun t ht => e2 Γ Ty.any t ht, ?_⟩⟩))
      · rcases List.mem_append.1 hx with hx | hx
        · exact a2 t ht (by simpa using hx)
        · exact hoff t ht hx
      · rw [← pc]; exact hk
    · refine .inr (.inr (.inr ⟨d0, C, ho, .inl ⟨c0, fun t ht hx => ?_, τi, hi.congr fun t ht => e2 Γ Ty.any t ht, ?_⟩⟩))
      · rcases List.mem_append.1 hx with hx | hx
        · exact a2 t ht (by simpa using hx)
        · exact hoff t ht hx
      · rw [← pc]; exact hk
  · -- i touches
    refine ⟨hd, ?_⟩
    have hi2 : ∀ (σ : Ty), OpU P B Ωs (Γ.put oj.dst σ) F oi τi Ωi := fun σ Ωr g => OpT.env (ops := ops) (hi Ωr g) fun t ht A w v x => ⟨x.1, by have := x.2; rwa [e2 Γ σ t ht] at this⟩
    rcases h with ⟨d0, hof, τ, ho, hk⟩ | ⟨d0, _⟩ | ⟨d0, _⟩ | ⟨d0, C, ho, hk⟩
    · refine .inl ⟨d0, fun t ht hx => hof t ht (List.mem_append_right _ hx), τ, ho.congr fun t ht => (e1 Γ Ty.any t ht).symm, .inr (.inl ⟨c0, μi, τi, Ωi, hi2 τ, ?_⟩)⟩
      rw [← pc]; exact hk
    · exact absurd hc (by unfold Cmp; omega)
    · exact absurd hc (by unfold Cmp; omega)
    · refine .inr (.inr (.inr ⟨d0, C, ho, .inr (.inl ⟨c0, fun g => μi g.1, fun g m => τi g.1 m, fun g m => Ωi g.1 m ++ [⟨g.2, True, C⟩], fun Ωr g => ?_, ?_⟩)⟩))
      · have h1 := hi2 Ty.any (Ωr ++ [⟨g.2, True, C⟩]) g.1
        rw [← List.append_assoc] at h1
        refine OpT.env (ops := ops) (OpT.frame (Ωt := F.Ω g.1) (Ωr := [⟨g.2, True, C⟩]) ?_ h1) fun t ht A w v x => ⟨?_, x.2⟩
        · exact (List.perm_append_comm (l₁ := [(⟨g.2, True, C⟩ : Pe)]) (l₂ := F.Ω g.1))
        · have := x.1
          rwa [show (F.next oj.dst (μ := fun _ => Nat) (fun _ b => Pt b 0) fun g b => ⟨b, True, C⟩ :: F.Ω g).Θ g t = (F.Θ g.1).put oj.dst (Pt g.2 0) t from rfl, e2 (F.Θ g.1) (Pt g.2 0) t ht] at this
      · rw [← pc]
        refine hK _ _ _ ?_ hk
        refine ⟨fun g => ⟨⟨g.1.1, g.2⟩, g.1.2⟩, fun g t => ?_, fun g => ?_, fun t => ?_⟩
        · show (((F.Θ g.1.1).put oj.dst (Pt g.1.2 0)).put oi.dst (τi g.1.1 g.2) t).le (((F.Θ g.1.1).put oi.dst (τi g.1.1 g.2)).put oj.dst (Pt g.1.2 0) t)
          rw [pc]; exact Ty.le.refl _
        · exact List.perm_append_comm (l₁ := Ωi g.1.1 g.2) (l₂ := [(⟨g.1.2, True, C⟩ : Pe)])
        · simp only [Fam.next, List.mem_append]; constructor <;> rintro (h | h | h) <;> simp [h]
  · -- i reads what is touched
    refine ⟨hd, ?_⟩
    have hi2 : ∀ (σ : Ty), OpR P B Ωs ops (Γ.put oj.dst σ) F oi τi := fun σ g => OpG.env (hi g) fun t ht A w v x => ⟨x.1, by have := x.2; rwa [e2 Γ σ t ht] at this⟩
    rcases h with ⟨d0, hof, τ, ho, hk⟩ | ⟨d0, _⟩ | ⟨d0, τ, ho, hk⟩ | ⟨d0, C, ho, hk⟩
    · refine .inl ⟨d0, fun t ht hx => hof t ht (List.mem_append_right _ hx), τ, ho.congr fun t ht => (e1 Γ Ty.any t ht).symm, .inr (.inr (.inl ⟨c0, τi, hi2 τ, ?_⟩))⟩
      rw [← pc]; exact hk
    · exact absurd hc (by unfold Cmp; omega)
    · refine .inr (.inr (.inl ⟨d0, fun g => τ ⟨g, ()⟩, fun g => OpG.env (ho ⟨g, ()⟩) fun t ht A w v x => ⟨?_, ?_⟩, .inr (.inr (.inl ⟨c0, fun g => τi g.1, fun g => OpG.env (hi2 Ty.any g.1) fun t ht A w v x => ⟨?_, x.2⟩, ?_⟩))⟩))
      · show ((F.Θ g).put oi.dst (τi g) t).p A w v
        rw [e1 (F.Θ g) (τi g) t ht]; exact x.1
      · rw [e1 Γ Ty.any t ht]; exact x.2
      · have := x.1
        rwa [show (F.next oj.dst (μ := fun _ => Unit) (fun g _ => τ ⟨g, ()⟩) fun g _ => F.Ω g).Θ g t = (F.Θ g.1).put oj.dst (τ ⟨g.1, ()⟩) t from rfl, e2 (F.Θ g.1) (τ ⟨g.1, ()⟩) t ht] at this
      · rw [← pc]
        refine hK _ _ _ ?_ hk
        refine ⟨fun g => ⟨⟨g.1.1, ()⟩, ()⟩, fun g t => ?_, fun g => List.Perm.refl _, fun t => ?_⟩
        · show (((F.Θ g.1.1).put oj.dst (τ ⟨g.1.1, ()⟩)).put oi.dst (τi g.1.1) t).le (((F.Θ g.1.1).put oi.dst (τi g.1.1)).put oj.dst (τ ⟨g.1.1, ()⟩) t)
          rw [pc]; exact Ty.le.refl _
        · simp only [Fam.next, List.mem_append]; constructor <;> rintro (h | h | h) <;> simp [h]
    · refine .inr (.inr (.inr ⟨d0, C, ho, .inr (.inr (.inl ⟨c0, fun g => τi g.1, fun g => OpG.more (OpG.env (hi2 Ty.any g.1) fun t ht A w v x => ⟨?_, x.2⟩) fun A w hk e he => ?_, ?_⟩))⟩))
      · have := x.1
        rwa [show (F.next oj.dst (μ := fun _ => Nat) (fun _ b => Pt b 0) fun g b => ⟨b, True, C⟩ :: F.Ω g).Θ g t = (F.Θ g.1).put oj.dst (Pt g.2 0) t from rfl, e2 (F.Θ g.1) (Pt g.2 0) t ht] at this
      · rcases List.mem_append.1 he with he | he
        · exact hk e (List.mem_append_left _ he)
        · exact hk e (List.mem_append_right _ (List.mem_cons_of_mem _ he))
      · rw [← pc]
        refine hK _ _ _ ?_ hk
        refine ⟨fun g => ⟨⟨g.1.1, ()⟩, g.1.2⟩, fun g t => ?_, fun g => List.Perm.refl _, fun t => ?_⟩
        · show (((F.Θ g.1.1).put oj.dst (Pt g.1.2 0)).put oi.dst (τi g.1.1) t).le (((F.Θ g.1.1).put oi.dst (τi g.1.1)).put oj.dst (Pt g.1.2 0) t)
          rw [pc]; exact Ty.le.refl _
        · simp only [Fam.next, List.mem_append]; constructor <;> rintro (h | h | h) <;> simp [h]
  · -- i makes a box
    refine ⟨hd, ?_⟩
    rcases h with ⟨d0, hof, τ, ho, hk⟩ | ⟨d0, _⟩ | ⟨d0, _⟩ | ⟨d0, C, ho, hk⟩
    · refine .inl ⟨d0, fun t ht hx => hof t ht (List.mem_append_right _ hx), τ, ho.congr fun t ht => (e1 Γ Ty.any t ht).symm, .inr (.inr (.inr ⟨c0, Ci, hi, ?_⟩))⟩
      rw [← pc]; exact hk
    · exact absurd hc (by unfold Cmp; omega)
    · exact absurd hc (by unfold Cmp; omega)
    · refine .inr (.inr (.inr ⟨d0, C, ho, .inr (.inr (.inr ⟨c0, Ci, hi, ?_⟩))⟩))
      rw [← pc]
      refine hK _ _ _ ?_ hk
      refine ⟨fun g => ⟨⟨g.1.1, g.2⟩, g.1.2⟩, fun g t => ?_, fun g => List.Perm.swap _ _ _, fun t => ?_⟩
      · show (((F.Θ g.1.1).put oj.dst (Pt g.1.2 0)).put oi.dst (Pt g.2 0) t).le (((F.Θ g.1.1).put oi.dst (Pt g.2 0)).put oj.dst (Pt g.1.2 0) t)
        rw [pc]; exact Ty.le.refl _
      · simp only [Fam.next, List.mem_append]; constructor <;> rintro (h | h | h) <;> simp [h]
theorem Stepc.any {c : Nat} {o : Oper} {K : Env → Fam → Prop} {Γ : Env} {F : Fam} (hh : Stepc P B Ωs ops c o K Γ F) : ∃ Γ' F', K Γ' F' := by
  rcases hh with ⟨h0, h1, τ, h2, h3⟩ | ⟨h0, μ, τ, Ω', h2, h3⟩ | ⟨h0, τ, h2, h3⟩ | ⟨h0, C, h2, h3⟩ <;> exact ⟨_, _, h3⟩
theorem getD_ft {listed : Array Bool} {t : Nat} (h : listed.getD t false = true) : listed.getD t true = true := by
  rcases Nat.lt_or_ge t listed.size with h' | h'
  · simp [h'] at h ⊢; exact h
  · simp [Array.getElem?_eq_none h']
def pathB (md : Region.Mode) (ops : Array Oper) : Nat → Nat → Nat → Bool
  | 0, _, _ => false
  | f + 1, j, i => (ops[j]?).any fun o => o.after.any fun e => Region.binds md e && (e.on == i || pathB md ops f e.on i)
def Down (md : Region.Mode) (ops : Array Oper) (listed : Array Bool) : Prop :=
  ∀ (j : Nat) (o : Oper), ops[j]? = some o → listed.getD j true = true → ∀ e ∈ o.after, Region.binds md e = true → listed.getD e.on true = true
theorem path_mem {f j i : Nat} (h : pathB md ops (f + 1) j i = true) : ∃ o, ops[j]? = some o ∧ ∃ e ∈ o.after, Region.binds md e = true ∧ (e.on = i ∨ pathB md ops f e.on i = true) := by
  simp only [pathB] at h
  cases ho : ops[j]? with
  | none => rw [ho] at h; simp at h
  | some o =>
    rw [ho] at h
    simp only [Option.any_some] at h
    obtain ⟨k, hk, he⟩ := Array.any_eq_true.1 h
    simp only [Bool.and_eq_true, Bool.or_eq_true, beq_iff_eq] at he
    exact ⟨o, rfl, _, Array.getElem_mem hk, he.1, he.2⟩
theorem Down.path {listed : Array Bool} (hd : Down md ops listed) : ∀ (f j i : Nat), pathB md ops f j i = true → listed.getD j true = true → listed.getD i true = true
  | 0, _, _, h, _ => by simp [pathB] at h
  | f + 1, j, i, h, hj => by
    obtain ⟨o, ho, e, he, hb, h1⟩ := path_mem h
    have h2 := hd j o ho hj e he hb
    rcases h1 with rfl | h1
    · exact h2
    · exact hd.path f _ i h1 h2
theorem Down.ready {listed : Array Bool} (hd : Down md ops listed) {f j i : Nat} (h : pathB md ops f j i = true) (hj : j ∈ Region.ready md ops listed) : listed.getD i true = true := by
  cases f with
  | zero => simp [pathB] at h
  | succ f =>
    obtain ⟨o, ho, e, he, hb, h1⟩ := path_mem h
    obtain ⟨_, oj, hoj, hall⟩ := mem_ready.1 hj
    rw [ho] at hoj; injection hoj with hoj; subst hoj
    have h2 : listed.getD e.on true = true := getD_ft (hall e he hb)
    rcases h1 with rfl | h1
    · exact h2
    · exact hd.path f _ i h1 h2
theorem getD_set_true {listed : Array Bool} {j t : Nat} (h : listed.getD t true = true) : (listed.setIfInBounds j true).getD t true = true := by
  by_cases hjt : j = t
  · subst hjt
    by_cases hj : j < listed.size
    · simp [hj]
    · rw [Array.getD_eq_getD_getElem?, Array.getElem?_eq_none (by simpa using hj)]; rfl
  · rw [getD_set_ne true hjt]; exact h
theorem Down.set {listed : Array Bool} (hd : Down md ops listed) {j : Nat} (hj : j ∈ Region.ready md ops listed) : Down md ops (listed.setIfInBounds j true) := fun k o ho hk e he hb => by
  refine getD_set_true ?_
  by_cases hjk : j = k
  · subst hjk
    obtain ⟨_, oj, hoj, hall⟩ := mem_ready.1 hj
    rw [ho] at hoj; injection hoj with hoj; subst hoj
    exact getD_ft (hall e he hb)
  · rw [getD_set_ne true hjk] at hk
    exact hd k o ho hk e he hb
theorem TAny2_first {K : Env → Fam → Prop} (hK : Cl K) {i : Nat} {oi : Oper} (hi : ops[i]? = some oi) (hdi : ∀ t, oi.dst = some t → t < n) :
    ∀ (fuel : Nat) (listed : Array Bool) (Γ : Env) (F : Fam),
      (∀ j oj, ops[j]? = some oj → j ≠ i → listed.getD j true = false → (∀ e ∈ oj.after, Region.binds md e = true → e.on ≠ i) → oi.apart ops oj = true) →
      (∀ j, j < ops.size → j ≠ i → listed.getD j true = false → Cmp (cl i) (cl j) ∨ ∃ f, pathB md ops f j i = true) → Down md ops listed →
      i ∈ Region.ready md ops listed → Stepc P B Ωs ops (cl i) oi (TAny2 P B Ωs ops n cl md K fuel (listed.setIfInBounds i true)) Γ F → TAny2 P B Ωs ops n cl md K (fuel + 1) listed Γ F := by
  intro fuel
  induction fuel with
  | zero =>
    intro listed Γ F _ _ _ hr hy
    refine ⟨fun h => (by rw [h] at hr; cases hr), fun j hj => ?_⟩
    by_cases hji : j = i
    · subst hji; unfold tOp2; simp only [hi]
      exact ⟨hdi, hy⟩
    · have := ready_mono hj hji
      obtain ⟨Γ', F', H⟩ := hy.any
      rw [H.1] at this; cases this
  | succ fuel ih =>
    intro listed Γ F hfree hcm hdn hr hy
    refine ⟨fun h => (by rw [h] at hr; cases hr), fun j hj => ?_⟩
    by_cases hji : j = i
    · subst hji; unfold tOp2; simp only [hi]
      exact ⟨hdi, hy⟩
    · obtain ⟨hjun, oj, hoj, hall⟩ := mem_ready.1 hj
      have hiun := (mem_ready.1 hr).1
      have hnot : ∀ e ∈ oj.after, Region.binds md e = true → e.on ≠ i := fun e he hb heq => by
        have h1 := hall e he hb
        have h0 := (mem_ready.1 hr).1
        rw [heq] at h1
        rcases Nat.lt_or_ge i listed.size with h' | h'
        · simp [h'] at h0 h1; rw [h0] at h1; cases h1
        · simp [Array.getElem?_eq_none h'] at h1
      have hap := hfree j oj hoj hji hjun hnot
      have hlt : j < ops.size := (Array.getElem?_eq_some_iff.1 hoj).1
      have hc : Cmp (cl i) (cl j) := by
        rcases hcm j hlt hji hjun with h | ⟨f, h⟩
        · exact h
        · have h1 := hdn.ready h hj
          rcases Nat.lt_or_ge i listed.size with h' | h'
          · simp [h'] at hiun h1; rw [hiun] at h1; cases h1
          · simp [Array.getElem?_eq_none h'] at hiun
      have hun' : ∀ k, (listed.setIfInBounds j true).getD k true = false → listed.getD k true = false := fun k hun => by
        by_cases hjk : j = k
        · subst hjk; exact hjun
        · rw [getD_set_ne true hjk] at hun; exact hun
      have h1 := exch hoj hap hc (TAny2.sub hK fuel _) (hy.mono fun Γ' F' H => H.2 j (ready_mono hj hji))
      refine tOp2.mono (fun Γ' F' h3 => ih (listed.setIfInBounds j true) Γ' F' (fun k ok hk hki hun hno => hfree k ok hk hki (hun' k hun) hno) (fun k hk hki hun => hcm k hk hki (hun' k hun)) (hdn.set hj) (ready_mono hr (Ne.symm hji)) ?_) h1
      rw [Array.setIfInBounds_comm _ _ hji]
      exact h3
def okB (md : Region.Mode) (ops : Array Oper) (cl : Nat → Nat) (N : Nat) : Bool :=
  (List.range N).all fun i => (List.range N).all fun j => decide (j ≤ i) || (cl i == 0 || cl j == 0 || cl j == 3 || (cl i == 2 && cl j == 2)) || pathB md ops N j i
theorem okB_spec {N : Nat} (h : okB md ops cl N = true) {i j : Nat} (hi : i < N) (hj : j < N) (hij : i < j) : Cmp (cl i) (cl j) ∨ ∃ f, pathB md ops f j i = true := by
  simp only [okB, List.all_eq_true, List.mem_range, Bool.or_eq_true, decide_eq_true_eq, Bool.and_eq_true, beq_iff_eq] at h
  rcases h i hi j hj with (h | h) | h
  · omega
  · left; unfold Cmp; omega
  · exact .inr ⟨_, h⟩
theorem TAny2_lex (hc : okB md ops cl ops.size = true) {K : Env → Fam → Prop} (hK : Cl K) : ∀ (l : List Oper) (k : Nat) (listed : Array Bool) (Γ : Env) (F : Fam), (∀ j, l[j]? = ops[k + j]?) → listed.size = ops.size → (∀ t, t < ops.size → listed.getD t true = decide (t < k)) → Down md ops listed →
    Region.lexFrom md ops l.length k listed = true → TRw2 P B Ωs ops n cl k l Γ F K → TAny2 P B Ωs ops n cl md K l.length listed Γ F
  | [], _, _, _, _, _, _, _, _, hB, h => ⟨by simpa [Region.lexFrom] using hB, h⟩
  | o :: l, k, listed, Γ, F, hl, hz, ht, hdn, hB, h => by
    have h0 : ops[k]? = some o := by simpa using (hl 0).symm
    have hk : k < ops.size := (Array.getElem?_eq_some_iff.1 h0).1
    simp only [List.length_cons, Region.lexFrom, Bool.and_eq_true] at hB
    obtain ⟨⟨hr, hf⟩, hB'⟩ := hB
    obtain ⟨hd, h⟩ := h
    have hr' : k ∈ Region.ready md ops listed := by simpa using hr
    have ih := fun Γ' F' hK' => TAny2_lex hc hK l (k + 1) (listed.setIfInBounds k true) Γ' F' (fun j => by have := hl (j + 1); simpa [Nat.add_assoc, Nat.add_comm 1 j] using this) (by simpa using hz) (fun t hts => by
      by_cases h1 : k = t
      · subst h1
        have : k < listed.size := by omega
        simp [this]
      · rw [getD_set_ne true h1, ht t hts, decide_eq_decide]; omega) (hdn.set hr') hB' hK'
    refine TAny2_first hK h0 hd l.length listed Γ F (Region.free_spec h0 hf) (fun j hj hji hun => ?_) hdn hr' (h.mono fun Γ' F' h' => ih _ _ h')
    rw [ht j hj] at hun
    exact okB_spec hc hk hj (by have := of_decide_eq_false hun; omega)
end any
section world
variable {P : Program} {r : Ref} {n : Nat} {Ωs : List Pe} {ops : Array Oper} {cl : Nat → Nat} {md : Region.Mode}
theorem RSt.putG {Γ : Env} {F : Fam} {a : Act} {w w' : World} {d : Option Tmp} {v : Value} {τ : Ty} {g : F.ν} (ha : Stt r n (Env.or (F.Θ g) Γ) (Ωs ++ F.Ω g) a w) (hd : ∀ t, d = some t → t < n) (hof : ∀ t, d = some t → t ∉ F.tl)
    (hg : Grow r.w.heap.size w w') (hv : τ.p (Pub r.A (Ωs ++ F.Ω g)) w' v) : RSt r n Ωs (Γ.put d τ) F (a.put d v) w' := by
  have hst := ha.put (d := d) (τ := τ) hd hg hv
  refine ⟨g, hst.sz, hst.df, hst.mu, fun t => ?_, hst.pv⟩
  have ht := hst.ty t
  cases hdst : d with
  | none => rw [hdst] at ht; exact ht
  | some d =>
    rw [hdst] at ht
    simp only [Env.put, Env.set, Env.or] at ht ⊢
    by_cases htd : t = d
    · subst htd
      simp only [if_true] at ht ⊢
      rw [F.off g t (hof t hdst)]
      exact ⟨trivial, ht⟩
    · simp only [htd, if_false] at ht ⊢
      exact ht
theorem RSt.putN {Γ : Env} {F : Fam} {a : Act} {w' : World} {d : Option Tmp} {v : Value} {g : F.ν} {μ : F.ν → Type} {τ : (g : F.ν) → μ g → Ty} {Ω' : (g : F.ν) → μ g → List Pe} {m : μ g}
    (hst : Stt r n ((Env.or (F.Θ g) Γ).put d (τ g m)) (Ωs ++ Ω' g m) (a.put d v) w') : RSt r n Ωs (Γ.put d Ty.any) (F.next d τ Ω') (a.put d v) w' := by
  refine ⟨(⟨g, m⟩ : (g : F.ν) × μ g), hst.sz, hst.df, hst.mu, fun t => ?_, hst.pv⟩
  have ht := hst.ty t
  cases hdst : d with
  | none => rw [hdst] at ht; simpa only [Fam.next, Env.put] using ht
  | some d =>
    rw [hdst] at ht
    simp only [Fam.next, Env.put, Env.set, Env.or] at ht ⊢
    by_cases htd : t = d
    · subst htd
      simp only [if_true] at ht ⊢
      exact ⟨ht, trivial⟩
    · simp only [htd, if_false] at ht ⊢
      exact ht
theorem wpOp_of_tOp2 [op : Opens r] {i : Nat} {Γ : Env} {F : Fam} {K : Env → Fam → Prop} {K' : Act → World → Prop} {Q' : Exit → Act → World → Prop} {a : Act} {w : World} (ha : RSt r n Ωs Γ F a w)
    (h : ∀ Γ' F' a' w', RSt r n Ωs Γ' F' a' w' → K Γ' F' → K' a' w') (hh : tOp2 P r.w.heap.size Ωs ops n cl i K Γ F) : wpOpIn (FR r.ρ) 0 P ops Q' i K' a w := by
  unfold tOp2 at hh
  unfold wpOpIn
  split
  · rename_i ho; simp only [ho] at hh; exact h _ _ _ _ ha hh
  · rename_i o ho
    simp only [ho] at hh
    obtain ⟨hd, hh⟩ := hh
    obtain ⟨g, ha⟩ := ha
    rcases hh with ⟨_, hof, τ, hy, hK⟩ | ⟨_, μ, τ, Ω', hy, hK⟩ | ⟨_, τ, hy, hK⟩ | ⟨_, C, hy, hK⟩
    · have hy := hy (Pub r.A (Ωs ++ F.Ω g)) a w ha.mu.size ha.up (Pks_append.1 ha.pv.ks).1 fun t _ => (ha.ty t).2
      split
      · rename_i hw
        simp only [hw, if_true] at hy
        exact wp_of_yields hy fun v w' hg hv => h _ _ _ _ (RSt.putG ha hd hof hg hv) hK
      · rename_i hw
        simp only [hw] at hy
        exact ⟨fun _ _ => trivial, h _ _ _ _ (RSt.putG ha hd hof (Grow.refl _ _) hy) hK⟩
    · have hy := hy [] g
      rw [List.append_nil] at hy
      have hg := hy.1
      have hy := ha.opT ha.ty hy
      rw [if_pos (by simp [Region.wanted, hg])]
      exact wp_of_yieldsT hy fun m v w' haf => h _ _ _ _ (RSt.putN (ha.T (d := o.dst) hd haf)) hK
    · have hy := hy g (Pub r.A (Ωs ++ F.Ω g)) a w ha.mu.size ha.up ha.pv.ks fun t _ => ha.ty t
      split
      · rename_i hw
        simp only [hw, if_true] at hy
        exact wp_of_yields hy fun v w' hg hv => h _ _ _ _ (RSt.putN (μ := fun _ => Unit) (τ := fun g _ => τ g) (Ω' := fun g _ => F.Ω g) (m := ()) (ha.put (d := o.dst) hd hg hv)) hK
      · rename_i hw
        simp only [hw] at hy
        exact ⟨fun _ _ => trivial, h _ _ _ _ (RSt.putN (μ := fun _ => Unit) (τ := fun g _ => τ g) (Ω' := fun g _ => F.Ω g) (m := ()) (ha.put (d := o.dst) hd (Grow.refl _ _) hy)) hK⟩
    · have hy := hy r.w.heap.size Ωs (F.Ω g) (Env.or (F.Θ g) Γ)
      have hg := hy.1
      have hy := ha.opT ha.ty hy
      rw [if_pos (by simp [Region.wanted, hg])]
      exact wp_of_yieldsT hy fun m v w' haf => h _ _ _ _ (RSt.putN (μ := fun _ => Nat) (τ := fun _ b => Pt b 0) (Ω' := fun g b => ⟨b, True, C⟩ :: F.Ω g) (m := m) (ha.T (d := o.dst) hd haf)) hK
theorem wpAny_of_T2 [op : Opens r] {K : Env → Fam → Prop} {Q' : Exit → Act → World → Prop} (hQ : ∀ Γ F a w, RSt r n Ωs Γ F a w → K Γ F → Q' .normal a w) : ∀ (fuel : Nat) (listed : Array Bool) (Γ : Env) (F : Fam) (a : Act) (w : World),
    RSt r n Ωs Γ F a w → TAny2 P r.w.heap.size Ωs ops n cl md K fuel listed Γ F → wpAnyIn (FR r.ρ) 0 P md ops Q' fuel listed a w
  | 0, _, _, _, _, _, ha, h => ⟨h.1, hQ _ _ _ _ ha h.2⟩
  | fuel + 1, _, _, _, _, _, ha, h => ⟨fun h0 => hQ _ _ _ _ ha (h.1 h0), fun i hi => wpOp_of_tOp2 ha (fun Γ' F' a' w' ha' hK => wpAny_of_T2 hQ fuel _ Γ' F' a' w' ha' hK) (h.2 i hi)⟩
end world
section rules
variable {P : Program} {r : Ref} {n : Nat} {Γ : Env} {Ω Ωs Ωt : List Pe} {Q : Exit → Act → World → Prop} [op : Opens r]
theorem Less.tail {Ω1 Ω2 : List Pe} (hp : Ω1.Perm Ω2) : Less (Ωs ++ Ω1) (Ωs ++ Ω2) := Less.perm (hp.append_left Ωs)
theorem TC.regionD2 {id : Nat} {l : List Oper} {R : Env → List Pe → Prop} {Q' : Exit → Act → World → Prop} (cs : List Nat) (hΩ : Less Ω (Ωs ++ Ωt)) (hm : P.follows .mixedOrders = true) (hB : Region.lexB .any l.toArray = true) (hc : okB .any l.toArray (fun k => cs.getD k 0) l.toArray.size = true)
    (hR : ∀ Γ Ω, R Γ Ω → ∀ a w, Stt r n Γ Ω a w → Q' .normal a w)
    (hle : ∀ Γ Γ' Ω1 Ω2, Γ'.le Γ → Ω1.Perm Ω2 → R Γ (Ωs ++ Ω2) → R Γ' (Ωs ++ Ω1))
    (h : TRw2 P r.w.heap.size Ωs l.toArray n (fun k => cs.getD k 0) 0 l Γ (Fam.one Ωt) fun Γ' F' => ∀ g, R (Env.or (F'.Θ g) Γ') (Ωs ++ F'.Ω g)) : TC P r n Γ Ω (.region id l.toArray true) Q' := by
  intro a w hs
  have hs := hs.less hΩ
  simp only [Region.lexB, Bool.and_eq_true] at hB
  refine wpIn_region_any hm ?_
  have hK : Cl fun Γ' F' => ∀ g, R (Env.or (F'.Θ g) Γ') (Ωs ++ F'.Ω g) := fun Γ F F' s hk g => hle _ _ _ _ (fun t => or_le (s.th g) t) (s.pm g) (hk (s.h g))
  have h2 := TAny2_lex (P := P) (md := .any) (ops := l.toArray) hc hK l 0 (Array.replicate l.toArray.size false) Γ (Fam.one Ωt) (fun j => by simp) (by simp) (fun t ht => by
    rw [Array.getD_eq_getD_getElem?, Array.getElem?_replicate]; simp at ht; simp [ht]) (fun j o ho hj => by
      have hlt : j < l.toArray.size := (Array.getElem?_eq_some_iff.1 ho).1
      rw [Array.getD_eq_getD_getElem?, Array.getElem?_replicate, if_pos hlt] at hj; cases hj) (by simpa using hB.2) h
  have hg : Grow r.w.heap.size w { w with drawn := w.drawn + 1 } := Grow.drawn _
  have h3 : RSt r n Ωs Γ (Fam.one Ωt) a { w with drawn := w.drawn + 1 } :=
    ⟨(), hs.sz, hs.df, hs.mu.stp (Stp.of_grow (S := fun _ => False) hg) (fun j hj => hj.elim), fun t => ⟨trivial, (Γ t).st hg (hs.ty t)⟩, hs.pv.grow hg⟩
  have := wpAny_of_T2 (P := P) (Q' := Q') (md := .any) (fun Γ' F' a w ⟨g, hok⟩ hK => hR _ _ (hK g) a w hok) _ _ Γ (Fam.one Ωt) a { w with drawn := w.drawn + 1 } h3 h2
  simpa using this
theorem TC.regD2 {id : Nat} {l : List Oper} (cs : List Nat) (bs : List Nat) [hs : Split Ω bs Ωs Ωt] (hm : P.follows .mixedOrders = true) (hB : Region.lexB .any l.toArray = true) (hc : okB .any l.toArray (fun k => cs.getD k 0) l.toArray.size = true)
    (h : TRw2 P r.w.heap.size Ωs l.toArray n (fun k => cs.getD k 0) 0 l Γ (Fam.one Ωt) fun Γ' F' => ∀ g, TE r n (Env.or (F'.Θ g) Γ') (Ωs ++ F'.Ω g) Q .normal) : TC P r n Γ Ω (.region id l.toArray true) Q :=
  TC.regionD2 (R := fun Γ Ω => TE r n Γ Ω Q .normal) cs (Less.perm hs.perm) hm hB hc (fun _ _ h => h) (fun _ _ _ _ h1 h2 h3 => TE.weaken h1 (TE.less (Less.tail h2) h3)) h
theorem TC.seqD2 {id : Nat} {l : List Oper} {y : Code} (cs : List Nat) (bs : List Nat) [hs : Split Ω bs Ωs Ωt] (hm : P.follows .mixedOrders = true) (hB : Region.lexB .any l.toArray = true) (hc : okB .any l.toArray (fun k => cs.getD k 0) l.toArray.size = true)
    (h : TRw2 P r.w.heap.size Ωs l.toArray n (fun k => cs.getD k 0) 0 l Γ (Fam.one Ωt) fun Γ' F' => ∀ g, TC P r n (Env.or (F'.Θ g) Γ') (Ωs ++ F'.Ω g) y Q) : TC P r n Γ Ω (.seq (.region id l.toArray true) y) Q :=
  TC.seq (TC.regionD2 (R := fun Γ Ω => TC P r n Γ Ω y Q) cs (Less.perm hs.perm) hm hB hc (fun _ _ h => h) (fun _ _ _ _ h1 h2 h3 => TC.weaken h1 (TC.less (Less.tail h2) h3)) h)
end rules
section steps
variable {P : Program} {B : Nat} {Ωs : List Pe} {ops : Array Oper} {n : Nat} {cl : Nat → Nat} {k : Nat} {Γ : Env} {F : Fam} {K : Env → Fam → Prop}
theorem TR2.nil (h : K Γ F) : TRw2 P B Ωs ops n cl k [] Γ F K := h
theorem TR2.G {d : Tmp} {op : Op} {ty : TypeId} {pos : String} {aft : Array Edge} {gd : Option (Nat × Bool)} {rest : List Oper} {τ : Ty}
    (h : OpG P B ops Ωs Γ ⟨some d, op, ty, pos, aft, gd⟩ τ) (hd : (Nat.blt d n && Nat.beq (cl k) 0 && !F.tl.contains d) = true) (hk : TRw2 P B Ωs ops n cl (k + 1) rest (Γ.set d τ) F K) : TRw2 P B Ωs ops n cl k (⟨some d, op, ty, pos, aft, gd⟩ :: rest) Γ F K := by
  simp only [Bool.and_eq_true, Bool.not_eq_true'] at hd
  exact ⟨fun t e => by injection e with e; subst e; simpa using hd.1.1, .inl ⟨Nat.eq_of_beq_eq_true hd.1.2, fun t e => by injection e with e; subst e; simpa using hd.2, τ, h, hk⟩⟩
theorem TR2.s {d : Tmp} {op : Op} {ty : TypeId} {pos : String} {aft : Array Edge} {rest : List Oper} {τ : Ty}
    (h : ∀ {A : Nat → Prop}, OpY P B A Ωs Γ ⟨some d, op, ty, pos, aft, none⟩ τ) (hd : (Nat.blt d n && Nat.beq (cl k) 0 && !F.tl.contains d) = true) (hk : TRw2 P B Ωs ops n cl (k + 1) rest (Γ.set d τ) F K) : TRw2 P B Ωs ops n cl k (⟨some d, op, ty, pos, aft, none⟩ :: rest) Γ F K :=
  TR2.G (OpG.s h) hd hk
theorem TR2.tn {op : Op} {ty : TypeId} {pos : String} {aft : Array Edge} {gd : Option (Nat × Bool)} {rest : List Oper} {μ : F.ν → Type} {τ : (g : F.ν) → μ g → Ty} {Ω' : (g : F.ν) → μ g → List Pe}
    (h : ∀ Ωr g, OpT P B (Ωs ++ Ωr) (F.Ω g) (Env.or (F.Θ g) Γ) ⟨none, op, ty, pos, aft, gd⟩ (τ g) (Ω' g)) (hd : Nat.beq (cl k) 1 = true) (hk : TRw2 P B Ωs ops n cl (k + 1) rest Γ (F.nextN Ω') K) : TRw2 P B Ωs ops n cl k (⟨none, op, ty, pos, aft, gd⟩ :: rest) Γ F K :=
  ⟨fun t e => (by cases e), .inr (.inl ⟨Nat.eq_of_beq_eq_true hd, μ, τ, Ω', h, hk⟩)⟩
theorem TR2.r {d : Tmp} {op : Op} {ty : TypeId} {pos : String} {aft : Array Edge} {gd : Option (Nat × Bool)} {rest : List Oper} {τ : F.ν → Ty}
    (h : ∀ g, OpG P B ops (Ωs ++ F.Ω g) (Env.or (F.Θ g) Γ) ⟨some d, op, ty, pos, aft, gd⟩ (τ g)) (hd : (Nat.blt d n && Nat.beq (cl k) 2) = true) (hk : TRw2 P B Ωs ops n cl (k + 1) rest (Γ.set d Ty.any) (F.nextS d (μ := fun _ => Unit) (fun g _ => τ g) fun g _ => F.Ω g) K) : TRw2 P B Ωs ops n cl k (⟨some d, op, ty, pos, aft, gd⟩ :: rest) Γ F K := by
  simp only [Bool.and_eq_true] at hd
  exact ⟨fun t e => by injection e with e; subst e; simpa using hd.1, .inr (.inr (.inl ⟨Nat.eq_of_beq_eq_true hd.2, τ, h, hk⟩))⟩
end steps
end Go.Proofs.Ytefmfhbkihplgaa.Tr
namespace Go.Proofs.Ytefmfhbkihplgaa.Tr
open Go Go.RowKit
def offS (L : List Nat) (j : Nat) : Nat := (L.take j).sum
theorem offS_length (L : List Nat) : offS L L.length = L.sum := by unfold offS; rw [List.take_length]
theorem offS_append (L M : List Nat) {j : Nat} (h : j ≤ L.length) : offS (L ++ M) j = offS L j := by
  unfold offS; rw [List.take_append_of_le_length h]
def RowS (b : Nat) (pr : Prop) (z : Nat) (L : List Nat) (m : Nat) : Ct :=
  ⟨fun A w cs => cs.length = m ∧ L.length ≤ m ∧ m ≤ maxLen ∧ m ≤ most ∧ ∀ j (h : j < L.length), (Sv b pr (offS L j * z) L[j]).p A w (cs.getD j undef), fun _ h => h⟩
theorem RowS.nil {α : Type} {i : Dat α} {b z m : Nat} {pr : Prop} {xs : List (List α)} (hm : m = xs.length) : ∀ A w cs, (Row xs m).p A w cs → (RowS b pr z [] m).p A w cs := fun A w cs ⟨h1, h2, h3, h4, h5⟩ =>
  ⟨by rw [h1]; exact Nat.mul_one m, Nat.zero_le _, h3, by omega, fun j h => absurd h (by simp)⟩
theorem RowS.put {b z m n o o2 : Nat} {pr : Prop} {L : List Nat} (ho : o = L.length) (hm : L.length < m) (h2 : o2 = L.sum * z) : CtH (RowS b pr z L m) o (Sv b pr o2 n) (RowS b pr z (L ++ [n]) m) := ⟨fun {A w cs v} ⟨h1, h3, h4, h5, h6⟩ hv => by
  subst ho; subst h2
  refine ⟨by omega, by rw [List.length_set]; exact h1, by simp; omega, h4, h5, fun j hj => ?_⟩
  simp only [List.length_append, List.length_singleton] at hj
  by_cases hjl : j = L.length
  · subst hjl
    rw [List.getD_eq_getElem?_getD, List.getElem?_set_self (by omega), offS_append _ _ (Nat.le_refl _), offS_length]
    simpa using hv
  · rw [List.getD_eq_getElem?_getD, List.getElem?_set_ne (Ne.symm hjl), ← List.getD_eq_getElem?_getD, offS_append _ _ (by omega), List.getElem_append_left (by omega)]
    exact h6 j (by omega)⟩
theorem RowS.at {b z m o j : Nat} {pr : Prop} {L : List Nat} (hj : j < L.length) (ho : o = j) : CeH (RowS b pr z L m) o (Sv b pr (offS L j * z) L[j]) := ⟨fun {A w cs} ⟨h1, h3, h4, h5, h6⟩ => by
  subst ho
  exact ⟨by omega, h6 o hj⟩⟩
section flat
variable {α : Type}
theorem flat_off (p : List (List α)) (j : Nat) : (p.take j).flatten.length = offS (p.map List.length) j := by
  unfold offS
  rw [← List.map_take]
  induction p.take j with
  | nil => rfl
  | cons x xs ih => simp only [List.flatten_cons, List.length_append, List.map_cons, List.sum_cons, ih]
theorem flat_split {p : List (List α)} {j : Nat} (hj : j < p.length) : p.flatten = (p.take j).flatten ++ (p[j] ++ (p.drop (j + 1)).flatten) := by
  conv => lhs; rw [← List.take_append_drop j p]
  rw [List.flatten_append, List.drop_eq_getElem_cons hj, List.flatten_cons]
theorem flat_part {p : List (List α)} {j : Nat} (hj : j < p.length) : (p.flatten.drop (offS (p.map List.length) j)).take p[j].length = p[j] := by
  rw [flat_split hj, ← flat_off, List.drop_left, List.take_left]
theorem flat_fit {p : List (List α)} {j : Nat} (hj : j < p.length) : offS (p.map List.length) j + p[j].length ≤ p.flatten.length := by
  rw [flat_split hj, ← flat_off]; simp
theorem flat_set {p : List (List α)} {j : Nat} (hj : j < p.length) {ys : List α} (hy : ys.length = p[j].length) : splice p.flatten (offS (p.map List.length) j) ys = (p.set j ys).flatten := by
  have e1 : (p.set j ys).flatten = (p.take j).flatten ++ (ys ++ (p.drop (j + 1)).flatten) := by
    rw [flat_split (p := p.set j ys) (j := j) (by simpa using hj)]
    rw [List.take_set_of_le (Nat.le_refl _), List.drop_set_of_lt (by omega)]
    simp
  rw [e1]
  unfold splice
  rw [flat_split hj, ← flat_off, List.take_left, hy, ← List.append_assoc (p.take j).flatten p[j], ← List.length_append, List.drop_left, List.append_assoc]
theorem flat_set_lens {p : List (List α)} {j : Nat} (hj : j < p.length) {ys : List α} (hy : ys.length = p[j].length) : (p.set j ys).map List.length = p.map List.length := by
  rw [List.map_set]
  refine List.ext_getElem (by simp) fun k h1 h2 => ?_; rw [List.getElem_set]
  split
  · rename_i e; subst e; simp [hy]
  · rfl
end flat
theorem PlS.flat {α : Type} {i : Dat α} {p : List (List α)} {c j n : Nat} (hj : j < p.length) (hn : n = offS (p.map List.length) j) : PlS (Row p.flatten c) (n * Dat.sz α) α i p[j] fun ys => Row (splice p.flatten n ys) c := by
  subst hn
  have h := PlS.row (i := i) (c := c) (flat_fit hj)
  rwa [flat_part hj] at h
theorem PlS.flat2 {α : Type} {i : Dat α} {p : List (List α)} {c j n : Nat} (hj : j < p.length) (hn : n = offS (p.map List.length) j) : PlS (Row p.flatten c) (n * Dat.sz α) α i p[j] fun ys => Row (p.set j ys).flatten c := by
  have h := PlS.flat (i := i) (c := c) hj hn
  refine ⟨h.mo, h.rd, fun ys hy hc hl he => ?_⟩
  have h2 := h.st ys hy hc hl he
  rw [hn] at h2
  rw [flat_set hj hy] at h2
  rw [hn]; exact h2
theorem Pl.part {α : Type} {i : Dat α} {C : Ct} {o k : Nat} {xs : List α} {upd : List α → Ct} (h : PlS C o α i xs upd) (hk : k < xs.length) : Pl C (o + k * Dat.sz α) α i xs[k] fun y => upd (xs.set k y) := by
  have hfit0 : k * Dat.sz α + Dat.sz α ≤ xs.length * Dat.sz α := by rw [← Nat.succ_mul]; exact Nat.mul_le_mul_right _ (by omega)
  refine ⟨⟨fun {A w cs} hc => ?_⟩, fun y => ⟨fun {A w cs ds} hc hd => ?_⟩⟩
  · obtain ⟨h1, h2⟩ := h.rd hc
    have h3 := h2 k hk
    rw [seg_seg hfit0 h1] at h3
    exact ⟨by omega, h3⟩
  · obtain ⟨h1, h2⟩ := h.rd hc
    have l2 := Dat.len hd
    have hsl : (seg cs o (xs.length * Dat.sz α)).length = xs.length * Dat.sz α := seg_length h1
    refine ⟨by omega, ?_⟩
    have g := h.st (xs.set k y) (by simp) hc (news := setSeg (seg cs o (xs.length * Dat.sz α)) (k * Dat.sz α) ds) (by rw [setSeg_length (by omega), hsl]; simp) fun q hq => by
      simp only [List.length_set] at hq
      have hq2 : q * Dat.sz α + Dat.sz α ≤ xs.length * Dat.sz α := by rw [← Nat.succ_mul]; exact Nat.mul_le_mul_right _ (by omega)
      by_cases hqk : q = k
      · subst hqk
        have e9 := seg_setSeg_same (cs := seg cs o (xs.length * Dat.sz α)) (o := q * Dat.sz α) (vs := ds) (by omega)
        rw [l2] at e9
        rw [e9, List.getElem_set_self]; exact hd
      · rw [seg_setSeg_other (by omega) (by omega) ?_, List.getElem_set_ne (fun h => hqk h.symm)]
        · exact h2 q hq
        · rcases Nat.lt_or_ge q k with h6 | h6
          · left; rw [← Nat.succ_mul]; exact Nat.mul_le_mul_right _ (by omega)
          · right; rw [l2, ← Nat.succ_mul]; exact Nat.mul_le_mul_right _ (by omega)
    have e : setSeg cs o (setSeg (seg cs o (xs.length * Dat.sz α)) (k * Dat.sz α) ds) = setSeg cs (o + k * Dat.sz α) ds := by
      have hl2 : (setSeg (seg cs o (xs.length * Dat.sz α)) (k * Dat.sz α) ds).length = xs.length * Dat.sz α := by rw [setSeg_length (by omega), hsl]
      refine getD_ext (by rw [setSeg_length (by omega), setSeg_length (by omega)]) fun j hj => ?_; rw [setSeg_length (by omega)] at hj
      rw [setSeg_getD (cs := cs) (o := o) (by omega), setSeg_getD (cs := cs) (o := o + k * Dat.sz α) (by omega), hl2]
      by_cases c1 : o ≤ j ∧ j < o + xs.length * Dat.sz α
      · rw [if_pos c1, setSeg_getD (by omega)]
        by_cases c2 : k * Dat.sz α ≤ j - o ∧ j - o < k * Dat.sz α + ds.length
        · rw [if_pos c2, if_pos (by omega)]; congr 1; omega
        · rw [if_neg c2, if_neg (by omega), seg_getD (by omega)]; congr 1; omega
      · rw [if_neg c1, if_neg (by omega)]
    rw [e] at g; exact g
section ops
variable {P : Program} {B0 : Nat} {A : Nat → Prop} {Ω : List Pe} {Γ : Env} {dst : Option Tmp} {ty : TypeId} {pos : String} {aft : Array Edge} {gd : Option (Nat × Bool)}
variable {α : Type} {i : Dat α} {t e : TypeId} {x y z q : Operand} {τ σ ρ υ : Ty} {b o m c : Nat} {pr : Prop} {l r k : Int} {u v : Unit} {xs : List α}
theorem OpY.slice3Sl [S : TSl P t e] [T : TDat P e α i] [hx : Has Γ x (Sl b pr o m c)] [Has Γ y σ] [hy : AsI σ l] [Has Γ z ρ] [hz : AsI ρ r] [Has Γ q υ] [hq : AsI υ k] (h0 : 0 ≤ l) (h1 : l ≤ r) (h2 : r ≤ k) (h3 : k ≤ m) :
    OpY P B0 A Ω Γ ⟨dst, .slice t x (some y) (some z) (some q), ty, pos, aft, gd⟩ (Sv b pr (o + l.toNat * Dat.sz α) (r - l).toNat) :=
  OpY.val fun a w hl => by
    have h := Sl.sv _ _ _ (Has.ev (x := x) (τ := Sl b pr o m c) (op := .slice t x (some y) (some z) (some q)) (by simp [Op.operands]) hl)
    have ey : a.eval y = .int .i64 l := hy.le _ _ _ (Has.ev (x := y) (τ := σ) (op := .slice t x (some y) (some z) (some q)) (by simp [Op.operands]) hl)
    have ez : a.eval z = .int .i64 r := hz.le _ _ _ (Has.ev (x := z) (τ := ρ) (op := .slice t x (some y) (some z) (some q)) (by simp [Op.operands]) hl)
    have eq : a.eval q = .int .i64 k := hq.le _ _ _ (Has.ev (x := q) (τ := υ) (op := .slice t x (some y) (some z) (some q)) (by simp [Op.operands]) hl)
    rcases h with ⟨hp, o', c, ex, hmc, ho⟩ | ⟨hp, rfl, ex⟩
    · refine ⟨.slice (if k.toNat = l.toNat then some ⟨b, o', none⟩ else some ⟨b, o' + l.toNat * Dat.sz α, none⟩) (r.toNat - l.toNat) (k.toNat - l.toNat), ?_, .inl ⟨hp, if k.toNat = l.toNat then o' else o' + l.toNat * Dat.sz α, k.toNat - l.toNat, ?_, ⟨by omega, by omega⟩, fun h => ?_⟩⟩
      · have c0 : 0 ≤ k ∧ k ≤ (c : Int) := by omega
        have c1 : 0 ≤ r ∧ r ≤ (k.toNat : Int) := by omega
        have c2 : 0 ≤ l ∧ l ≤ (r.toNat : Int) := by omega
        simp only [execOp, ex, ey, ez, eq, Instr.sliceAt, Instr.slice, Option.map_some, Sem.run_bind, run_underlying S.h, Result.andThen_ok, Instr.sliceBounds, Instr.sliceBound, asIntOf, Sem.run_pure, c0, c1, c2, and_self, if_true, T.sz, addr_add]
      · rw [show (r - l).toNat = r.toNat - l.toNat by omega]; split <;> rfl
      · rw [if_neg (by omega), ho (by omega)]
    · have hk : k = 0 := by omega
      have hr : r = 0 := by omega
      have hl0 : l = 0 := by omega
      subst hk; subst hr; subst hl0
      refine ⟨.slice none 0 0, ?_, .inr ⟨hp, rfl, rfl⟩⟩
      simp [execOp, ex, ey, ez, eq, Instr.sliceAt, Instr.slice, run_underlying S.h, Instr.sliceBounds, Instr.sliceBound, asIntOf, T.sz]
end ops
theorem CtH.rowAt {α : Type} {i : Dat α} {xs : List α} {c o off : Nat} {k : Int} {x : α} {τ : Ty} (e : idx xs k = some x) (ho : o = 0 + k.toNat * Dat.sz α + off) (hoff : off < Dat.sz α) : CtH (Row xs c) o τ ((Row xs c).mix o τ) := ⟨fun {A w cs v} hc hv => by
  obtain ⟨h1, h2, h3, h4, h5⟩ := hc
  have h6 := idx_lt e
  have h7 : k.toNat * Dat.sz α + Dat.sz α ≤ c * Dat.sz α := by rw [← Nat.succ_mul]; exact Nat.mul_le_mul_right _ (by omega)
  exact ⟨by omega, cs, v, ⟨h1, h2, h3, h4, h5⟩, by omega, hv, rfl⟩⟩
section co
variable {P : Program} {r : Ref} {n : Nat} {Γ : Env} {Ω Ω1 Ω2 : List Pe} {Q : Exit → Act → World → Prop} {ops : Array Oper} {k : Nat} {rest : List Oper} {α : Type} {i : Dat α}
theorem Stt.collG {b0 b : Nat} {pr0 pr : Prop} {C C' D0 : Ct} [op : Opens r] [p0 : Pick Ω b0 pr0 C Ω1] [p1 : Pick Ω1 b pr D0 Ω2] {a : Act} {w : World} (hpp : pr0 → pr)
    (hC : ∀ {A A' : Nat → Prop} {w : World} {cs : List Value}, Keep A A' w w → (A' b ∧ ∃ cs', Blk w b cs' ∧ D0.p A' w cs') → C.p A w cs → C'.p A' w cs) (h : Stt r n Γ Ω a w) : Stt r n Γ (⟨b0, pr0, C'⟩ :: Ω2) a w := by
  have h := (h.less (Less.perm p0.perm)).less (Less.cons (Less.perm p1.perm))
  have hl : Less (⟨b0, pr0, C⟩ :: ⟨b, pr, D0⟩ :: Ω2) (⟨b0, pr0, C⟩ :: Ω2) := Less.cons (Less.drop (Less.refl _))
  have h2 := h.less hl
  have hown : ∀ k, Own (⟨b0, pr0, C'⟩ :: Ω2) k ↔ Own (⟨b0, pr0, C⟩ :: Ω2) k := fun k => by
    constructor
    · rintro ⟨e, he, h1, h2⟩
      rcases List.mem_cons.1 he with rfl | he
      · exact ⟨_, List.mem_cons_self .., h1, h2⟩
      · exact ⟨e, List.mem_cons_of_mem _ he, h1, h2⟩
    · rintro ⟨e, he, h1, h2⟩
      rcases List.mem_cons.1 he with rfl | he
      · exact ⟨_, List.mem_cons_self .., h1, h2⟩
      · exact ⟨e, List.mem_cons_of_mem _ he, h1, h2⟩
  have hpub : Pub r.A (⟨b0, pr0, C'⟩ :: Ω2) = Pub r.A (⟨b0, pr0, C⟩ :: Ω2) := by
    funext k; exact propext (by rw [Pub_own, Pub_own, hown])
  have hk : Keep (Pub r.A (⟨b0, pr0, C⟩ :: ⟨b, pr, D0⟩ :: Ω2)) (Pub r.A (⟨b0, pr0, C⟩ :: Ω2)) w w := Keep.mono fun j _ hj => Pub_own.2 ⟨(Pub_own.1 hj).1, fun ho => (Pub_own.1 hj).2 (hl.own j ho)⟩
  refine ⟨h2.sz, h2.df, h2.mu, by rw [hpub]; exact h2.ty, ⟨fun j hj => h2.pv.own j ((hown j).1 hj), ?_, List.pairwise_cons.2 ⟨fun f hf h1 h3 => (List.pairwise_cons.1 h2.pv.ap).1 f hf h1 h3, (List.pairwise_cons.1 h2.pv.ap).2⟩⟩⟩
  rw [hpub]
  intro e he hp
  rcases List.mem_cons.1 he with rfl | he
  · obtain ⟨cs, g1, g2⟩ := h.pv.ks ⟨b0, pr0, C⟩ (List.mem_cons_self ..) hp
    refine ⟨cs, g1, hC hk ?_ g2⟩
    obtain ⟨cs', g3, g4⟩ := h.pv.ks ⟨b, pr, D0⟩ (List.mem_cons_of_mem _ (List.mem_cons_self ..)) (hpp hp)
    refine ⟨Pub_own.2 ⟨op.h b (h.pv.own b ⟨_, List.mem_cons_of_mem _ (List.mem_cons_self ..), hpp hp, rfl⟩), fun ⟨f, hf, hpf, hfb⟩ => ?_⟩, cs', g3, D0.keep hk g4⟩
    have ha := List.pairwise_cons.1 h.pv.ap
    rcases List.mem_cons.1 hf with rfl | hf
    · exact ha.1 _ (List.mem_cons_self ..) hpf (hpp hp) hfb
    · exact (List.pairwise_cons.1 ha.2).1 f hf (hpp hp) hpf hfb.symm
  · exact h2.pv.ks e (List.mem_cons_of_mem _ he) hp
theorem RowS.coll {b m c z : Nat} {pr : Prop} {p : List (List α)} (hz : z = Dat.sz α) (hm : m = p.length) {A A' : Nat → Prop} {w : World} {cs : List Value} (hk : Keep A A' w w) (hb : A' b ∧ ∃ cs', Blk w b cs' ∧ (Row p.flatten c).p A' w cs') (h : (RowS b pr z (p.map List.length) m).p A w cs) : (Row p m).p A' w cs := by
  subst hz; subst hm
  obtain ⟨h1, h2, h3, h4, h5⟩ := h
  refine ⟨by rw [h1]; exact (Nat.mul_one _).symm, Nat.le_refl _, h3, h4, fun j hj => ?_⟩
  have h6 := h5 j (by simpa using hj)
  simp only [List.getElem_map] at h6
  obtain ⟨ds, h7, h8⟩ := PubC.sv (C := Row p.flatten c) (τ := Sv b pr (offS (p.map List.length) j * Dat.sz α) p[j].length) (PlS.flat2 (i := i) hj rfl) rfl A' w _ (fun _ => hb) h6
  have h9 : ds = [cs.getD j undef] := by
    have hl := Dat.len h7
    obtain ⟨x, rfl⟩ : ∃ x, ds = [x] := List.length_eq_one_iff.1 hl
    have h8 : cs.getD j undef = [x].getD 0 undef := h8
    simp only [List.getD_cons_zero] at h8
    rw [h8]
  have h10 : seg cs (j * 1) 1 = [cs.getD j undef] := by
    refine getD_ext (by rw [seg_length (by omega)]; rfl) fun q hq => ?_; rw [seg_length (by omega)] at hq
    rw [seg_getD hq]
    have : q = 0 := by omega
    subst this
    simp
  show Dat.rd A' w (seg cs (j * 1) 1) p[j]
  rw [h10, ← h9]; exact h7
theorem Stt.collS (b0 b : Nat) {m c z : Nat} {p : List (List α)} {pr : Prop} [op : Opens r] [p0 : Pick Ω b0 pr (RowS b pr z (p.map List.length) m) Ω1] [p1 : Pick Ω1 b pr (Row p.flatten c) Ω2] (hz : z = Dat.sz α) (hm : m = p.length) {a : Act} {w : World}
    (h : Stt r n Γ Ω a w) : Stt r n Γ (⟨b0, pr, Row p m⟩ :: Ω2) a w := h.collG (C' := Row p m) id fun hk hb hc => RowS.coll hz hm hk hb hc
theorem TE.collS {e : Exit} (b0 b : Nat) {m c z : Nat} {p : List (List α)} {pr : Prop} [op : Opens r] [p0 : Pick Ω b0 pr (RowS b pr z (p.map List.length) m) Ω1] [p1 : Pick Ω1 b pr (Row p.flatten c) Ω2] (hz : z = Dat.sz α) (hm : m = p.length)
    (h : TE r n Γ (⟨b0, pr, Row p m⟩ :: Ω2) Q e) : TE r n Γ Ω Q e := fun a w hs => h a w (hs.collS b0 b hz hm)
theorem rowS_data {b b2 m c z cc : Nat} {p : List (List α)} {pr : Prop} {A : Nat → Prop} {w : World} {v : Value} (h1 : pr → A b ∧ ∃ cs, Blk w b cs ∧ (RowS b2 pr z (p.map List.length) m).p A w cs) (h2 : pr → A b2 ∧ ∃ cs, Blk w b2 cs ∧ (Row p.flatten c).p A w cs)
    (h : (Sl b pr 0 p.length cc).p A w v) (hz : z = Dat.sz α := by rfl) (hm : m = p.length := by rfl) : (D p).p A w v :=
  PubC.sv (C := Row p m) (τ := Sl b pr 0 p.length cc) PlS.all rfl A w v (fun hp => by
    obtain ⟨g1, cs, g2, g3⟩ := h1 hp
    exact ⟨g1, cs, g2, RowS.coll hz hm (Keep.mono fun _ _ h => h) (h2 hp) g3⟩) h
end co
theorem loopO_part {σ ε : Type} {f : σ → Option (σ ⊕ ε)} (I : σ → Prop) (R : ε → Prop) (h1 : ∀ s s', I s → f s = some (.inl s') → I s') (h2 : ∀ s e, I s → f s = some (.inr e) → R e) {s : σ} {e : ε} (hs : I s) (h : loopO f s = some e) : R e := by
  have key : ∀ (k : Nat) (s : σ), I s → loopN f k s = some e → R e := by
    intro k
    induction k with
    | zero => intro s _ h; cases h
    | succ k ih =>
      intro s hs h
      unfold loopN at h
      cases hf : f s with
      | none => rw [hf] at h; cases h
      | some x =>
        rw [hf] at h
        cases x with
        | inl s' => exact ih s' (h1 s s' hs hf) h
        | inr e' => obtain rfl := Option.some.inj h; exact h2 s e' hs hf
  exact key _ s hs h
theorem TC.loopPI {P : Program} {r : Ref} {n : Nat} {Γ : Env} {Ω : List Pe} {Q : Exit → Act → World → Prop} {σ ε ν : Type} {f : σ → Option (σ ⊕ ε)} {s0 : σ} {e : ε} {c : Code} (hl : loopO f s0 = some e) (Inv : σ → Prop) (hi : Inv s0) (hp : ∀ s s', Inv s → f s = some (.inl s') → Inv s') (I : σ → ν → Env) (J : σ → ν → List Pe) (m0 : ν) (h0 : Γ.le (I s0 m0)) (j0 : Less Ω (J s0 m0))
    (round : ∀ s m x, Inv s → f s = some x → (∀ e', x = .inr e' → e' = e) → TC P r n (I s m) (J s m) c (Exit.then (fun a w => ∃ s' m', x = .inl s' ∧ Stt r n (I s' m') (J s' m') a w) Q)) : TC P r n Γ Ω (.loop c) Q := by
  refine TC.loop (γ := {g : σ × ν × Nat // loopN f g.2.2 g.1 = some e ∧ Inv g.1}) (fun g => I g.1.1 g.1.2.1) (fun g => J g.1.1 g.1.2.1) (fun g => g.1.2.2) ⟨(s0, m0, _), hl, hi⟩ h0 j0 ?_
  rintro ⟨⟨s, m, k⟩, hg, hv⟩
  cases k with
  | zero => cases hg
  | succ k =>
    have hg : loopN f (k + 1) s = some e := hg
    have hv : Inv s := hv
    unfold loopN at hg
    cases hf : f s with
    | none => rw [hf] at hg; cases hg
    | some x =>
      rw [hf] at hg
      intro a w hs
      have := round s m x hv hf (fun e' h => by subst h; injection hg) a w hs
      refine wpIn_mono this fun ex a' w' hq => ?_
      cases ex with
      | normal =>
        obtain ⟨s', m', hx, hst⟩ := hq
        subst hx
        exact ⟨⟨(s', m', k), hg, hp s s' hv hf⟩, Nat.lt_succ_self _, hst⟩
      | _ => exact hq
theorem RowS.atP {α : Type} {b z m o : Nat} {pr : Prop} {p : List (List α)} {k : Int} {x : List α} (e : idx p k = some x) (ho : o = k.toNat) : CeH (RowS b pr z (p.map List.length) m) o (Sv b pr (offS (p.map List.length) k.toNat * z) x.length) := by
  obtain ⟨-, h5⟩ := idx_some e
  obtain ⟨h6, h7⟩ := List.getElem?_eq_some_iff.1 h5
  have := RowS.at (b := b) (z := z) (m := m) (pr := pr) (L := p.map List.length) (j := k.toNat) (o := o) (by simpa using h6) ho
  rw [List.getElem_map, h7] at this; exact this
theorem rowS_nm {α : Type} {b z m : Nat} {pr : Prop} {p q : List (List α)} (h : some p = some q) : RowS b pr z (p.map List.length) m = RowS b pr z (q.map List.length) m := by rw [Option.some.inj h]
theorem rowF_nm {α : Type} {i : Dat α} {c : Nat} {p q : List (List α)} (h : some p = some q) : Row p.flatten c = Row q.flatten c := by rw [Option.some.inj h]
theorem rowS_set {α : Type} {b z m : Nat} {pr : Prop} {p : List (List α)} {k : Int} {x ys : List α} (e : idx p k = some x) (hy : ys.length = x.length) : RowS b pr z (p.map List.length) m = RowS b pr z ((p.set k.toNat ys).map List.length) m := by
  obtain ⟨-, h5⟩ := idx_some e
  obtain ⟨h6, h7⟩ := List.getElem?_eq_some_iff.1 h5
  rw [flat_set_lens h6 (by rw [h7]; exact hy)]
theorem PlS.page {α : Type} {i : Dat α} {p : List (List α)} {c : Nat} {k : Int} {x : List α} (e : idx p k = some x) : PlS (Row p.flatten c) (offS (p.map List.length) k.toNat * Dat.sz α) α i x fun ys => Row (p.set k.toNat ys).flatten c := by
  obtain ⟨-, h5⟩ := idx_some e
  obtain ⟨h6, h7⟩ := List.getElem?_eq_some_iff.1 h5
  have := PlS.flat2 (i := i) (c := c) h6 rfl
  rw [h7] at this; exact this
theorem Pl.page {α : Type} {i : Dat α} {p : List (List α)} {c : Nat} {k q : Int} {x : List α} {y : α} (e : idx p k = some x) (e2 : idx x q = some y) : Pl (Row p.flatten c) (offS (p.map List.length) k.toNat * Dat.sz α + q.toNat * Dat.sz α) α i y fun y => Row (p.set k.toNat (x.set q.toNat y)).flatten c := by
  obtain ⟨-, h5⟩ := idx_some e2
  obtain ⟨h6, h7⟩ := List.getElem?_eq_some_iff.1 h5
  have := Pl.part (PlS.page (i := i) (c := c) e) h6
  rw [h7] at this; exact this
def lenI (n m : Nat) : Option Unit := if n = m then some () else none
theorem lenI_eq {n m : Nat} {u : Unit} (h : lenI n m = some u) : m = n := by
  unfold lenI at h; split at h
  · exact Eq.symm ‹_›
  · cases h
theorem lenI_ok {n m : Nat} (h : n = m) : lenI n m = some () := if_pos h
theorem rowF_nil {α : Type} {i : Dat α} {p : List (List α)} {c : Nat} {k : Int} {x : List α} (e : idx p k = some x) (h : x = []) : Row (p.set k.toNat ([] : List α)).flatten c = Row p.flatten c := by
  subst h
  obtain ⟨-, h5⟩ := idx_some e
  obtain ⟨h6, h7⟩ := List.getElem?_eq_some_iff.1 h5
  rw [← h7, List.set_getElem_self]
class IsPtr (τ : Ty) : Prop where
  h : ∀ {A : Nat → Prop} {w : World} {v : Value}, τ.p A w v → ∃ a, v = .pointer (some a)
instance {b o : Nat} {pr : Prop} : IsPtr (Pq b o pr) := ⟨fun h => ⟨_, h.2⟩⟩
instance {b o : Nat} : IsPtr (Pt b o) := ⟨fun h => ⟨_, h⟩⟩
theorem OpY.nilCheck {P : Program} {B0 : Nat} {A : Nat → Prop} {Ω : List Pe} {Γ : Env} {dst : Option Tmp} {ty : TypeId} {pos : String} {aft : Array Edge} {gd : Option (Nat × Bool)} {x : Operand} {τ σ : Ty} [Has Γ x τ] [k : AsT τ σ] [q : IsPtr σ] : OpY P B0 A Ω Γ ⟨dst, .nilCheck x, ty, pos, aft, gd⟩ σ :=
  OpY.val fun a w hl => by
    have h := k.le _ _ _ (Has.ev (x := x) (τ := τ) (op := .nilCheck x) (by simp [Op.operands]) hl)
    obtain ⟨ad, e⟩ := q.h h
    refine ⟨a.eval x, ?_, h⟩
    simp only [execOp, e, Sem.run_pure]
end Go.Proofs.Ytefmfhbkihplgaa.Tr
namespace Go.Proofs.Ytefmfhbkihplgaa.Tr
open Go Go.RowKit
structure EqN (P : Program) (t : TypeId) (α : Type) (i : Dat α) (n : Nat) [DecidableEq α] : Prop where
  h : ∀ {A : Nat → Prop} (w : World) (d : Nat) {cs ds : List Value} {x y : α}, Dat.rd A w cs x → Dat.rd A w ds y → (Op.equalIn (d + n + 1) t (mkV α cs) (mkV α ds)).run P w = .ok (decide (x = y)) w
section
variable {P : Program} {t u : TypeId} {n : Nat}
theorem EqN.i64 {k : IntKind} (hu : P.underlying t = some (.int k)) : EqN P t Int inferInstance n := ⟨fun {A} w d {cs ds x y} hx hy => by
  obtain ⟨rfl, -⟩ := hx
  obtain ⟨rfl, -⟩ := hy
  show (Op.equalIn (d + n + 1) t (.int .i64 x) (.int .i64 y)).run P w = _
  rw [run_equalIn_int w (d + n) t .i64 k x y hu]
  by_cases h : x = y <;> simp [h]⟩
theorem eqF_nil {d : Nat} {xs ys : Array Value} {w : World} : (Op.eqFields d xs ys []).run P w = .ok true w := by simp [Op.eqFields]
theorem eqF_cons {f : Field} {rest : List Field} {off : Nat} {β : Type} {j : Dat β} [DecidableEq β] (hn : f.name ≠ "_") (hu : f.type = u) (ho : f.offset = off) [T : TDat P u β j] (E : EqN P u β j n) {A : Nat → Prop} {w : World} {d : Nat} {cs ds : List Value} {a b : β} {r : Bool}
    (la : off + Dat.sz β ≤ cs.length) (lb : off + Dat.sz β ≤ ds.length) (ra : Dat.rd A w (seg cs off (Dat.sz β)) a) (rb : Dat.rd A w (seg ds off (Dat.sz β)) b)
    (hr : (Op.eqFields (d + n + 1) cs.toArray ds.toArray rest).run P w = .ok r w) : (Op.eqFields (d + n + 1) cs.toArray ds.toArray (f :: rest)).run P w = .ok (decide (a = b) && r) w := by
  subst hu; subst ho
  simp only [Op.eqFields, if_pos hn, Sem.run_bind, run_part (P := P) (u := f.type) ra la, run_part (P := P) (u := f.type) rb lb, Result.andThen_ok, E.h w d ra rb]
  by_cases h : a = b
  · simp [h, hr]
  · simp [h]
theorem EqN.struct {α : Type} {i : Dat α} [DecidableEq α] {fs : Array Field} (hu : P.underlying t = some (.struct fs)) (hp : P.stoodInHeld t = false) (ha : Dat.agg α = true)
    (hf : ∀ {A : Nat → Prop} (w : World) (d : Nat) {cs ds : List Value} {x y : α}, Dat.rd A w cs x → Dat.rd A w ds y → (Op.eqFields (d + n + 1) cs.toArray ds.toArray fs.toList).run P w = .ok (decide (x = y)) w) : EqN P t α i (n + 1) := ⟨fun {A} w d {cs ds x y} hx hy => by
  have hfs : P.fieldsOf t = fs := by unfold Program.fieldsOf; rw [hu]
  have e1 : mkV α cs = .agg cs.toArray := by unfold mkV; rw [ha]; rfl
  have e2 : mkV α ds = .agg ds.toArray := by unfold mkV; rw [ha]; rfl
  rw [e1, e2, run_equalIn_agg w (d + (n + 1)) t _ _ (by rw [hfs]; exact hu) hp, hfs]
  exact hf w d hx hy⟩
variable {B0 : Nat} {A : Nat → Prop} {Ω : List Pe} {Γ : Env} {dst : Option Tmp} {ty : TypeId} {pos : String} {aft : Array Edge} {gd : Option (Nat × Bool)}
variable {α : Type} {i : Dat α} [DecidableEq α] {x y : Operand} {τ σ : Ty} {m k : α}
theorem OpY.eql_agg [Has Γ x τ] [hx : AsD τ α i m] [Has Γ y σ] [hy : AsD σ α i k] (E : EqN P t α i n) (hn : n < 10000) (hg : P.eqGuardType P.depth t = false) (ha : Dat.agg α = true) : OpY P B0 A Ω Γ ⟨dst, .binOp .eql t x y u, ty, pos, aft, gd⟩ (B (decide (m = k))) :=
  OpY.val fun a w hl => by
    obtain ⟨cs, h1, h2⟩ := hx.le _ _ _ (Has.ev (x := x) (τ := τ) (op := .binOp .eql t x y u) (by simp [Op.operands]) hl)
    obtain ⟨ds, h3, h4⟩ := hy.le _ _ _ (Has.ev (x := y) (τ := σ) (op := .binOp .eql t x y u) (by simp [Op.operands]) hl)
    have e1 : mkV α cs = .agg cs.toArray := by unfold mkV; rw [ha]; rfl
    have e2 : mkV α ds = .agg ds.toArray := by unfold mkV; rw [ha]; rfl
    have h5 := E.h w (9999 - n) h1 h3
    rw [show 9999 - n + n + 1 = 10000 by omega, e1, e2] at h5
    refine ⟨.bool (decide (m = k)), ?_, rfl⟩
    simp only [execOp, h2, h4, e1, e2, Sem.run_bind, run_eqGuard_agg w .eql t x y _ _ hg, Result.andThen_ok, run_eql_struct, h5, Sem.run_pure]
end
end Go.Proofs.Ytefmfhbkihplgaa.Tr
namespace Go.Proofs.Ytefmfhbkihplgaa.Tr
open Go Go.RowKit
def Clo1 (g : Nat) (τ : Ty) : Ty := ⟨fun A w v => ∃ c, v = .func (.func g) #[] #[c] ∧ τ.p A w c, fun k ⟨c, h, t⟩ => ⟨c, h, τ.keep k t⟩⟩
def YldT (l : Nat) : Ty := Ex (.func (.yield l) #[] #[])
section ops
variable {P : Program} {B0 : Nat} {A : Nat → Prop} {Ω : List Pe} {Γ : Env} {dst : Option Tmp} {ty : TypeId} {pos : String} {aft : Array Edge} {gd : Option (Nat × Bool)} {f : FuncId}
theorem OpY.assignAny {x : Operand} : OpY P B0 A Ω Γ ⟨dst, .assign x, ty, pos, aft, gd⟩ Ty.any := OpY.val fun a w hl => ⟨a.eval x, rfl, trivial⟩
theorem OpY.clo1 {c1 : Operand} {τ1 σ1 : Ty} [h1 : Has Γ c1 τ1] (k1 : τ1.le σ1) : OpY P B0 A Ω Γ ⟨dst, .makeFunc (.func f) #[] #[c1], ty, pos, aft, gd⟩ (Clo1 f σ1) :=
  OpY.val fun a w hl => ⟨.func (.func f) #[] #[a.eval c1], by simp [execOp, Instr.makeFunc], _, rfl, k1 _ _ _ (h1.le a A w fun t e => hl t (by simp [Op.operands, e]))⟩
end ops
structure YJ (P : Program) {σ α β : Type} [Dat α] [Dat β] (y : σ → α → β → Option (σ × Bool)) (l : Nat) (w0 : World) (A0 : Nat → Prop) (J : σ → (Nat → Prop) → (Nat → Prop) → World → Prop) : Prop where
  lt : ∀ {s X Y W k}, J s X Y W → X k ∨ Y k → k < W.heap.size
  st : ∀ {s X Y W W'}, J s X Y W → (∀ k, k < w0.heap.size → W'.heap[k]? = W.heap[k]?) → (∀ k, X k → W'.heap[k]? = W.heap[k]?) → (∀ k, Y k → SameCells (W.heap[k]?) (W'.heap[k]?)) → W.heap.size ≤ W'.heap.size → W'.os = W.os → W'.tape = W.tape → W'.output = W.output → J s X Y W'
  yl : ∀ {s a b s' t X Y W v1 v2} {Ac : Nat → Prop}, y s a b = some (s', t) → J s X Y W → (∀ k, Ac k → ¬ X k ∧ A0 k) → (D a).p Ac W v1 → (D b).p Ac W v2 →
    YieldAt (FR none) 0 P l #[v1, v2] W fun e W' => e = .returned (.bool t) ∧ ∃ X' Y', J s' X' Y' W' ∧ (∀ k, X' k → X k ∨ W.heap.size ≤ k) ∧ (∀ k, Y' k → X k ∨ Y k ∨ Ac k ∨ W.heap.size ≤ k) ∧ Mut X W W'
def Iter2 (P : Program) {α β : Type} [Dat α] [Dat β] (g : FuncId) (cs : List Value) (A : Nat → Prop) (w0 : World) (it : {σ : Type} → (σ → α → β → Option (σ × Bool)) → σ → Option σ) : Prop :=
  ∀ {σ : Type} (y : σ → α → β → Option (σ × Bool)) (s0 r : σ) (A' : Nat → Prop) (w : World) (l : Nat) (J : σ → (Nat → Prop) → (Nat → Prop) → World → Prop) (X0 Y0 : Nat → Prop),
    it y s0 = some r → Keep A A' w0 w → (∀ k, w.heap.size ≤ k → A' k) → (∀ k, X0 k → ¬ A' k) → YJ P y l w A' J → J s0 X0 Y0 w →
    Calls P g (Value.func (.yield l) #[] #[] :: cs).toArray w fun e w' => (∃ v, e = .returned v) ∧ ∃ X' Y', J r X' Y' w' ∧ (∀ k, X' k → X0 k ∨ w.heap.size ≤ k) ∧ Mut X0 w w'
structure Yd (P : Program) {σ α β : Type} [Dat α] [Dat β] (y : σ → α → β → Option (σ × Bool)) (l : Nat) (J : σ → (Nat → Prop) → (Nat → Prop) → World → Prop) (X0 : Nat → Prop) (r0 : Ref) (s : σ) (r : Ref) : Prop where
  j : YJ P y l r0.w r0.A J
  aa : ∀ k, r.A k → r0.A k
  x : ∃ X Y, J s X Y r.w ∧ (∀ k, X k → ¬ r.A k ∧ ¬ r.S k ∧ (X0 k ∨ r0.w.heap.size ≤ k)) ∧ ∀ k, Y k → ¬ r.S k
  sub : ∀ k, r.S k → r0.w.heap.size ≤ k
  mt : Mut X0 r0.w r.w
  op : Opens r
  rh : r.ρ = none
  dq : r.ds = []
section yield
variable {P : Program} {σ α β : Type} [Dat α] [Dat β] {y : σ → α → β → Option (σ × Bool)} {l : Nat} {J : σ → (Nat → Prop) → (Nat → Prop) → World → Prop} {X0 : Nat → Prop} {r0 r : Ref} {n : Nat} {Γ : Env} {Ω : List Pe} {Q : Exit → Act → World → Prop} {s : σ}
theorem Yd.cur (h : Yd P y l J X0 r0 s r) {a : Act} {w : World} (st : Stt r n Γ Ω a w) : ∃ X Y, J s X Y w ∧ (∀ k, X k → ¬ r.A k ∧ ¬ Own Ω k ∧ (X0 k ∨ r0.w.heap.size ≤ k)) ∧ (∀ k, Y k → ¬ Own Ω k) ∧ ∀ k, X k ∨ Y k → k < r.w.heap.size := by
  obtain ⟨X, Y, h1, h2, h3⟩ := h.x
  have hlt : ∀ k, X k ∨ Y k → k < r.w.heap.size := fun k hk => h.j.lt h1 hk
  refine ⟨X, Y, h.j.st h1 (fun k hk => st.mu.same k (Nat.lt_of_lt_of_le hk h.mt.size) fun hS => by have := h.sub k hS; omega) (fun k hk => st.mu.same k (hlt k (.inl hk)) (h2 k hk).2.1) (fun k hk => by rw [st.mu.same k (hlt k (.inr hk)) (h3 k hk)]; exact SameCells.refl _) st.mu.size st.mu.os st.mu.tape st.mu.output, fun k hk => ⟨(h2 k hk).1, fun ho => ?_, (h2 k hk).2.2⟩, fun k hk ho => ?_, hlt⟩
  · rcases st.pv.own k ho with h4 | h4
    · have := hlt k (.inl hk); omega
    · exact (h2 k hk).2.1 h4
  · rcases st.pv.own k ho with h4 | h4
    · have := hlt k (.inr hk); omega
    · exact h3 k hk h4
theorem Yd.mut (h : Yd P y l J X0 r0 s r) {a : Act} {w : World} (st : Stt r n Γ Ω a w) : Mut X0 r0.w w :=
  ⟨st.mu.os.trans h.mt.os, st.mu.tape.trans h.mt.tape, st.mu.output.trans h.mt.output, Nat.le_trans h.mt.size st.mu.size, fun k hk hs => by
    rw [st.mu.same k (Nat.lt_of_lt_of_le hk h.mt.size) fun hS => by have := h.sub k hS; omega]; exact h.mt.same k hk hs⟩
theorem TS.yield2 {ops : Array Oper} {k : Nat} {rest : List Oper} {c x1 x2 : Operand} {ts : Array TypeId} {ty : TypeId} {d : Tmp} {pos : String} {aft : Array Edge} {a0 : α} {b0 : β} {τ1 τ2 : Ty} {s' : σ} {t : Bool} (h : Yd P y l J X0 r0 s r) (hy : y s a0 b0 = some (s', t))
    [hc : Has Γ c (YldT l)] [h1 : Has Γ x1 τ1] (k1 : τ1.le (D a0)) [h2 : Has Γ x2 τ2] (k2 : τ2.le (D b0)) (hd : Nat.blt d n = true)
    (hk : ∀ r, Yd P y l J X0 r0 s' r → TS P r n ops rest (k + 1) (Γ.set d (B t)) Ω Q) : TS P r n ops (⟨some d, .call { callee := .value c, args := #[x1, x2], argTypes := ts }, ty, pos, aft, none⟩ :: rest) k Γ Ω Q := fun hl a w hs => by
  have e0 : a.eval c = .func (.yield l) #[] #[] := hc.le a _ w fun t _ => hs.ty t
  have g1 := k1 _ _ _ (h1.le a _ w fun t _ => hs.ty t)
  have g2 := k2 _ _ _ (h2.le a _ w fun t _ => hs.ty t)
  obtain ⟨X, Y, j1, j2, j3, j4⟩ := h.cur hs
  obtain ⟨fn, tmps, assign, body, hrun, hround⟩ := h.j.yl hy j1 (Ac := Pub r.A Ω) (fun k hk => ⟨fun hX => (j2 k hX).1 (Pub_own.1 hk).1, h.aa k (Pub_own.1 hk).1⟩) g1 g2
  have h0 : ops[k]? = some ⟨some d, .call { callee := .value c, args := #[x1, x2], argTypes := ts }, ty, pos, aft, none⟩ := by simpa using (hl 0).symm
  simp only [List.length_cons, List.range'_succ]
  rw [wpOpsIn_cons]
  unfold wpOpIn
  simp only [h0, Region.wanted, if_true]
  refine ⟨fun _ _ => trivial, ?_⟩
  rw [Oper.semAt_eq _ _ _ (fun c hc => by cases hc)]
  have hex : (execOp a.eval ⟨some d, .call { callee := .value c, args := #[x1, x2], argTypes := ts }, ty, pos, aft, none⟩).run P w = .ok (.round l fn tmps assign body) w := by
    simp only [execOp, resolve, Deferred.ofValue, e0, Sem.run_bind, Sem.run_pure, Result.andThen_ok, invoke, List.map_toArray, List.map_cons, List.map_nil]
    simpa using hrun
  rw [hex, h.rh]
  refine ⟨FR_depth, RoundIn.mono hround fun e W' he => ?_⟩
  obtain ⟨rfl, X', Y', q1, q2, q3, q4⟩ := he
  have hown : ∀ k, Own Ω k → k < w.heap.size := fun k hk => hs.pv.ks.lt hk
  have hX' : ∀ k, X' k → k < W'.heap.size := fun k hk => h.j.lt q1 (.inl hk)
  have hkeep : Keep (Pub r.A Ω) (Pub (fun k => (k < w.heap.size ∧ r.A k) ∨ W'.heap.size ≤ k) Ω) w W' := ⟨q4.size, fun k hk hp => by
    obtain ⟨p1, p2⟩ := Pub_own.1 hp
    exact ⟨Pub_own.2 ⟨.inl ⟨hk, p1⟩, p2⟩, by rw [q4.same k hk fun hX => (j2 k hX).1 p1]; exact SameCells.refl _⟩⟩
  have hOwnS : ∀ j, j < w.heap.size → Own Ω j → SameCells (w.heap[j]?) (W'.heap[j]?) := fun j hj ho => by
    rw [q4.same j hj fun hX => (j2 j hX).2.1 ho]; exact SameCells.refl _
  obtain ⟨t1, t2, t3⟩ := tmps_put (a := a) (d := some d) (τ := B t) (v := .bool t) (w' := W') hs.sz (fun t ht => by injection ht with ht; subst ht; simpa using hd) (fun t => (Γ t).keep hkeep (hs.ty t)) rfl
  have hw0 : r0.w.heap.size ≤ w.heap.size := (h.mut hs).size
  have := hk ⟨W', fun k => (k < w.heap.size ∧ r.A k) ∨ W'.heap.size ≤ k, Own Ω, fun k hk => .inr hk, none, []⟩
    ⟨h.j, fun k hk => hk.elim (fun h1 => h.aa k h1.2) (fun h1 => r0.up k (by have := q4.size; omega)), ⟨X', Y', q1, fun k hk => ⟨?_, ?_, ?_⟩, fun k hk ho => ?_⟩, fun k hk => ?_, ?_, ⟨fun k hk => ?_⟩, rfl, rfl⟩
    (TS.rest_l hl) (a.put (some d) (.bool t)) W' ⟨t1, t2.trans (hs.df.trans h.dq), Mut.refl _ _, t3, ⟨fun k hk => .inr hk, hs.pv.ks.keep hkeep hOwnS, hs.pv.ap⟩⟩
  · exact this
  · rintro (⟨h5, h6⟩ | h5)
    · rcases q2 k hk with h7 | h7
      · exact (j2 k h7).1 h6
      · omega
    · have := hX' k hk; omega
  · intro ho
    rcases q2 k hk with h7 | h7
    · exact (j2 k h7).2.1 ho
    · have := hown k ho; omega
  · rcases q2 k hk with h7 | h7
    · exact (j2 k h7).2.2
    · exact .inr (by omega)
  · rcases q3 k hk with h7 | h7 | h7 | h7
    · exact (j2 k h7).2.1 ho
    · exact j3 k h7 ho
    · exact (Pub_own.1 h7).2 ho
    · have := hown k ho; omega
  · rcases hs.pv.own k hk with h7 | h7
    · exact Nat.le_trans h.mt.size h7
    · exact h.sub k h7
  · have hm := h.mut hs
    refine ⟨q4.os.trans hm.os, q4.tape.trans hm.tape, q4.output.trans hm.output, Nat.le_trans hm.size q4.size, fun k hk hS => ?_⟩
    rw [q4.same k (by omega) fun hX => by rcases (j2 k hX).2.2 with h7 | h7; exact hS h7; omega]
    exact hm.same k hk hS
  · rcases hk with hk | hk
    · exact .inr hk
    · rcases hs.pv.own k hk with h7 | h7
      · exact .inl ⟨hown k hk, r.up k h7⟩
      · exact .inl ⟨hown k hk, h.op.h k (.inr h7)⟩
def YPost {σ : Type} (J : σ → (Nat → Prop) → (Nat → Prop) → World → Prop) (X0 : Nat → Prop) (w : World) (s : σ) (e : Ending) (w' : World) : Prop := (∃ v, e = .returned v) ∧ ∃ X' Y', J s X' Y' w' ∧ (∀ k, X' k → X0 k ∨ w.heap.size ≤ k) ∧ Mut X0 w w'
theorem leaveY {fn : Func} (hr : fn.results = #[]) (h : Yd P y l J X0 r0 s r) {a : Act} {w : World} (hs : Stt r n Γ Ω a w) : a.defers = [] ∧ ∃ v, (results fn a.tmps).run P w = .ok v w ∧ YPost J X0 r0.w s (.returned v) w := by
  obtain ⟨X, Y, j1, j2, j3, j4⟩ := h.cur hs
  refine ⟨hs.df.trans h.dq, .tuple #[], ?_, ⟨_, rfl⟩, X, Y, j1, fun k hk => (j2 k hk).2.2, h.mut hs⟩
  have := results_read (P := P) (a := a) (xs := []) (vs := []) (w := w) hr rfl
  simpa using this
theorem TE.retY {fn : Func} (hr : fn.results = #[]) (h : Yd P y l J X0 r0 s r) : TE r n Γ Ω (bodyPost P fn (YPost J X0 r0.w s)) .ret := fun a w hs => leaveY hr h hs
theorem TE.endY {fn : Func} (hr : fn.results = #[]) (h : Yd P y l J X0 r0 s r) : TE r n Γ Ω (bodyPost P fn (YPost J X0 r0.w s)) .normal := fun a w hs => leaveY hr h hs
end yield
section enter
variable {P : Program} {α β : Type} [Dat α] [Dat β] {n : Nat}
theorem Yd.start {σ : Type} {y : σ → α → β → Option (σ × Bool)} {l : Nat} {J : σ → (Nat → Prop) → (Nat → Prop) → World → Prop} {X0 Y0 : Nat → Prop} {s0 : σ} {A : Nat → Prop} {w : World} (hA : ∀ k, w.heap.size ≤ k → A k) (hX : ∀ k, X0 k → ¬ A k) (j : YJ P y l w A J) (h0 : J s0 X0 Y0 w) : Yd P y l J X0 (refOf A w hA) s0 (refOf A w hA) :=
  ⟨j, fun k h => h, ⟨X0, Y0, h0, fun k hk => ⟨hX k hk, fun h => h, .inl hk⟩, fun k _ h => h⟩, fun k h => h.elim, Mut.refl _ _, inferInstance, rfl, rfl⟩
theorem enterY1 {f : FuncId} {fn : Func} {c : Code} {A : Nat → Prop} {w0 : World} {v1 : Value} {τ1 : Ty} {it : {σ : Type} → (σ → α → β → Option (σ × Bool)) → σ → Option σ} (hf : P.funcs[f]? = some fn) (hb : fn.body = some c) (hn : fn.ntmps = n) (hl : Nat.ble 2 n = true) (h1 : τ1.p A w0 v1)
    (h : ∀ {σ : Type} {y : σ → α → β → Option (σ × Bool)} {s0 q : σ} {l : Nat} {J : σ → (Nat → Prop) → (Nat → Prop) → World → Prop} {X0 : Nat → Prop} {r : Ref}, it y s0 = some q → Yd P y l J X0 r s0 r → Opens r →
      TC P r n (Env.set (Env.set Env.nil 0 (YldT l)) 1 τ1) [] c (bodyPost P fn (YPost J X0 r.w q))) : Iter2 P f [v1] A w0 it := by
  intro σ y s0 q A' w l J X0 Y0 H hk hA hX hj h0
  refine calls_of_TC (r := refOf A' w hA) (args := [.func (.yield l) #[] #[], v1]) hf hb hn (by simpa using hl) Pok.nil (fun t ht => ?_) (fun t ht => ?_) (h H (Yd.start hA hX hj h0) inferInstance)
  · match t, ht with
    | 0, _ => exact Ty.enter (show (YldT l).p A' w _ from rfl)
    | 1, _ => exact Ty.enter (τ1.keep hk h1)
  · simp only [List.length_cons, List.length_nil] at ht
    simp only [Env.set]
    rw [if_neg (show ¬ t = 1 by omega), if_neg (show ¬ t = 0 by omega)]
    exact trivial
end enter
section cut
variable {P : Program} {σ α β : Type} [Dat α] [Dat β] {y : σ → α → β → Option (σ × Bool)} {l : Nat} {J : σ → (Nat → Prop) → (Nat → Prop) → World → Prop} {X0 : Nat → Prop} {r0 r : Ref} {n : Nat} {Γ : Env} {Ω : List Pe} {Q : Exit → Act → World → Prop} {s : σ}
def CutY {τ ν : Type} (P : Program) {σ α β : Type} [Dat α] [Dat β] (y : σ → α → β → Option (σ × Bool)) (l : Nat) (J : σ → (Nat → Prop) → (Nat → Prop) → World → Prop) (X0 : Nat → Prop) (r0 : Ref) (n : Nat) (p : τ → Prop) (Mf : τ → σ) (Δ : τ → ν → Env) (I : τ → ν → List Pe) (Q : Exit → Act → World → Prop) : Exit → Act → World → Prop
  | .normal, a, w => ∃ s m r, p s ∧ Yd P y l J X0 r0 (Mf s) r ∧ Stt r n (Δ s m) (I s m) a w
  | e, a, w => Q e a w
theorem TC.cutY {τ ν : Type} {c : Code} (h0 : Yd P y l J X0 r0 s r) (p : τ → Prop) (Mf : τ → σ) (Δ : τ → ν → Env) (I : τ → ν → List Pe) (h : TC P r n Γ Ω c (CutY P y l J X0 r0 n p Mf Δ I Q)) (k : ∀ s m, p s → ∀ r, Yd P y l J X0 r0 (Mf s) r → TE r n (Δ s m) (I s m) Q .normal) : TC P r n Γ Ω c Q := fun a w hs => wpIn_mono (h a w hs) fun e a' w' hq => by
  cases e with
  | normal => obtain ⟨s, m, r, h1, h2, h3⟩ := hq; exact k s m h1 r h2 a' w' h3
  | _ => exact hq
theorem TE.cutY {τ ν : Type} {p : τ → Prop} {Mf : τ → σ} {Δ : τ → ν → Env} {I : τ → ν → List Pe} (h0 : Yd P y l J X0 r0 s r) (t : τ) (m : ν) (hp : p t) (hM : s = Mf t) (h : Γ.le (Δ t m)) (j : Less Ω (I t m)) : TE r n Γ Ω (CutY P y l J X0 r0 n p Mf Δ I Q) .normal :=
  fun _ _ hs => ⟨t, m, r, hp, hM ▸ h0, (hs.le h).less j⟩
theorem TE.cutY_ret {τ ν : Type} {p : τ → Prop} {Mf : τ → σ} {Δ : τ → ν → Env} {I : τ → ν → List Pe} (h : TE r n Γ Ω Q .ret) : TE r n Γ Ω (CutY P y l J X0 r0 n p Mf Δ I Q) .ret := h
theorem TC.loopY {τ ε ν : Type} {f : τ → Option (τ ⊕ ε)} {s0 : τ} {e : ε} {c : Code} (hl : loopO f s0 = some e) (h00 : Yd P y l J X0 r0 s r) (Mf : τ → σ) (I : τ → ν → Env) (K : τ → ν → List Pe) (m0 : ν) (hM : s = Mf s0) (h0 : Γ.le (I s0 m0)) (j0 : Less Ω (K s0 m0))
    (round : ∀ s m x, f s = some x → (∀ e', x = .inr e' → e' = e) → ∀ r, Yd P y l J X0 r0 (Mf s) r → TC P r n (I s m) (K s m) c (Exit.then (fun a w => ∃ s' m' r, x = .inl s' ∧ Yd P y l J X0 r0 (Mf s') r ∧ Stt r n (I s' m') (K s' m') a w) Q)) : TC P r n Γ Ω (.loop c) Q := by
  intro a w hs b k cs hro hb hr
  have key : ∀ (m : Nat) (s : τ) (v : ν) (r : Ref) a w, loopN f m s = some e → Yd P y l J X0 r0 (Mf s) r → Stt r n (I s v) (K s v) a w →
      ∃ e a' w', Q e a' w' ∧ ArrivesIn (Machine.fenced P (FR none)) P (lone (b.atR a (.code c :: .inLoop c :: k)) cs w) b k cs e a' w' := by
    intro m
    induction m with
    | zero => intro s v r a w hg; cases hg
    | succ m ih =>
      intro s v r a w hg hE hI
      unfold loopN at hg
      cases hf : f s with
      | none => rw [hf] at hg; cases hg
      | some x =>
        rw [hf] at hg
        obtain ⟨ex, a₁, w₁, hq, harr⟩ := round s v x hf (fun e' h => by subst h; injection hg) r hE a w hI b (.inLoop c :: k) cs (by rw [hE.rh, ← h00.rh]; exact hro) trivial (fun d hd => by cases hd)
        cases ex with
        | normal =>
          obtain ⟨s', m', r', hx, hE', hI₁⟩ := hq
          subst hx
          obtain ⟨e₂, a₂, w₂, hq₂, harr₂⟩ := ih s' m' r' a₁ w₁ hg hE' hI₁
          exact ⟨e₂, a₂, w₂, hq₂, .of_steps (StepsIn.trans harr (.one (fenced_calm (F := FR none) (n := 0) trivial (fun d hd => by cases hd) rfl) stepR_inLoop)) harr₂⟩
        | exit id => exact ⟨_, a₁, w₁, hq, .pass (x := .inLoop c) rfl (fun _ _ => .inl (by simp)) harr⟩
        | goto l => exact ⟨_, a₁, w₁, hq, .pass (x := .inLoop c) rfl (fun _ _ => .inl (by simp)) harr⟩
        | ret => exact ⟨_, a₁, w₁, hq, .pass (x := .inLoop c) rfl (fun _ _ => .inl (by simp)) harr⟩
        | panic ch => exact ⟨_, a₁, w₁, hq, .pass (x := .inLoop c) rfl (fun _ _ => .inl (by simp)) harr⟩
        | outgrown => exact ⟨_, a₁, w₁, hq, .pass (x := .inLoop c) rfl (fun _ _ => .inl (by simp)) harr⟩
  obtain ⟨e', a', w', hq, harr⟩ := key _ s0 m0 r a w hl (hM ▸ h00) ((hs.le h0).less j0)
  exact ⟨e', a', w', hq, .of_steps (.one (fenced_calm (F := FR r.ρ) (n := 0) trivial (fun d hd => by cases hd) rfl) stepR_loop) harr⟩
theorem TE.backY {τ ε ν : Type} {Mf : τ → σ} {I : τ → ν → Env} {K : τ → ν → List Pe} {x : τ ⊕ ε} (h0 : Yd P y l J X0 r0 s r) (s' : τ) (m' : ν) (hx : x = .inl s') (hM : s = Mf s') (h : Γ.le (I s' m')) (j : Less Ω (K s' m')) :
    TE r n Γ Ω (Exit.then (fun a w => ∃ s' m' r, x = .inl s' ∧ Yd P y l J X0 r0 (Mf s') r ∧ Stt r n (I s' m') (K s' m') a w) Q) .normal := fun _ _ hs => ⟨s', m', r, hx, hM ▸ h0, (hs.le h).less j⟩
end cut
end Go.Proofs.Ytefmfhbkihplgaa.Tr
namespace Go.Proofs.Ytefmfhbkihplgaa.Tr
open Go Go.RowKit
def yT2 {σ ε α β : Type} (f : σ → α → β → Option (σ ⊕ ε)) : (σ ⊕ ε) → α → β → Option ((σ ⊕ ε) × Bool)
  | .inl s, a, b => match f s a b with
    | some (.inl s') => some (.inl s', true)
    | some (.inr e) => some (.inr e, false)
    | none => none
  | .inr _, _, _ => none
theorem yT2_some {σ ε α β : Type} {f : σ → α → β → Option (σ ⊕ ε)} {st st' : σ ⊕ ε} {a : α} {b : β} {t : Bool} (h : yT2 f st a b = some (st', t)) : ∃ s, st = .inl s ∧ f s a b = some st' ∧ t = st'.isLeft := by
  cases st with
  | inr e => cases h
  | inl s =>
    refine ⟨s, rfl, ?_⟩
    simp only [yT2] at h
    cases hf : f s a b with
    | none => rw [hf] at h; cases h
    | some x => rw [hf] at h; cases x <;> (simp only [Option.some.injEq, Prod.mk.injEq] at h; obtain ⟨rfl, rfl⟩ := h; exact ⟨rfl, rfl⟩)
section
variable (r : Ref) (n : Nat) (Γ : Env)
structure Mem (l D : Nat) (a : Act) (Ω : List Pe) (Y : Nat → Prop) (W : World) : Prop where
  mu : Mut r.S r.w W
  own : ∀ k, Own Ω k → (r.w.heap.size ≤ k ∨ r.S k) ∧ k ≠ l ∧ k ≠ D
  ny : ∀ k, Y k → k < W.heap.size ∧ ¬ Own Ω k ∧ k ≠ l ∧ k ≠ D ∧ r.A k
  ks : Pks Y Ω W
  ap : Apart Ω
  ty : ∀ t, (Γ t).p Y W (a.tmps.getD t undef)
  hD : W.heap[D]? = some (.deferred (some []))
  ne : l ≠ D ∧ r.w.heap.size ≤ l ∧ r.w.heap.size ≤ D
structure Rec where
  fn : FuncId
  tmps : Array Value
  ps : Array Tmp
  assign : Code
  body : Code
  D : Nat
def Rec.o (q : Rec) (st : LoopState) (pe : Option Code) : Obj := .loop { state := st, pending := pe, fn := q.fn, tmps := q.tmps, params := q.ps, assign := q.assign, body := q.body, defers := q.D }
variable {σ ε ν : Type} (J : σ → ν → List Pe) (Jx : ε → ν → List Pe)
def RJ (l D : Nat) (a : Act) (q : Rec) : σ ⊕ ε → (Nat → Prop) → (Nat → Prop) → World → Prop
  | .inl s, X, Y, W => ∃ m, (∀ k, X k ↔ Own (J s m) k ∨ k = l ∨ k = D) ∧ Mem r Γ l D a (J s m) Y W ∧ W.heap[l]? = some (q.o .ready none)
  | .inr e, X, Y, W => ∃ m, (∀ k, X k ↔ Own (Jx e m) k ∨ k = l ∨ k = D) ∧ Mem r Γ l D a (Jx e m) Y W ∧ W.heap[l]? = some (q.o .done (some .ret))
structure Rnd where
  l : Nat
  D : Nat
  a : Act
  q : Rec
  X : Nat → Prop
  Y : Nat → Prop
  Ac : Nat → Prop
  W : World
structure Rd (R : Rnd) (t : Bool) (rr : Ref) : Prop where
  sz : R.W.heap.size ≤ rr.w.heap.size
  aa : ∀ k, rr.A k → (k < R.W.heap.size ∧ (R.X k ∨ R.Y k ∨ R.Ac k)) ∨ R.W.heap.size ≤ k
  ay : ∀ k, R.Y k → rr.A k
  nl : ¬ rr.A R.l ∧ ¬ rr.A R.D ∧ ¬ rr.S R.l ∧ ¬ rr.S R.D
  sub : ∀ k, rr.S k → R.X k ∨ R.W.heap.size ≤ k
  os : rr.w.os = R.W.os
  tape : rr.w.tape = R.W.tape
  output : rr.w.output = R.W.output
  mt : ∀ k, k < R.W.heap.size → ¬ R.X k → rr.w.heap[k]? = R.W.heap[k]?
  hl : rr.w.heap[R.l]? = some (R.q.o (if t then .busy else .ready) none)
  hD : rr.w.heap[R.D]? = some (.deferred (some []))
  op : Opens rr
  rh : rr.ρ = some R.l
  dq : rr.ds = []
  ac : ∀ k, R.Ac k → r.A k
  mem : ∃ Ω0, (∀ k, R.X k ↔ Own Ω0 k ∨ k = R.l ∨ k = R.D) ∧ Mem r Γ R.l R.D R.a Ω0 R.Y R.W ∧ ∀ k, Own Ω0 k → r.A k
def RQ (P : Program) (R : Rnd) (x : σ ⊕ ε) : Exit → Act → World → Prop := roundPost P R.l fun e W' => e = .returned (.bool x.isLeft) ∧
  ∃ X' Y', RJ r Γ J Jx R.l R.D R.a R.q x X' Y' W' ∧ (∀ k, X' k → R.X k ∨ R.W.heap.size ≤ k) ∧ (∀ k, Y' k → R.X k ∨ R.Y k ∨ R.Ac k ∨ R.W.heap.size ≤ k) ∧ Mut R.X R.W W'
def BQ (P : Program) (R : Rnd) (body : Code) (Qb : Exit → Act → World → Prop) : Exit → Act → World → Prop :=
  Exit.then (fun a₁ w₁ => ∃ w₂, (Instr.beginRound R.l).run P w₁ = .ok () w₂ ∧ body.wpIn (FR (some R.l)) 0 P Qb a₁ w₂) fun _ _ _ => False
end
section rules
variable {P : Program} {r : Ref} {n : Nat} {Γ Γ' : Env} {Ω : List Pe} {Q : Exit → Act → World → Prop} {σ ε ν : Type} {J : σ → ν → List Pe} {Jx : ε → ν → List Pe} {R : Rnd} {t : Bool} {rr : Ref}
theorem lt_some {w : World} {k : Nat} {o : Obj} (h : w.heap[k]? = some o) : k < w.heap.size := (Array.getElem?_eq_some_iff.1 h).1
theorem put_ne {w : World} {k l : Nat} {o : Obj} (h : k ≠ l) : (w.putObj l o).heap[k]? = w.heap[k]? := World.putObj_heap_other h
theorem Rd.own (h : Rd r Γ R t rr) {a : Act} {w : World} (hs : Stt rr n Γ' Ω a w) : ∀ k, Own Ω k → (R.X k ∨ R.W.heap.size ≤ k) ∧ k ≠ R.l ∧ k ≠ R.D ∧ ¬ R.Y k := fun k hk => by
  obtain ⟨Ω0, hX, hM, hA0⟩ := h.mem
  have h1 : R.X k ∨ R.W.heap.size ≤ k := by
    rcases hs.pv.own k hk with h2 | h2
    · exact .inr (Nat.le_trans h.sz h2)
    · exact h.sub k h2
  have hll := lt_some h.hl
  have hDl := lt_some h.hD
  refine ⟨h1, fun e => ?_, fun e => ?_, fun hY => ?_⟩
  · subst e
    rcases hs.pv.own _ hk with h2 | h2
    · omega
    · exact h.nl.2.2.1 h2
  · subst e
    rcases hs.pv.own _ hk with h2 | h2
    · omega
    · exact h.nl.2.2.2 h2
  · have hy := hM.ny k hY
    rcases h1 with h2 | h2
    · rcases (hX k).1 h2 with h3 | h3 | h3
      · exact hy.2.1 h3
      · exact hy.2.2.1 h3
      · exact hy.2.2.2.1 h3
    · omega
theorem TE.thenE {y : Code} {ρ : Option Nat} (hρ : r.ρ = ρ) (h : TC P r n Γ Ω y Q) : TE r n Γ Ω (Exit.then (y.wpIn (FR ρ) 0 P Q) Q) .normal := by subst hρ; exact h
theorem Rd.out (h : Rd r Γ R t rr) {a : Act} {w : World} (hs : Stt rr n Γ' Ω a w) {Ω2 : List Pe} (hl : Less Ω Ω2) (o : Obj) :
    ∃ X' Y' : Nat → Prop, (∀ k, X' k ↔ Own Ω2 k ∨ k = R.l ∨ k = R.D) ∧ Mem r Γ R.l R.D R.a Ω2 Y' (w.putObj R.l o) ∧ (∀ k, X' k → R.X k ∨ R.W.heap.size ≤ k) ∧ (∀ k, Y' k → R.X k ∨ R.Y k ∨ R.Ac k ∨ R.W.heap.size ≤ k) ∧ Mut R.X R.W (w.putObj R.l o) := by
  obtain ⟨Ω0, hX, hM, hA0⟩ := h.mem
  have hs2 := hs.less hl
  have hown := h.own hs2
  have hll := lt_some h.hl
  have hDl := lt_some h.hD
  have hsz : w.heap.size = (w.putObj R.l o).heap.size := World.putObj_size.symm
  have hrs : ∀ k, rr.S k → ¬ R.Y k := fun k hk hY => by
    have hy := hM.ny k hY
    rcases h.sub k hk with h2 | h2
    · rcases (hX k).1 h2 with h3 | h3 | h3
      · exact hy.2.1 h3
      · exact hy.2.2.1 h3
      · exact hy.2.2.2.1 h3
    · omega
  have hYX : ∀ k, R.Y k → ¬ R.X k := fun k hY hx => by
    have hy := hM.ny k hY
    rcases (hX k).1 hx with h3 | h3 | h3
    · exact hy.2.1 h3
    · exact hy.2.2.1 h3
    · exact hy.2.2.2.1 h3
  have hold : ∀ k, k < R.W.heap.size → ¬ R.X k → (w.putObj R.l o).heap[k]? = R.W.heap[k]? := fun k hk hx => by
    rw [put_ne fun e => hx ((hX k).2 (.inr (.inl e)))]
    rw [hs.mu.same k (Nat.lt_of_lt_of_le hk h.sz) fun hS => by
      rcases h.sub k hS with h2 | h2
      · exact hx h2
      · omega]
    exact h.mt k hk hx
  have hszW : R.W.heap.size ≤ (w.putObj R.l o).heap.size := by rw [← hsz]; exact Nat.le_trans h.sz hs.mu.size
  have hAl : ∀ k, rr.A k → k ≠ R.l ∧ k ≠ R.D := fun k hk => ⟨fun e => h.nl.1 (e ▸ hk), fun e => h.nl.2.1 (e ▸ hk)⟩
  refine ⟨fun k => Own Ω2 k ∨ k = R.l ∨ k = R.D, fun k => k < w.heap.size ∧ Pub rr.A Ω2 k, fun k => Iff.rfl, ⟨?_, fun k hk => ?_, fun k hk => ?_, ?_, hs2.pv.ap, fun t => ?_, ?_, hM.ne⟩, fun k hk => ?_, fun k hk => ?_, ?_⟩
  · refine ⟨hs.mu.os.trans (h.os.trans hM.mu.os), hs.mu.tape.trans (h.tape.trans hM.mu.tape), hs.mu.output.trans (h.output.trans hM.mu.output), Nat.le_trans hM.mu.size hszW, fun k hk hS => ?_⟩
    have hkW : k < R.W.heap.size := Nat.lt_of_lt_of_le hk hM.mu.size
    rw [hold k hkW fun hx => by
      rcases (hX k).1 hx with h3 | h3 | h3
      · rcases (hM.own k h3).1 with h4 | h4
        · omega
        · exact hS h4
      · have := hM.ne.2.1; omega
      · have := hM.ne.2.2; omega]
    exact hM.mu.same k hk hS
  · obtain ⟨h1, h2, h3, h4⟩ := hown k hk
    refine ⟨?_, h2, h3⟩
    rcases h1 with h1 | h1
    · rcases (hX k).1 h1 with h5 | h5 | h5
      · exact (hM.own k h5).1
      · exact absurd h5 h2
      · exact absurd h5 h3
    · exact .inl (Nat.le_trans hM.mu.size h1)
  · obtain ⟨h1, h2⟩ := hk
    obtain ⟨h3, h4⟩ := Pub_own.1 h2
    refine ⟨by rw [← hsz]; exact h1, h4, (hAl k h3).1, (hAl k h3).2, ?_⟩
    rcases h.aa k h3 with ⟨h5, h6 | h6 | h6⟩ | h5
    · rcases (hX k).1 h6 with h7 | h7 | h7
      · exact hA0 k h7
      · exact absurd h7 (hAl k h3).1
      · exact absurd h7 (hAl k h3).2
    · exact (hM.ny k h6).2.2.2.2
    · exact h.ac k h6
    · exact r.up k (Nat.le_trans hM.mu.size h5)
  · refine hs2.pv.ks.keep (A' := fun k => k < w.heap.size ∧ Pub rr.A Ω2 k) ⟨Nat.le_of_eq hsz, fun k hk hp => ⟨⟨hk, hp⟩, by rw [put_ne (hAl k (Pub_own.1 hp).1).1]; exact SameCells.refl _⟩⟩ fun j hj ho => by rw [put_ne (hown j ho).2.1]; exact SameCells.refl _
  · refine (Γ t).keep ⟨hszW, fun k hk hY => ⟨⟨Nat.lt_of_lt_of_le hk (Nat.le_trans h.sz hs.mu.size), Pub_own.2 ⟨h.ay k hY, fun ho => (hown k ho).2.2.2 hY⟩⟩, ?_⟩⟩ (hM.ty t)
    rw [hold k hk (hYX k hY)]; exact SameCells.refl _
  · rw [put_ne (Ne.symm hM.ne.1), hs.mu.same R.D hDl h.nl.2.2.2]; exact h.hD
  · rcases hk with hk | hk | hk
    · exact (hown k hk).1
    · exact .inl ((hX k).2 (.inr (.inl hk)))
    · exact .inl ((hX k).2 (.inr (.inr hk)))
  · obtain ⟨h1, h2⟩ := hk
    rcases h.aa k (Pub_own.1 h2).1 with ⟨h5, h6 | h6 | h6⟩ | h5
    · exact .inl h6
    · exact .inr (.inl h6)
    · exact .inr (.inr (.inl h6))
    · exact .inr (.inr (.inr h5))
  · exact ⟨hs.mu.os.trans h.os, hs.mu.tape.trans h.tape, hs.mu.output.trans h.output, hszW, hold⟩
theorem TE.roundN (h : Rd r Γ R true rr) {x : σ ⊕ ε} (s' : σ) (m' : ν) (hx : x = .inl s') (j : Less Ω (J s' m')) : TE rr n Γ' Ω (RQ r Γ J Jx P R x) .normal := fun a w hs => by
  subst hx
  have hl : w.heap[R.l]? = some (R.q.o .busy none) := by rw [hs.mu.same R.l (lt_some h.hl) h.nl.2.2.1]; exact h.hl
  obtain ⟨X', Y', h1, h2, h3, h4, h5⟩ := h.out hs j (R.q.o .ready none)
  refine ⟨.bool true, w.putObj R.l (R.q.o .ready none), ?_, rfl, X', Y', ⟨m', h1, h2, ?_⟩, h3, h4, h5⟩
  · have := run_endRound (P := P) none hl
    exact this
  · exact World.putObj_heap_same (lt_some hl)
theorem TE.roundR (h : Rd r Γ R true rr) {x : σ ⊕ ε} (e' : ε) (m' : ν) (hx : x = .inr e') (j : Less Ω (Jx e' m')) : TE rr n Γ' Ω (RQ r Γ J Jx P R x) .ret := fun a w hs => by
  subst hx
  have hl : w.heap[R.l]? = some (R.q.o .busy none) := by rw [hs.mu.same R.l (lt_some h.hl) h.nl.2.2.1]; exact h.hl
  obtain ⟨X', Y', h1, h2, h3, h4, h5⟩ := h.out hs j (R.q.o .done (some .ret))
  refine ⟨.bool false, w.putObj R.l (R.q.o .done (some .ret)), ?_, rfl, X', Y', ⟨m', h1, h2, ?_⟩, h3, h4, h5⟩
  · have := run_endRound (P := P) (some .ret) hl
    exact this
  · exact World.putObj_heap_same (lt_some hl)
theorem TE.begin {body : Code} {Qb : Exit → Act → World → Prop} (h : Rd r Γ R false rr) (k : ∀ rr, Rd r Γ R true rr → Opens rr → TC P rr n Γ' Ω body Qb) : TE rr n Γ' Ω (BQ P R body Qb) .normal := fun a w hs => by
  have hl : w.heap[R.l]? = some (R.q.o .ready none) := by rw [hs.mu.same R.l (lt_some h.hl) h.nl.2.2.1]; exact h.hl
  obtain ⟨Ω0, hX, hM, hA0⟩ := h.mem
  have hown := h.own hs
  have hAl : ∀ k, rr.A k → k ≠ R.l ∧ k ≠ R.D := fun k hk => ⟨fun e => h.nl.1 (e ▸ hk), fun e => h.nl.2.1 (e ▸ hk)⟩
  refine ⟨w.putObj R.l (R.q.o .busy none), run_beginRound (P := P) hl rfl, ?_⟩
  have hsz : w.heap.size = (w.putObj R.l (R.q.o .busy none)).heap.size := World.putObj_size.symm
  have hkeep : Keep (Pub rr.A Ω) (Pub rr.A Ω) w (w.putObj R.l (R.q.o .busy none)) := ⟨Nat.le_of_eq hsz, fun k hk hp => ⟨hp, by rw [put_ne (hAl k (Pub_own.1 hp).1).1]; exact SameCells.refl _⟩⟩
  have hop : Opens (⟨w.putObj R.l (R.q.o .busy none), rr.A, Own Ω, fun k hk => rr.up k (Nat.le_trans hs.mu.size (by rw [hsz]; exact hk)), some R.l, []⟩ : Ref) := ⟨fun k hk => by
    rcases hk with hk | hk
    · exact rr.up k (Nat.le_trans hs.mu.size (by rw [hsz]; exact hk))
    · exact h.op.h k (hs.pv.own k hk)⟩
  refine k ⟨w.putObj R.l (R.q.o .busy none), rr.A, Own Ω, fun k hk => rr.up k (Nat.le_trans hs.mu.size (by rw [hsz]; exact hk)), some R.l, []⟩
    ⟨by rw [← hsz]; exact Nat.le_trans h.sz hs.mu.size, h.aa, h.ay, ⟨h.nl.1, h.nl.2.1, fun ho => (hown _ ho).2.1 rfl, fun ho => (hown _ ho).2.2.1 rfl⟩, fun k hk => (hown k hk).1, hs.mu.os.trans h.os, hs.mu.tape.trans h.tape, hs.mu.output.trans h.output, fun k hk hx => ?_, ?_, ?_, hop, rfl, rfl, h.ac, ⟨Ω0, hX, hM, hA0⟩⟩ hop a _
    ⟨hs.sz, hs.df.trans h.dq, Mut.refl _ _, fun t => (Γ' t).keep hkeep (hs.ty t), ⟨fun k hk => .inr hk, hs.pv.ks.keep hkeep fun j hj ho => by rw [put_ne (hown j ho).2.1]; exact SameCells.refl _, hs.pv.ap⟩⟩
  · show (w.putObj R.l _).heap[k]? = _
    rw [put_ne fun e => hx ((hX k).2 (.inr (.inl e)))]
    rw [hs.mu.same k (Nat.lt_of_lt_of_le hk h.sz) fun hS => by
      rcases h.sub k hS with h2 | h2
      · exact hx h2
      · omega]
    exact h.mt k hk hx
  · exact World.putObj_heap_same (lt_some hl)
  · show (w.putObj R.l _).heap[R.D]? = _
    rw [put_ne (Ne.symm hM.ne.1), hs.mu.same R.D (lt_some h.hD) h.nl.2.2.2]; exact h.hD
structure Dn (r : Ref) (D : Nat) (r1 : Ref) : Prop where
  a : ∀ k, r1.A k → r.A k ∧ k ≠ D
  sub : ∀ k, r1.S k → r.w.heap.size ≤ k ∨ r.S k
  mt : Mut r.S r.w r1.w
  nS : ¬ r1.S D
  hD : r1.w.heap[D]? = some (.deferred (some []))
  new : r.w.heap.size ≤ D
  ds : r1.ds = [{ target := .collected D, args := #[] }]
  dq : r.ds = []
  rh : r1.ρ = r.ρ
  op : Opens r1
theorem Mem.dn {l D : Nat} {a : Act} {Y : Nat → Prop} {W : World} (h : Mem r Γ l D a Ω Y W) (hr : ∀ k, Own Ω k → r.A k) (hρ : r.ρ = none) (hds : r.ds = []) (hsz : a.tmps.size = n) (o : Obj) :
    ∃ r1, Dn r D r1 ∧ Stt r1 n Γ Ω { a with defers := [{ target := .collected D, args := #[] }] } (W.putObj l o) ∧ r1.ρ = none := by
  have hs : W.heap.size = (W.putObj l o).heap.size := World.putObj_size.symm
  have hown : ∀ k, Own Ω k → k < W.heap.size := fun k hk => h.ks.lt hk
  have hkeep : Keep Y (Pub (fun k => (k < W.heap.size ∧ (Own Ω k ∨ Y k)) ∨ W.heap.size ≤ k) Ω) W (W.putObj l o) := ⟨Nat.le_of_eq hs, fun k hk hY => ⟨Pub_own.2 ⟨.inl ⟨hk, .inr hY⟩, (h.ny k hY).2.1⟩, by rw [put_ne (h.ny k hY).2.2.1]; exact SameCells.refl _⟩⟩
  have hDlt := lt_some h.hD
  refine ⟨⟨W.putObj l o, fun k => (k < W.heap.size ∧ (Own Ω k ∨ Y k)) ∨ W.heap.size ≤ k, Own Ω, fun k hk => .inr (by rw [hs]; exact hk), none, [{ target := .collected D, args := #[] }]⟩, ⟨fun k hk => ?_, fun k hk => (h.own k hk).1, ?_, fun ho => (h.own D ho).2.2 rfl, ?_, h.ne.2.2, rfl, hds, hρ.symm, ⟨fun k hk => ?_⟩⟩, ⟨hsz, rfl, Mut.refl _ _, fun t => (Γ t).keep hkeep (h.ty t), ⟨fun k hk => .inr hk, h.ks.keep hkeep fun j hj ho => by rw [put_ne (h.own j ho).2.1]; exact SameCells.refl _, h.ap⟩⟩, rfl⟩
  · rcases hk with ⟨h1, h2 | h2⟩ | h1
    · exact ⟨hr k h2, (h.own k h2).2.2⟩
    · exact ⟨(h.ny k h2).2.2.2.2, (h.ny k h2).2.2.2.1⟩
    · exact ⟨r.up k (Nat.le_trans h.mu.size h1), by omega⟩
  · refine ⟨h.mu.os, h.mu.tape, h.mu.output, by rw [← hs]; exact h.mu.size, fun k hk hS => ?_⟩
    rw [put_ne (by have := h.ne.2.1; omega)]; exact h.mu.same k hk hS
  · show (W.putObj l o).heap[D]? = _
    rw [put_ne (Ne.symm h.ne.1)]; exact h.hD
  · rcases hk with hk | hk
    · exact .inr (by rw [hs]; exact hk)
    · exact .inl ⟨hown k hk, .inl hk⟩
theorem Dn.back {D : Nat} {r1 : Ref} (h : Dn r D r1) {a : Act} {w : World} (hs : Stt r1 n Γ Ω a w) : w.heap[D]? = some (.deferred (some [])) ∧ Stt r n Γ Ω { a with defers := [] } (w.putObj D (.deferred none)) := by
  have hD : w.heap[D]? = some (.deferred (some [])) := by rw [hs.mu.same D (lt_some h.hD) h.nS]; exact h.hD
  have hsz : w.heap.size = (w.putObj D (.deferred none)).heap.size := World.putObj_size.symm
  have hnD : ∀ k, Own Ω k → k ≠ D := fun k hk e => by
    subst e
    rcases hs.pv.own _ hk with h2 | h2
    · have := lt_some h.hD; omega
    · exact h.nS h2
  have hkeep : Keep (Pub r1.A Ω) (Pub r.A Ω) w (w.putObj D (.deferred none)) := ⟨Nat.le_of_eq hsz, fun k hk hp => by
    obtain ⟨h1, h2⟩ := Pub_own.1 hp
    exact ⟨Pub_own.2 ⟨(h.a k h1).1, h2⟩, by rw [put_ne (h.a k h1).2]; exact SameCells.refl _⟩⟩
  refine ⟨hD, hs.sz, h.dq.symm, ⟨hs.mu.os.trans h.mt.os, hs.mu.tape.trans h.mt.tape, hs.mu.output.trans h.mt.output, by rw [← hsz]; exact Nat.le_trans h.mt.size hs.mu.size, fun k hk hS => ?_⟩, fun t => (Γ t).keep hkeep (hs.ty t), ⟨fun k hk => ?_, hs.pv.ks.keep hkeep fun j hj ho => by rw [put_ne (hnD j ho)]; exact SameCells.refl _, hs.pv.ap⟩⟩
  · have := h.new
    rw [put_ne (by omega), hs.mu.same k (Nat.lt_of_lt_of_le hk h.mt.size) fun hx => by rcases h.sub k hx with h3 | h3; omega; exact hS h3]
    exact h.mt.same k hk hS
  · rcases hs.pv.own k hk with h2 | h2
    · exact .inl (Nat.le_trans h.mt.size h2)
    · exact h.sub k h2
theorem TE.marks {fn : Func} {F : Ending → World → Prop} {D : Nat} {r1 : Ref} (h : Dn r D r1) (k : TE r n Γ Ω (bodyPost P fn F) .ret) : TE r1 n Γ Ω (bodyPostM (FR none) 0 P fn F) .ret := fun a w hs => by
  obtain ⟨hD, h2⟩ := h.back hs
  obtain ⟨-, v, h3, h4⟩ := k _ _ h2
  show LeavesInM (FR none) 0 P fn a.tmps F a.defers .returning w
  rw [hs.df, h.ds]
  exact ⟨by simp, .inl ⟨D, w.putObj D (.deferred none), rfl, run_takeDeferred hD, v, h3, h4⟩⟩
theorem TE.noMarks {fn : Func} {F : Ending → World → Prop} (hd : r.ds = []) (k : TE r n Γ Ω (bodyPost P fn F) .ret) : TE r n Γ Ω (bodyPostM (FR none) 0 P fn F) .ret := fun a w hs => by
  obtain ⟨-, v, h3, h4⟩ := k _ _ hs
  show LeavesInM (FR none) 0 P fn a.tmps F a.defers .returning w
  rw [hs.df, hd]
  exact ⟨v, h3, h4⟩
theorem TC.range2 {α β : Type} [Dat α] [Dat β] {it : {σ : Type} → (σ → α → β → Option (σ × Bool)) → σ → Option σ} {f : σ → α → β → Option (σ ⊕ ε)} {s0 : σ} {x : σ ⊕ ε} {g : FuncId} {t p1 p2 : Tmp} {assign body : Code} {T : Ty}
    (H : it (yT2 f) (.inl s0) = some x) (hρ : r.ρ = none) (hds : r.ds = []) [op : Opens r] [h1 : Has Γ (.tmp t) T] [F : Fun P g] (hT : ∀ A w v, T.p A w v → ∃ cs : List Value, v = .func (.func g) #[] cs.toArray ∧ Iter2 P g cs A w it) (hp1 : Nat.blt p1 n = true) (hp2 : Nat.blt p2 n = true)
    (J : σ → ν → List Pe) (Jx : ε → ν → List Pe) (m0 : ν) (j0 : Less Ω (J s0 m0))
    (round : ∀ s m x1 x2 x', f s x1 x2 = some x' → ∀ R rr, Rd r Γ R false rr → Opens rr → TC P rr n ((Γ.set p1 (D x1)).set p2 (D x2)) (J s m) assign (BQ P R body (RQ r Γ J Jx P R x')))
    (done : ∀ s m D r1, x = .inl s → Dn r D r1 → TE r1 n Γ (J s m) Q .normal)
    (stop : ∀ e m D r1, x = .inr e → Dn r D r1 → TE r1 n Γ (Jx e m) Q .ret) : TC P r n Γ Ω (.rangeFunc (.tmp t) #[p1, p2] assign body) Q := by
  intro a w hs
  have hs := hs.less j0
  have eT := h1.le a _ w fun t _ => hs.ty t
  obtain ⟨cs, e0, hit⟩ := hT _ _ _ eT
  rw [hρ]
  refine wpIn_rangeFunc (F := FR none) fun fn _ => ?_
  obtain ⟨q, hq⟩ : ∃ q : Rec, q = ⟨fn, a.tmps, #[p1, p2], assign, body, w.heap.size⟩ := ⟨_, rfl⟩
  obtain ⟨w1, hw1⟩ : ∃ w1, w1 = (w.alloc (.deferred (some []))).alloc (q.o .ready none) := ⟨_, rfl⟩
  have hsz1 : w1.heap.size = w.heap.size + 2 := by rw [hw1]; simp
  have hL1 : w1.heap[w.heap.size + 1]? = some (q.o .ready none) := by
    rw [hw1]; have := World.alloc_heap_new (w.alloc (.deferred (some []))) (q.o .ready none); rwa [World.size_alloc] at this
  have hD1 : w1.heap[w.heap.size]? = some (.deferred (some [])) := by
    rw [hw1]; exact (Below.heap_alloc _ _ _ (by simp)).trans (World.alloc_heap_new w _)
  have hold : ∀ k, k < w.heap.size → w1.heap[k]? = w.heap[k]? := fun k hk => by
    rw [hw1]; exact (Below.heap_alloc _ _ _ (by simp; omega)).trans (Below.heap_alloc _ _ _ hk)
  have hrun : (Instr.enterLoop fn a.tmps #[p1, p2] assign body (FR none).round).run P w = .ok (w.heap.size + 1, [{ target := .collected w.heap.size, args := #[] }]) w1 := by
    rw [hw1, hq]; exact run_enterLoop_outer _ _ _ _ _
  have hA1 : ∀ k, w1.heap.size ≤ k → ((k < w.heap.size ∧ Pub r.A (J s0 m0) k) ∨ w1.heap.size ≤ k) := fun k hk => .inr hk
  have hown0 : ∀ k, Own (J s0 m0) k → k < w.heap.size := fun k hk => hs.pv.ks.lt hk
  have hkeep1 : Keep (Pub r.A (J s0 m0)) (fun k => (k < w.heap.size ∧ Pub r.A (J s0 m0) k) ∨ w1.heap.size ≤ k) w w1 := ⟨by omega, fun k hk hp => ⟨.inl ⟨hk, hp⟩, by rw [hold k hk]; exact SameCells.refl _⟩⟩
  have hkeep2 : Keep (Pub r.A (J s0 m0)) (fun k => k < w.heap.size ∧ Pub r.A (J s0 m0) k) w w1 := ⟨by omega, fun k hk hp => ⟨⟨hk, hp⟩, by rw [hold k hk]; exact SameCells.refl _⟩⟩
  have hopen : ∀ Ω : List Pe, (∀ k, Own Ω k → r.w.heap.size ≤ k ∨ r.S k) → ∀ k, Own Ω k → r.A k := fun Ω h k hk => op.h k (h k hk)
  -- what is carried
  have hmem0 : Mem r Γ (w.heap.size + 1) w.heap.size a (J s0 m0) (fun k => k < w.heap.size ∧ Pub r.A (J s0 m0) k) w1 := by
    refine ⟨?_, fun k hk => ⟨hs.pv.own k hk, by have := hown0 k hk; omega, by have := hown0 k hk; omega⟩, fun k hk => ⟨by omega, (Pub_own.1 hk.2).2, by omega, by omega, (Pub_own.1 hk.2).1⟩, hs.pv.ks.keep hkeep2 fun j hj _ => by rw [hold j hj]; exact SameCells.refl _, hs.pv.ap, fun t => (Γ t).keep hkeep2 (hs.ty t), hD1, by omega, by have := hs.mu.size; omega, hs.mu.size⟩
    have e1 : w1.os = w.os := by rw [hw1]; rfl
    have e2 : w1.tape = w.tape := by rw [hw1]; rfl
    have e3 : w1.output = w.output := by rw [hw1]; rfl
    exact ⟨e1.trans hs.mu.os, e2.trans hs.mu.tape, e3.trans hs.mu.output, by have := hs.mu.size; omega, fun k hk hS => by rw [hold k (by have := hs.mu.size; omega)]; exact hs.mu.same k hk hS⟩
  have hj : YJ P (yT2 f) (w.heap.size + 1) w1 (fun k => (k < w.heap.size ∧ Pub r.A (J s0 m0) k) ∨ w1.heap.size ≤ k) (RJ r Γ J Jx (w.heap.size + 1) w.heap.size a q) := by
    refine ⟨fun {st X Y W k} h hk => ?_, fun {st X Y W W'} h hold2 hX hY hsz e1 e2 e3 => ?_, fun {st x1 x2 st' tb X Y W v1 v2 Ac} hy h hAc hv1 hv2 => ?_⟩
    · have key : ∀ (Ω : List Pe), (∀ k, X k ↔ Own Ω k ∨ k = w.heap.size + 1 ∨ k = w.heap.size) → Mem r Γ (w.heap.size + 1) w.heap.size a Ω Y W → w.heap.size + 1 < W.heap.size → k < W.heap.size := fun Ω h1 h2 h3 => by
        rcases hk with hk | hk
        · rcases (h1 k).1 hk with h4 | h4 | h4
          · exact h2.ks.lt h4
          · omega
          · omega
        · exact (h2.ny k hk).1
      cases st with
      | inl s => obtain ⟨m, h1, h2, h3⟩ := h; exact key _ h1 h2 (lt_some h3)
      | inr e => obtain ⟨m, h1, h2, h3⟩ := h; exact key _ h1 h2 (lt_some h3)
    · have key : ∀ (Ω : List Pe) (o : Obj), (∀ k, X k ↔ Own Ω k ∨ k = w.heap.size + 1 ∨ k = w.heap.size) → Mem r Γ (w.heap.size + 1) w.heap.size a Ω Y W → W.heap[w.heap.size + 1]? = some o → Mem r Γ (w.heap.size + 1) w.heap.size a Ω Y W' ∧ W'.heap[w.heap.size + 1]? = some o := fun Ω o h1 h2 h3 => by
        have hkp : Keep Y Y W W' := ⟨hsz, fun k hk hy => ⟨hy, hY k hy⟩⟩
        refine ⟨⟨⟨e1.trans h2.mu.os, e2.trans h2.mu.tape, e3.trans h2.mu.output, Nat.le_trans h2.mu.size hsz, fun k hk hS => ?_⟩, h2.own, fun k hk => ⟨Nat.lt_of_lt_of_le (h2.ny k hk).1 hsz, (h2.ny k hk).2⟩, h2.ks.keep hkp fun j hj ho => by rw [hX j ((h1 j).2 (.inl ho))]; exact SameCells.refl _, h2.ap, fun t => (Γ t).keep hkp (h2.ty t), ?_, h2.ne⟩, ?_⟩
        · rw [hold2 k (by have := hs.mu.size; omega)]; exact h2.mu.same k hk hS
        · rw [hX _ ((h1 _).2 (.inr (.inr rfl)))]; exact h2.hD
        · rw [hX _ ((h1 _).2 (.inr (.inl rfl)))]; exact h3
      cases st with
      | inl s => obtain ⟨m, h1, h2, h3⟩ := h; obtain ⟨h4, h5⟩ := key _ _ h1 h2 h3; exact ⟨m, h1, h4, h5⟩
      | inr e => obtain ⟨m, h1, h2, h3⟩ := h; obtain ⟨h4, h5⟩ := key _ _ h1 h2 h3; exact ⟨m, h1, h4, h5⟩
    · obtain ⟨s, rfl, hf, rfl⟩ := yT2_some hy
      obtain ⟨m, h1, h2, h3⟩ := h
      have hyr := run_yield (P := P) (w := W) (args := #[v1, v2]) (r := { state := .ready, pending := none, fn := q.fn, tmps := q.tmps, params := q.ps, assign := q.assign, body := q.body, defers := q.D }) h3 (by rw [hq]; rfl)
      refine ⟨_, _, _, _, hyr, roundIn_of_wpIn trivial ?_⟩
      subst hq
      dsimp only
      have hown : ∀ k, Own (J s m) k → k < W.heap.size := fun k hk => h2.ks.lt hk
      have hAX : ∀ k, Ac k → ¬ Own (J s m) k ∧ k ≠ w.heap.size + 1 ∧ k ≠ w.heap.size := fun k hk => ⟨fun ho => (hAc k hk).1 ((h1 k).2 (.inl ho)), fun e => (hAc k hk).1 ((h1 k).2 (.inr (.inl e))), fun e => (hAc k hk).1 ((h1 k).2 (.inr (.inr e)))⟩
      obtain ⟨R, hR⟩ : ∃ R : Rnd, R = ⟨w.heap.size + 1, w.heap.size, a, ⟨fn, a.tmps, #[p1, p2], assign, body, w.heap.size⟩, X, Y, Ac, W⟩ := ⟨_, rfl⟩
      obtain ⟨rr, hrr⟩ : ∃ rr : Ref, rr = ⟨W, fun k => (k < W.heap.size ∧ (Own (J s m) k ∨ Y k ∨ Ac k)) ∨ W.heap.size ≤ k, Own (J s m), fun k hk => .inr hk, some (w.heap.size + 1), []⟩ := ⟨_, rfl⟩
      have hop : Opens rr := ⟨fun k hk => by
        rw [hrr] at hk ⊢
        rcases hk with hk | hk
        · exact .inr hk
        · exact .inl ⟨hown k hk, .inl hk⟩⟩
      have hrd : Rd r Γ R false rr := by
        subst hR hrr
        refine ⟨Nat.le_refl _, fun k hk => ?_, fun k hk => .inl ⟨(h2.ny k hk).1, .inr (.inl hk)⟩, ⟨?_, ?_, fun ho => (h2.own _ ho).2.1 rfl, fun ho => (h2.own _ ho).2.2 rfl⟩, fun k hk => .inl ((h1 k).2 (.inl hk)), rfl, rfl, rfl, fun _ _ _ => rfl, h3, h2.hD, hop, rfl, rfl, fun k hk => ?_, ⟨J s m, h1, h2, fun k hk => hopen _ (fun k hk => (h2.own k hk).1) k hk⟩⟩
        · rcases hk with ⟨h5, h6 | h6 | h6⟩ | h5
          · exact .inl ⟨h5, .inl ((h1 k).2 (.inl h6))⟩
          · exact .inl ⟨h5, .inr (.inl h6)⟩
          · exact .inl ⟨h5, .inr (.inr h6)⟩
          · exact .inr h5
        · have hll := lt_some h3
          rintro (⟨h5, h6 | h6 | h6⟩ | h5)
          · exact (h2.own _ h6).2.1 rfl
          · exact (h2.ny _ h6).2.2.1 rfl
          · exact (hAX _ h6).2.1 rfl
          · dsimp only at h5; omega
        · have hll := lt_some h2.hD
          rintro (⟨h5, h6 | h6 | h6⟩ | h5)
          · exact (h2.own _ h6).2.2 rfl
          · exact (h2.ny _ h6).2.2.2.1 rfl
          · exact (hAX _ h6).2.2 rfl
          · dsimp only at h5; omega
        · rcases (hAc k hk).2 with h5 | h5
          · exact (Pub_own.1 h5.2).1
          · exact r.up k (by have := hs.mu.size; omega)
      have hkY : Keep Y (Pub rr.A (J s m)) W W := by
        subst hrr
        exact Keep.mono fun k hk hy => Pub_own.2 ⟨.inl ⟨hk, .inr (.inl hy)⟩, (h2.ny k hy).2.1⟩
      have hkA : Keep Ac (Pub rr.A (J s m)) W W := by
        subst hrr
        exact Keep.mono fun k hk hy => Pub_own.2 ⟨.inl ⟨hk, .inr (.inr hy)⟩, (hAX k hy).1⟩
      have b1 : p1 < n := by simpa using hp1
      have b2 : p2 < n := by simpa using hp2
      obtain ⟨t1, t2, t3⟩ := tmps_put (a := ⟨a.tmps, []⟩) (d := some p1) (τ := D x1) (v := v1) (w' := W) (A := Pub rr.A (J s m)) (n := n) hs.sz (fun t ht => by injection ht with ht; subst ht; exact b1) (fun t => (Γ t).keep hkY (h2.ty t)) ((D x1).keep hkA hv1)
      obtain ⟨t4, t5, t6⟩ := tmps_put (a := (⟨a.tmps, []⟩ : Act).put (some p1) v1) (d := some p2) (τ := D x2) (v := v2) (w' := W) (A := Pub rr.A (J s m)) (n := n) t1 (fun t ht => by injection ht with ht; subst ht; exact b2) t3 ((D x2).keep hkA hv2)
      have hst : Stt rr n ((Γ.set p1 (D x1)).set p2 (D x2)) (J s m) (((⟨a.tmps, []⟩ : Act).put (some p1) v1).put (some p2) v2) W := by
        refine ⟨t4, by subst hrr; exact t5.trans t2, by subst hrr; exact Mut.refl _ _, t6, ⟨fun k hk => ?_, h2.ks.keep hkY fun j _ _ => SameCells.refl _, h2.ap⟩⟩
        subst hrr; exact .inr hk
      have := round s m x1 x2 st' hf R rr hrd hop _ _ hst
      subst hR hrr
      have hz : Array.foldl (fun (tmps : Array Value) (x : Tmp × Value) => tmps.setIfInBounds x.1 x.2) a.tmps ((#[p1, p2] : Array Tmp).zip #[v1, v2]) = (a.tmps.setIfInBounds p1 v1).setIfInBounds p2 v2 := by simp
      have hz2 : (⟨Array.foldl (fun (tmps : Array Value) (x : Tmp × Value) => tmps.setIfInBounds x.1 x.2) a.tmps ((#[p1, p2] : Array Tmp).zip #[v1, v2]), []⟩ : Act) = ((⟨a.tmps, []⟩ : Act).put (some p1) v1).put (some p2) v2 := by rw [hz]; rfl
      show Code.wpIn (FR (some (w.heap.size + 1))) 0 P assign _ (⟨Array.foldl (fun (tmps : Array Value) (x : Tmp × Value) => tmps.setIfInBounds x.1 x.2) a.tmps ((#[p1, p2] : Array Tmp).zip #[v1, v2]), []⟩ : Act) W
      rw [hz2]
      exact this
  have h0 : RJ r Γ J Jx (w.heap.size + 1) w.heap.size a q (.inl s0) (fun k => Own (J s0 m0) k ∨ k = w.heap.size + 1 ∨ k = w.heap.size) (fun k => k < w.heap.size ∧ Pub r.A (J s0 m0) k) w1 := ⟨m0, fun k => Iff.rfl, hmem0, hL1⟩
  have hcall := hit (yT2 f) (.inl s0) x _ w1 (w.heap.size + 1) _ _ _ H hkeep1 hA1 (fun k hk hA => by
    rcases hk with hk | hk | hk
    · rcases hA with hA | hA
      · exact (Pub_own.1 hA.2).2 hk
      · have := hown0 k hk; omega
    · rcases hA with hA | hA
      · omega
      · omega
    · rcases hA with hA | hA
      · omega
      · omega) hj h0
  refine ⟨w.heap.size + 1, [{ target := .collected w.heap.size, args := #[] }], w1, { target := .fn (.func g) cs.toArray, args := #[.func (.yield (w.heap.size + 1)) #[] #[]] }, w1, g, #[.func (.yield (w.heap.size + 1)) #[] #[]] ++ cs.toArray, w1, hrun, ?_, fun _ _ => trivial, ?_, FR_depth, callsIn_FR.2 ?_⟩
  · have e0 : a.eval (.tmp t) = .func (.func g) #[] cs.toArray := e0
    simp only [resolve, e0, Deferred.ofValue, Sem.run_pure, List.map_toArray, List.map_cons, List.map_nil]
    simp [go_sem]
  · simp [invoke, go_sem, F.h]
  · have e1 : (#[.func (.yield (w.heap.size + 1)) #[] #[]] ++ cs.toArray : Array Value) = (Value.func (.yield (w.heap.size + 1)) #[] #[] :: cs).toArray := by simp
    rw [e1]
    refine hcall.mono ?_
    rintro e W3 ⟨⟨v, rfl⟩, X', Y', hx, -, -⟩
    have hdf : a.defers = [] := hs.df.trans hds
    cases x with
    | inl s =>
      obtain ⟨m, h1, h2, h3⟩ := hx
      obtain ⟨r1, d1, d2, d3⟩ := h2.dn (n := n) (hopen _ fun k hk => (h2.own k hk).1) hρ hds hs.sz (q.o .exhausted none)
      refine ⟨none, _, by have := run_endLoop (P := P) h3 (by simp); exact this, ?_⟩
      have := done s m _ r1 rfl d1 _ _ d2
      show Q .normal { a with defers := [{ target := .collected w.heap.size, args := #[] }] ++ a.defers } _
      rw [hdf]; exact this
    | inr e =>
      obtain ⟨m, h1, h2, h3⟩ := hx
      obtain ⟨r1, d1, d2, d3⟩ := h2.dn (n := n) (hopen _ fun k hk => (h2.own k hk).1) hρ hds hs.sz (q.o .exhausted (some .ret))
      refine ⟨some .ret, _, by have := run_endLoop (P := P) h3 (by simp); exact this, ?_⟩
      have := stop e m _ r1 rfl d1 _ _ d2
      show Code.wpIn (FR none) 0 P .ret Q { a with defers := [{ target := .collected w.heap.size, args := #[] }] ++ a.defers } _
      rw [hdf]; exact wpIn_ret this
end rules
section enter
variable {P : Program} {n : Nat} {R : Ending → World → Prop}
theorem calls_of_TCM {r : Ref} {Γ : Env} {Ω : List Pe} {f : FuncId} {fn : Func} {c : Code} {args : List Value} (hf : P.funcs[f]? = some fn) (hb : fn.body = some c) (hn : fn.ntmps = n) (hl : args.length ≤ n) (hΩ : Pok r Ω r.w)
    (hok : ∀ t, t < args.length → (Γ t).p (Pub r.A Ω) r.w (args.getD t undef)) (hout : ∀ t, args.length ≤ t → (Γ t).p (Pub r.A Ω) r.w undef)
    (h : TC P r n Γ Ω c (bodyPostM (FR none) 0 P fn R)) (hρ : r.ρ = none := by rfl) (hds : r.ds = [] := by rfl) : Calls P f args.toArray r.w R := by
  refine callsIn_FR.1 (callsIn_of_wp_marks (F := FR none) (n := 0) hf hb trivial (show c.wpIn (FR none) 0 P _ _ _ from hρ ▸ h _ _ ⟨?_, hds.symm, Mut.refl _ _, fun t => ?_, hΩ⟩))
  · simp [hn]; omega
  · simp only [Array.getD_eq_getD_getElem?]
    rcases Nat.lt_or_ge t args.length with h1 | h1
    · have := hok t h1
      rw [List.getD_eq_getElem?_getD] at this
      rw [Array.getElem?_append_left (by simpa using h1)]
      simpa using this
    · have := hout t h1
      rw [Array.getElem?_append_right (by simpa using h1)]
      simp only [Array.getElem?_replicate]
      split <;> simpa using this
theorem enterM1 {f : FuncId} {fn : Func} {c : Code} {A : Nat → Prop} {w : World} {v0 : Value} {τ0 : Ty} (hA : ∀ k, w.heap.size ≤ k → A k) (hf : P.funcs[f]? = some fn) (hb : fn.body = some c) (hn : fn.ntmps = n) (hl : Nat.ble 1 n = true) (h0 : τ0.p A w v0)
    (h : TC P (refOf A w hA) n (Env.set Env.nil 0 τ0) [] c (bodyPostM (FR none) 0 P fn R)) : Calls P f #[v0] w R := by
  refine calls_of_TCM (r := refOf A w hA) (args := [v0]) hf hb hn (by simpa using hl) Pok.nil (fun t ht => ?_) (fun t ht => ?_) h
  · match t, ht with
    | 0, _ => exact Ty.enter h0
  · simp only [List.length_cons, List.length_nil] at ht
    simp only [Env.set]
    rw [if_neg (show ¬ t = 0 by omega)]
    exact trivial
theorem enterM2 {f : FuncId} {fn : Func} {c : Code} {A : Nat → Prop} {w : World} {v0 v1 : Value} {τ0 τ1 : Ty} (hA : ∀ k, w.heap.size ≤ k → A k) (hf : P.funcs[f]? = some fn) (hb : fn.body = some c) (hn : fn.ntmps = n) (hl : Nat.ble 2 n = true) (h0 : τ0.p A w v0) (h1 : τ1.p A w v1)
    (h : TC P (refOf A w hA) n (Env.set (Env.set Env.nil 0 τ0) 1 τ1) [] c (bodyPostM (FR none) 0 P fn R)) : Calls P f #[v0, v1] w R := by
  refine calls_of_TCM (r := refOf A w hA) (args := [v0, v1]) hf hb hn (by simpa using hl) Pok.nil (fun t ht => ?_) (fun t ht => ?_) h
  · match t, ht with
    | 0, _ => exact Ty.enter h0
    | 1, _ => exact Ty.enter h1
  · simp only [List.length_cons, List.length_nil] at ht
    simp only [Env.set]
    rw [if_neg (show ¬ t = 1 by omega), if_neg (show ¬ t = 0 by omega)]
    exact trivial
end enter
end Go.Proofs.Ytefmfhbkihplgaa.Tr
namespace Go.Proofs.Ytefmfhbkihplgaa.Tr
open Go Go.RowKit
theorem bytes_get {l : List UInt8} {i : Nat} {v : UInt8} (h : l[i]? = some v) : (⟨l.toArray⟩ : ByteArray)[i]? = some v := by
  obtain ⟨h1, h2⟩ := List.getElem?_eq_some_iff.1 h
  have hs : i < (⟨l.toArray⟩ : ByteArray).size := by show i < l.toArray.size; simpa using h1
  rw [getElem?_pos (⟨l.toArray⟩ : ByteArray) i hs]
  refine congrArg some ?_
  show l.toArray[i] = v
  simpa using h2
theorem cut_view {α : Type} {xs : List α} {k m : Nat} {u : Unit} (h : cut xs.length (k : Int) ((k + m : Nat) : Int) = some u) : m = ((xs.drop k).take m).length := by
  have := cut_some h; simp; omega
section ops
variable {P : Program} {B0 : Nat} {A : Nat → Prop} {Ω : List Pe} {Γ : Env} {dst : Option Tmp} {ty : TypeId} {pos : String} {aft : Array Edge} {gd : Option (Nat × Bool)} {t e : TypeId} {x y : Operand} {τ σ : Ty}
theorem OpY.indexStr {l l' : List UInt8} {q : Int} {v : UInt8} [T : TStr P t] [Has Γ x τ] [hx : AsStr τ l'] [Has Γ y σ] [hy : AsIx σ q] (hl : l' = l) (h : idx l q = some v) : OpY P B0 A Ω Γ ⟨dst, .index t x y, ty, pos, aft, gd⟩ (D v) :=
  OpY.val fun a w hl2 => by
    subst hl
    have e1 : a.eval x = .string ⟨l'.toArray⟩ := hx.le _ _ _ (Has.ev (x := x) (τ := τ) (op := .index t x y) (by simp [Op.operands]) hl2)
    obtain ⟨kd, e2⟩ := hy.h (Has.ev (x := y) (τ := σ) (op := .index t x y) (by simp [Op.operands]) hl2)
    obtain ⟨h1, h2⟩ := idx_some h
    refine ⟨.int .u8 v.toNat, ?_, [_], rfl, rfl⟩
    simp only [execOp, e1, e2, Instr.index, asIntOf, Sem.run_bind, Sem.run_pure, Result.andThen_ok, run_underlying T.h, h1, if_true, bytes_get h2]
end ops
end Go.Proofs.Ytefmfhbkihplgaa.Tr
namespace Go.Proofs.Ytefmfhbkihplgaa.Tr
open Go Go.RowKit
set_option maxRecDepth 10000
structure Block where
  Pages : (List (List UInt8))
  Used : Int
  Worn : Int
  Bad : Bool
def Block_to : Block → ((List (List UInt8)) × (Int × (Int × Bool))) := fun x => (x.Pages, x.Used, x.Worn, x.Bad)
def Block_of : ((List (List UInt8)) × (Int × (Int × Bool))) → Block := fun p => ⟨p.1, p.2.1, p.2.2.1, p.2.2.2⟩
instance Block_dat : Dat Block := Dat.iso Block_to Block_of (fun _ => rfl)
instance : Inhabited Block := ⟨Block_of default⟩
instance : Fld Block Block_dat 0 (List (List UInt8)) inferInstance Block.Pages (fun y x => ⟨y, x.Used, x.Worn, x.Bad⟩) := Fld.iso (f := Block_to) (g := Block_of) (h := fun _ => rfl) (Fld.fst (α := (List (List UInt8))) (β := (Int × (Int × Bool))))
instance : Fld Block Block_dat 1 Int inferInstance Block.Used (fun y x => ⟨x.Pages, y, x.Worn, x.Bad⟩) := Fld.iso (f := Block_to) (g := Block_of) (h := fun _ => rfl) (Fld.next (α := (List (List UInt8))) (β := (Int × (Int × Bool))) (Fld.fst (α := Int) (β := (Int × Bool))))
instance : Fld Block Block_dat 2 Int inferInstance Block.Worn (fun y x => ⟨x.Pages, x.Used, y, x.Bad⟩) := Fld.iso (f := Block_to) (g := Block_of) (h := fun _ => rfl) (Fld.next (α := (List (List UInt8))) (β := (Int × (Int × Bool))) (Fld.next (α := Int) (β := (Int × Bool)) (Fld.fst (α := Int) (β := Bool))))
instance : Fld Block Block_dat 3 Bool inferInstance Block.Bad (fun y x => ⟨x.Pages, x.Used, x.Worn, y⟩) := Fld.iso (f := Block_to) (g := Block_of) (h := fun _ => rfl) (Fld.next (α := (List (List UInt8))) (β := (Int × (Int × Bool))) (Fld.next (α := Int) (β := (Int × Bool)) (Fld.snd (α := Int) (β := Bool))))
structure Fault where
  Op : Int
  Fail : Bool
  Cut : Bool
  Mask : UInt8
def Fault_to : Fault → (Int × (Bool × (Bool × UInt8))) := fun x => (x.Op, x.Fail, x.Cut, x.Mask)
def Fault_of : (Int × (Bool × (Bool × UInt8))) → Fault := fun p => ⟨p.1, p.2.1, p.2.2.1, p.2.2.2⟩
instance Fault_dat : Dat Fault := Dat.iso Fault_to Fault_of (fun _ => rfl)
instance : Fld Fault Fault_dat 0 Int inferInstance Fault.Op (fun y x => ⟨y, x.Fail, x.Cut, x.Mask⟩) := Fld.iso (f := Fault_to) (g := Fault_of) (h := fun _ => rfl) (Fld.fst (α := Int) (β := (Bool × (Bool × UInt8))))
instance : Fld Fault Fault_dat 1 Bool inferInstance Fault.Fail (fun y x => ⟨x.Op, y, x.Cut, x.Mask⟩) := Fld.iso (f := Fault_to) (g := Fault_of) (h := fun _ => rfl) (Fld.next (α := Int) (β := (Bool × (Bool × UInt8))) (Fld.fst (α := Bool) (β := (Bool × UInt8))))
instance : Fld Fault Fault_dat 2 Bool inferInstance Fault.Cut (fun y x => ⟨x.Op, x.Fail, y, x.Mask⟩) := Fld.iso (f := Fault_to) (g := Fault_of) (h := fun _ => rfl) (Fld.next (α := Int) (β := (Bool × (Bool × UInt8))) (Fld.next (α := Bool) (β := (Bool × UInt8)) (Fld.fst (α := Bool) (β := UInt8))))
instance : Fld Fault Fault_dat 3 UInt8 inferInstance Fault.Mask (fun y x => ⟨x.Op, x.Fail, x.Cut, y⟩) := Fld.iso (f := Fault_to) (g := Fault_of) (h := fun _ => rfl) (Fld.next (α := Int) (β := (Bool × (Bool × UInt8))) (Fld.next (α := Bool) (β := (Bool × UInt8)) (Fld.snd (α := Bool) (β := UInt8))))
structure Chip where
  Pages : Int
  Size : Int
  Blocks : (List Block)
  Ops : Int
  Off : Bool
  Faults : (List Fault)
def Chip_to : Chip → (Int × (Int × ((List Block) × (Int × (Bool × (List Fault)))))) := fun x => (x.Pages, x.Size, x.Blocks, x.Ops, x.Off, x.Faults)
def Chip_of : (Int × (Int × ((List Block) × (Int × (Bool × (List Fault)))))) → Chip := fun p => ⟨p.1, p.2.1, p.2.2.1, p.2.2.2.1, p.2.2.2.2.1, p.2.2.2.2.2⟩
instance Chip_dat : Dat Chip := Dat.iso Chip_to Chip_of (fun _ => rfl)
instance : Fld Chip Chip_dat 0 Int inferInstance Chip.Pages (fun y x => ⟨y, x.Size, x.Blocks, x.Ops, x.Off, x.Faults⟩) := Fld.iso (f := Chip_to) (g := Chip_of) (h := fun _ => rfl) (Fld.fst (α := Int) (β := (Int × ((List Block) × (Int × (Bool × (List Fault)))))))
instance : Fld Chip Chip_dat 1 Int inferInstance Chip.Size (fun y x => ⟨x.Pages, y, x.Blocks, x.Ops, x.Off, x.Faults⟩) := Fld.iso (f := Chip_to) (g := Chip_of) (h := fun _ => rfl) (Fld.next (α := Int) (β := (Int × ((List Block) × (Int × (Bool × (List Fault)))))) (Fld.fst (α := Int) (β := ((List Block) × (Int × (Bool × (List Fault)))))))
instance : Fld Chip Chip_dat 2 (List Block) inferInstance Chip.Blocks (fun y x => ⟨x.Pages, x.Size, y, x.Ops, x.Off, x.Faults⟩) := Fld.iso (f := Chip_to) (g := Chip_of) (h := fun _ => rfl) (Fld.next (α := Int) (β := (Int × ((List Block) × (Int × (Bool × (List Fault)))))) (Fld.next (α := Int) (β := ((List Block) × (Int × (Bool × (List Fault))))) (Fld.fst (α := (List Block)) (β := (Int × (Bool × (List Fault)))))))
instance : Fld Chip Chip_dat 3 Int inferInstance Chip.Ops (fun y x => ⟨x.Pages, x.Size, x.Blocks, y, x.Off, x.Faults⟩) := Fld.iso (f := Chip_to) (g := Chip_of) (h := fun _ => rfl) (Fld.next (α := Int) (β := (Int × ((List Block) × (Int × (Bool × (List Fault)))))) (Fld.next (α := Int) (β := ((List Block) × (Int × (Bool × (List Fault))))) (Fld.next (α := (List Block)) (β := (Int × (Bool × (List Fault)))) (Fld.fst (α := Int) (β := (Bool × (List Fault)))))))
instance : Fld Chip Chip_dat 4 Bool inferInstance Chip.Off (fun y x => ⟨x.Pages, x.Size, x.Blocks, x.Ops, y, x.Faults⟩) := Fld.iso (f := Chip_to) (g := Chip_of) (h := fun _ => rfl) (Fld.next (α := Int) (β := (Int × ((List Block) × (Int × (Bool × (List Fault)))))) (Fld.next (α := Int) (β := ((List Block) × (Int × (Bool × (List Fault))))) (Fld.next (α := (List Block)) (β := (Int × (Bool × (List Fault)))) (Fld.next (α := Int) (β := (Bool × (List Fault))) (Fld.fst (α := Bool) (β := (List Fault)))))))
instance : Fld Chip Chip_dat 5 (List Fault) inferInstance Chip.Faults (fun y x => ⟨x.Pages, x.Size, x.Blocks, x.Ops, x.Off, y⟩) := Fld.iso (f := Chip_to) (g := Chip_of) (h := fun _ => rfl) (Fld.next (α := Int) (β := (Int × ((List Block) × (Int × (Bool × (List Fault)))))) (Fld.next (α := Int) (β := ((List Block) × (Int × (Bool × (List Fault))))) (Fld.next (α := (List Block)) (β := (Int × (Bool × (List Fault)))) (Fld.next (α := Int) (β := (Bool × (List Fault))) (Fld.snd (α := Bool) (β := (List Fault)))))))
structure Page where
  Kind : Int
  Id : Int
  Gen : UInt64
  Body : (List UInt8)
def Page_to : Page → (Int × (Int × (UInt64 × (List UInt8)))) := fun x => (x.Kind, x.Id, x.Gen, x.Body)
def Page_of : (Int × (Int × (UInt64 × (List UInt8)))) → Page := fun p => ⟨p.1, p.2.1, p.2.2.1, p.2.2.2⟩
instance Page_dat : Dat Page := Dat.iso Page_to Page_of (fun _ => rfl)
instance : Fld Page Page_dat 0 Int inferInstance Page.Kind (fun y x => ⟨y, x.Id, x.Gen, x.Body⟩) := Fld.iso (f := Page_to) (g := Page_of) (h := fun _ => rfl) (Fld.fst (α := Int) (β := (Int × (UInt64 × (List UInt8)))))
instance : Fld Page Page_dat 1 Int inferInstance Page.Id (fun y x => ⟨x.Kind, y, x.Gen, x.Body⟩) := Fld.iso (f := Page_to) (g := Page_of) (h := fun _ => rfl) (Fld.next (α := Int) (β := (Int × (UInt64 × (List UInt8)))) (Fld.fst (α := Int) (β := (UInt64 × (List UInt8)))))
instance : Fld Page Page_dat 2 UInt64 inferInstance Page.Gen (fun y x => ⟨x.Kind, x.Id, y, x.Body⟩) := Fld.iso (f := Page_to) (g := Page_of) (h := fun _ => rfl) (Fld.next (α := Int) (β := (Int × (UInt64 × (List UInt8)))) (Fld.next (α := Int) (β := (UInt64 × (List UInt8))) (Fld.fst (α := UInt64) (β := (List UInt8)))))
instance : Fld Page Page_dat 3 (List UInt8) inferInstance Page.Body (fun y x => ⟨x.Kind, x.Id, x.Gen, y⟩) := Fld.iso (f := Page_to) (g := Page_of) (h := fun _ => rfl) (Fld.next (α := Int) (β := (Int × (UInt64 × (List UInt8)))) (Fld.next (α := Int) (β := (UInt64 × (List UInt8))) (Fld.snd (α := UInt64) (β := (List UInt8)))))
structure Roots where
  Gen : UInt64
  At : (List Int)
def Roots_to : Roots → (UInt64 × (List Int)) := fun x => (x.Gen, x.At)
def Roots_of : (UInt64 × (List Int)) → Roots := fun p => ⟨p.1, p.2⟩
instance Roots_dat : Dat Roots := Dat.iso Roots_to Roots_of (fun _ => rfl)
instance : Fld Roots Roots_dat 0 UInt64 inferInstance Roots.Gen (fun y x => ⟨y, x.At⟩) := Fld.iso (f := Roots_to) (g := Roots_of) (h := fun _ => rfl) (Fld.fst (α := UInt64) (β := (List Int)))
instance : Fld Roots Roots_dat 1 (List Int) inferInstance Roots.At (fun y x => ⟨x.Gen, y⟩) := Fld.iso (f := Roots_to) (g := Roots_of) (h := fun _ => rfl) (Fld.snd (α := UInt64) (β := (List Int)))
structure Tally where
  Blank : Int
  Data : Int
  Roots : Int
  Torn : Int
  Lost : Int
def Tally_to : Tally → (Int × (Int × (Int × (Int × Int)))) := fun x => (x.Blank, x.Data, x.Roots, x.Torn, x.Lost)
def Tally_of : (Int × (Int × (Int × (Int × Int)))) → Tally := fun p => ⟨p.1, p.2.1, p.2.2.1, p.2.2.2.1, p.2.2.2.2⟩
instance Tally_dat : Dat Tally := Dat.iso Tally_to Tally_of (fun _ => rfl)
instance : Inhabited Tally := ⟨Tally_of default⟩
theorem Tally_inj {x y : Tally} (h : Tally_to x = Tally_to y) : x = y := by have e := congrArg Tally_of h; exact e
instance : DecidableEq Tally := fun x y => if h : Tally_to x = Tally_to y then isTrue (Tally_inj h) else isFalse fun e => h (by rw [e])
instance : Fld Tally Tally_dat 0 Int inferInstance Tally.Blank (fun y x => ⟨y, x.Data, x.Roots, x.Torn, x.Lost⟩) := Fld.iso (f := Tally_to) (g := Tally_of) (h := fun _ => rfl) (Fld.fst (α := Int) (β := (Int × (Int × (Int × Int)))))
instance : Fld Tally Tally_dat 1 Int inferInstance Tally.Data (fun y x => ⟨x.Blank, y, x.Roots, x.Torn, x.Lost⟩) := Fld.iso (f := Tally_to) (g := Tally_of) (h := fun _ => rfl) (Fld.next (α := Int) (β := (Int × (Int × (Int × Int)))) (Fld.fst (α := Int) (β := (Int × (Int × Int)))))
instance : Fld Tally Tally_dat 2 Int inferInstance Tally.Roots (fun y x => ⟨x.Blank, x.Data, y, x.Torn, x.Lost⟩) := Fld.iso (f := Tally_to) (g := Tally_of) (h := fun _ => rfl) (Fld.next (α := Int) (β := (Int × (Int × (Int × Int)))) (Fld.next (α := Int) (β := (Int × (Int × Int))) (Fld.fst (α := Int) (β := (Int × Int)))))
instance : Fld Tally Tally_dat 3 Int inferInstance Tally.Torn (fun y x => ⟨x.Blank, x.Data, x.Roots, y, x.Lost⟩) := Fld.iso (f := Tally_to) (g := Tally_of) (h := fun _ => rfl) (Fld.next (α := Int) (β := (Int × (Int × (Int × Int)))) (Fld.next (α := Int) (β := (Int × (Int × Int))) (Fld.next (α := Int) (β := (Int × Int)) (Fld.fst (α := Int) (β := Int)))))
instance : Fld Tally Tally_dat 4 Int inferInstance Tally.Lost (fun y x => ⟨x.Blank, x.Data, x.Roots, x.Torn, y⟩) := Fld.iso (f := Tally_to) (g := Tally_of) (h := fun _ => rfl) (Fld.next (α := Int) (β := (Int × (Int × (Int × Int)))) (Fld.next (α := Int) (β := (Int × (Int × Int))) (Fld.next (α := Int) (β := (Int × Int)) (Fld.snd (α := Int) (β := Int)))))
structure image_sheet where
  kind : Int
  id : Int
  gen : UInt64
def image_sheet_to : image_sheet → (Int × (Int × UInt64)) := fun x => (x.kind, x.id, x.gen)
def image_sheet_of : (Int × (Int × UInt64)) → image_sheet := fun p => ⟨p.1, p.2.1, p.2.2⟩
instance image_sheet_dat : Dat image_sheet := Dat.iso image_sheet_to image_sheet_of (fun _ => rfl)
instance : Fld image_sheet image_sheet_dat 0 Int inferInstance image_sheet.kind (fun y x => ⟨y, x.id, x.gen⟩) := Fld.iso (f := image_sheet_to) (g := image_sheet_of) (h := fun _ => rfl) (Fld.fst (α := Int) (β := (Int × UInt64)))
instance : Fld image_sheet image_sheet_dat 1 Int inferInstance image_sheet.id (fun y x => ⟨x.kind, y, x.gen⟩) := Fld.iso (f := image_sheet_to) (g := image_sheet_of) (h := fun _ => rfl) (Fld.next (α := Int) (β := (Int × UInt64)) (Fld.fst (α := Int) (β := UInt64)))
instance : Fld image_sheet image_sheet_dat 2 UInt64 inferInstance image_sheet.gen (fun y x => ⟨x.kind, x.id, y⟩) := Fld.iso (f := image_sheet_to) (g := image_sheet_of) (h := fun _ => rfl) (Fld.next (α := Int) (β := (Int × UInt64)) (Fld.snd (α := Int) (β := UInt64)))
end Go.Proofs.Ytefmfhbkihplgaa.Tr
namespace Go.Proofs.Ytefmfhbkihplgaa.Tr
open Go
set_option maxRecDepth 100000
theorem mix : Try.prog.follows .mixedOrders = true := by kernel_rfl
instance : TIn Try.prog 3 .i64 := ⟨Try.underlying3⟩
instance : TEl Try.prog 3 Int inferInstance 8 := ⟨⟨Try.isAgg3, Try.sizeOf3⟩, Try.t3, _, Try.type3, rfl, rfl, rfl, rfl⟩
instance : TEl Try.prog 4 Bool inferInstance 1 := ⟨⟨Try.isAgg4, Try.sizeOf4⟩, Try.t4, _, Try.type4, rfl, rfl, rfl, rfl⟩
instance : TIn Try.prog 5 .u8 := ⟨Try.underlying5⟩
instance : TEl Try.prog 5 UInt8 inferInstance 1 := ⟨⟨Try.isAgg5, Try.sizeOf5⟩, Try.t5, _, Try.type5, rfl, rfl, rfl, rfl⟩
instance : TStr Try.prog 9 := ⟨Try.underlying9⟩
instance : TSl Try.prog 22 106 := ⟨Try.underlying22⟩
instance : TEl Try.prog 22 (List Fault) inferInstance 24 := ⟨⟨Try.isAgg22, Try.sizeOf22⟩, Try.t22, _, Try.type22, rfl, rfl, rfl, rfl⟩
instance : TSl Try.prog 25 40 := ⟨Try.underlying25⟩
instance : TEl Try.prog 25 (List Block) inferInstance 24 := ⟨⟨Try.isAgg25, Try.sizeOf25⟩, Try.t25, _, Try.type25, rfl, rfl, rfl, rfl⟩
instance : TFld Try.prog 27 0 3 0 := ⟨_, _, Try.underlying27, rfl, rfl, rfl⟩
instance : TFld Try.prog 27 1 3 1 := ⟨_, _, Try.underlying27, rfl, rfl, rfl⟩
instance : TFld Try.prog 27 2 25 2 := ⟨_, _, Try.underlying27, rfl, rfl, rfl⟩
instance : TFld Try.prog 27 3 3 3 := ⟨_, _, Try.underlying27, rfl, rfl, rfl⟩
instance : TFld Try.prog 27 4 4 4 := ⟨_, _, Try.underlying27, rfl, rfl, rfl⟩
instance : TFld Try.prog 27 5 22 5 := ⟨_, _, Try.underlying27, rfl, rfl, rfl⟩
instance : TEl Try.prog 27 Chip inferInstance 80 := ⟨⟨Try.isAgg27, Try.sizeOf27⟩, Try.t27, _, Try.type27, rfl, rfl, rfl, rfl⟩
instance : TSl Try.prog 38 42 := ⟨Try.underlying38⟩
instance : TEl Try.prog 38 (List (List UInt8)) inferInstance 24 := ⟨⟨Try.isAgg38, Try.sizeOf38⟩, Try.t38, _, Try.type38, rfl, rfl, rfl, rfl⟩
instance : TFld Try.prog 40 0 38 0 := ⟨_, _, Try.underlying40, rfl, rfl, rfl⟩
instance : TFld Try.prog 40 1 3 1 := ⟨_, _, Try.underlying40, rfl, rfl, rfl⟩
instance : TFld Try.prog 40 2 3 2 := ⟨_, _, Try.underlying40, rfl, rfl, rfl⟩
instance : TFld Try.prog 40 3 4 3 := ⟨_, _, Try.underlying40, rfl, rfl, rfl⟩
instance : TEl Try.prog 40 Block inferInstance 48 := ⟨⟨Try.isAgg40, Try.sizeOf40⟩, Try.t40, _, Try.type40, rfl, rfl, rfl, rfl⟩
instance : TSl Try.prog 42 5 := ⟨Try.underlying42⟩
instance : TEl Try.prog 42 (List UInt8) inferInstance 24 := ⟨⟨Try.isAgg42, Try.sizeOf42⟩, Try.t42, _, Try.type42, rfl, rfl, rfl, rfl⟩
instance : TIn Try.prog 51 .u64 := ⟨Try.underlying51⟩
instance : TEl Try.prog 51 UInt64 inferInstance 8 := ⟨⟨Try.isAgg51, Try.sizeOf51⟩, Try.t51, _, Try.type51, rfl, rfl, rfl, rfl⟩
instance : TFld Try.prog 53 0 3 0 := ⟨_, _, Try.underlying53, rfl, rfl, rfl⟩
instance : TFld Try.prog 53 1 3 1 := ⟨_, _, Try.underlying53, rfl, rfl, rfl⟩
instance : TFld Try.prog 53 2 51 2 := ⟨_, _, Try.underlying53, rfl, rfl, rfl⟩
instance : TFld Try.prog 53 3 42 3 := ⟨_, _, Try.underlying53, rfl, rfl, rfl⟩
instance : TEl Try.prog 53 Page inferInstance 48 := ⟨⟨Try.isAgg53, Try.sizeOf53⟩, Try.t53, _, Try.type53, rfl, rfl, rfl, rfl⟩
instance : TIn Try.prog 67 .u64 := ⟨Try.underlying67⟩
instance : TSl Try.prog 70 3 := ⟨Try.underlying70⟩
instance : TEl Try.prog 70 (List Int) inferInstance 24 := ⟨⟨Try.isAgg70, Try.sizeOf70⟩, Try.t70, _, Try.type70, rfl, rfl, rfl, rfl⟩
instance : TFld Try.prog 80 0 51 0 := ⟨_, _, Try.underlying80, rfl, rfl, rfl⟩
instance : TFld Try.prog 80 1 70 1 := ⟨_, _, Try.underlying80, rfl, rfl, rfl⟩
instance : TEl Try.prog 80 Roots inferInstance 32 := ⟨⟨Try.isAgg80, Try.sizeOf80⟩, Try.t80, _, Try.type80, rfl, rfl, rfl, rfl⟩
instance : TFld Try.prog 91 0 3 0 := ⟨_, _, Try.underlying91, rfl, rfl, rfl⟩
instance : TFld Try.prog 91 1 3 1 := ⟨_, _, Try.underlying91, rfl, rfl, rfl⟩
instance : TFld Try.prog 91 2 3 2 := ⟨_, _, Try.underlying91, rfl, rfl, rfl⟩
instance : TFld Try.prog 91 3 3 3 := ⟨_, _, Try.underlying91, rfl, rfl, rfl⟩
instance : TFld Try.prog 91 4 3 4 := ⟨_, _, Try.underlying91, rfl, rfl, rfl⟩
instance : TEl Try.prog 91 Tally inferInstance 40 := ⟨⟨Try.isAgg91, Try.sizeOf91⟩, Try.t91, _, Try.type91, rfl, rfl, rfl, rfl⟩
instance : TSl Try.prog 96 51 := ⟨Try.underlying96⟩
instance : TEl Try.prog 96 (List UInt64) inferInstance 24 := ⟨⟨Try.isAgg96, Try.sizeOf96⟩, Try.t96, _, Try.type96, rfl, rfl, rfl, rfl⟩
instance : TFld Try.prog 106 0 3 0 := ⟨_, _, Try.underlying106, rfl, rfl, rfl⟩
instance : TFld Try.prog 106 1 4 1 := ⟨_, _, Try.underlying106, rfl, rfl, rfl⟩
instance : TFld Try.prog 106 2 4 2 := ⟨_, _, Try.underlying106, rfl, rfl, rfl⟩
instance : TFld Try.prog 106 3 5 3 := ⟨_, _, Try.underlying106, rfl, rfl, rfl⟩
instance : TEl Try.prog 106 Fault inferInstance 16 := ⟨⟨Try.isAgg106, Try.sizeOf106⟩, Try.t106, _, Try.type106, rfl, rfl, rfl, rfl⟩
instance : TIn Try.prog 120 .u32 := ⟨Try.underlying120⟩
instance : TFld Try.prog 138 0 3 0 := ⟨_, _, Try.underlying138, rfl, rfl, rfl⟩
instance : TFld Try.prog 138 1 3 1 := ⟨_, _, Try.underlying138, rfl, rfl, rfl⟩
instance : TFld Try.prog 138 2 51 2 := ⟨_, _, Try.underlying138, rfl, rfl, rfl⟩
instance : TEl Try.prog 138 image_sheet inferInstance 24 := ⟨⟨Try.isAgg138, Try.sizeOf138⟩, Try.t138, _, Try.type138, rfl, rfl, rfl, rfl⟩
instance : TIn Try.prog 171 .u64 := ⟨Try.underlying171⟩
instance : TEl Try.prog 171 UInt64 inferInstance 8 := ⟨⟨Try.isAgg171, Try.sizeOf171⟩, Try.t171, _, Try.type171, rfl, rfl, rfl, rfl⟩
theorem EqV_91 : EqN Try.prog 91 Tally inferInstance 1 := EqN.struct Try.underlying91 (by decide +kernel) rfl fun {A} w d {cs ds x y} hx hy => by
  have h1 : cs.length = Dat.sz Tally := Dat.len hx
  have h2 : ds.length = Dat.sz Tally := Dat.len hy
  refine Eq.trans (b := .ok (decide (x.Blank = y.Blank) && (decide (x.Data = y.Data) && (decide (x.Roots = y.Roots) && (decide (x.Torn = y.Torn) && (decide (x.Lost = y.Lost) && true))))) w) ?_ ?_
  · exact (eqF_cons (n := 0) (A := A) (off := 0) (β := Int) (a := x.Blank) (b := y.Blank) (by decide) rfl rfl (EqN.i64 Try.underlying3) (by rw [h1]; decide) (by rw [h2]; decide) (Fld.rd (α := Tally) (off := 0) hx) (Fld.rd (α := Tally) (off := 0) hy) (eqF_cons (n := 0) (A := A) (off := 1) (β := Int) (a := x.Data) (b := y.Data) (by decide) rfl rfl (EqN.i64 Try.underlying3) (by rw [h1]; decide) (by rw [h2]; decide) (Fld.rd (α := Tally) (off := 1) hx) (Fld.rd (α := Tally) (off := 1) hy) (eqF_cons (n := 0) (A := A) (off := 2) (β := Int) (a := x.Roots) (b := y.Roots) (by decide) rfl rfl (EqN.i64 Try.underlying3) (by rw [h1]; decide) (by rw [h2]; decide) (Fld.rd (α := Tally) (off := 2) hx) (Fld.rd (α := Tally) (off := 2) hy) (eqF_cons (n := 0) (A := A) (off := 3) (β := Int) (a := x.Torn) (b := y.Torn) (by decide) rfl rfl (EqN.i64 Try.underlying3) (by rw [h1]; decide) (by rw [h2]; decide) (Fld.rd (α := Tally) (off := 3) hx) (Fld.rd (α := Tally) (off := 3) hy) (eqF_cons (n := 0) (A := A) (off := 4) (β := Int) (a := x.Lost) (b := y.Lost) (by decide) rfl rfl (EqN.i64 Try.underlying3) (by rw [h1]; decide) (by rw [h2]; decide) (Fld.rd (α := Tally) (off := 4) hx) (Fld.rd (α := Tally) (off := 4) hy) eqF_nil)))))
  congr 1
  cases x; cases y
  rw [Bool.eq_iff_iff]; simp
theorem EqG_91 : Try.prog.eqGuardType Try.prog.depth 91 = false := by decide +kernel
instance : Fun Try.prog 15 := ⟨Try.call15⟩
instance : Fun Try.prog 17 := ⟨Try.call17⟩
instance : Fun Try.prog 21 := ⟨Try.call21⟩
instance : Fun Try.prog 22 := ⟨Try.call22⟩
instance : Fun Try.prog 26 := ⟨Try.call26⟩
instance : Fun Try.prog 28 := ⟨Try.call28⟩
instance : Fun Try.prog 29 := ⟨Try.call29⟩
instance : Fun Try.prog 31 := ⟨Try.call31⟩
instance : Fun Try.prog 33 := ⟨Try.call33⟩
instance : Fun Try.prog 35 := ⟨Try.call35⟩
instance : Fun Try.prog 36 := ⟨Try.call36⟩
instance : Fun Try.prog 42 := ⟨Try.call42⟩
instance : Fun Try.prog 43 := ⟨Try.call43⟩
instance : Fun Try.prog 44 := ⟨Try.call44⟩
instance : Fun Try.prog 47 := ⟨Try.call47⟩
instance : Fun Try.prog 48 := ⟨Try.call48⟩
instance : Fun Try.prog 49 := ⟨Try.call49⟩
instance : Fun Try.prog 50 := ⟨Try.call50⟩
instance : Fun Try.prog 51 := ⟨Try.call51⟩
instance : Fun Try.prog 52 := ⟨Try.call52⟩
instance : Fun Try.prog 53 := ⟨Try.call53⟩
instance : Fun Try.prog 54 := ⟨Try.call54⟩
instance : Fun Try.prog 55 := ⟨Try.call55⟩
instance : Fun Try.prog 56 := ⟨Try.call56⟩
instance : Fun Try.prog 57 := ⟨Try.call57⟩
instance : Fun Try.prog 58 := ⟨Try.call58⟩
instance : Fun Try.prog 59 := ⟨Try.call59⟩
instance : Fun Try.prog 60 := ⟨Try.call60⟩
instance : Fun Try.prog 61 := ⟨Try.call61⟩
instance : Fun Try.prog 62 := ⟨Try.call62⟩
instance : Fun Try.prog 63 := ⟨Try.call63⟩
instance : Fun Try.prog 64 := ⟨Try.call64⟩
instance : Fun Try.prog 65 := ⟨Try.call65⟩
instance : Fun Try.prog 66 := ⟨Try.call66⟩
instance : Fun Try.prog 67 := ⟨Try.call67⟩
instance : Fun Try.prog 68 := ⟨Try.call68⟩
instance : Fun Try.prog 69 := ⟨Try.call69⟩
instance : Fun Try.prog 70 := ⟨Try.call70⟩
instance : Fun Try.prog 71 := ⟨Try.call71⟩
instance : Fun Try.prog 72 := ⟨Try.call72⟩
instance : Fun Try.prog 73 := ⟨Try.call73⟩
instance : Fun Try.prog 74 := ⟨Try.call74⟩
instance : Fun Try.prog 75 := ⟨Try.call75⟩
instance : Fun Try.prog 76 := ⟨Try.call76⟩
instance : Fun Try.prog 77 := ⟨Try.call77⟩
instance : Fun Try.prog 78 := ⟨Try.call78⟩
instance : Fun Try.prog 85 := ⟨Try.call85⟩
instance : Fun Try.prog 86 := ⟨Try.call86⟩
instance : Fun Try.prog 87 := ⟨Try.call87⟩
instance : Fun Try.prog 88 := ⟨Try.call88⟩
instance : Fun Try.prog 89 := ⟨Try.call89⟩
instance : Fun Try.prog 90 := ⟨Try.call90⟩
instance : Fun Try.prog 91 := ⟨Try.call91⟩
instance : Fun Try.prog 92 := ⟨Try.call92⟩
instance : Fun Try.prog 93 := ⟨Try.call93⟩
instance : Fun Try.prog 94 := ⟨Try.call94⟩
instance : Fun Try.prog 95 := ⟨Try.call95⟩
instance : Fun Try.prog 96 := ⟨Try.call96⟩
instance : Fun Try.prog 101 := ⟨Try.call101⟩
instance : Fun Try.prog 102 := ⟨Try.call102⟩
instance : Fun Try.prog 103 := ⟨Try.call103⟩
instance : Fun Try.prog 104 := ⟨Try.call104⟩
instance : Fun Try.prog 105 := ⟨Try.call105⟩
instance : Fun Try.prog 107 := ⟨Try.call107⟩
instance : Fun Try.prog 108 := ⟨Try.call108⟩
instance : Fun Try.prog 109 := ⟨Try.call109⟩
instance : Fun Try.prog 110 := ⟨Try.call110⟩
instance : Fun Try.prog 111 := ⟨Try.call111⟩
instance : Fun Try.prog 112 := ⟨Try.call112⟩
instance : Fun Try.prog 113 := ⟨Try.call113⟩
instance : Fun Try.prog 114 := ⟨Try.call114⟩
instance : Fun Try.prog 115 := ⟨Try.call115⟩
instance : Fun Try.prog 116 := ⟨Try.call116⟩
instance : Fun Try.prog 117 := ⟨Try.call117⟩
instance : Fun Try.prog 118 := ⟨Try.call118⟩
instance : Fun Try.prog 119 := ⟨Try.call119⟩
instance : Fun Try.prog 120 := ⟨Try.call120⟩
instance : Fun Try.prog 121 := ⟨Try.call121⟩
instance : Fun Try.prog 122 := ⟨Try.call122⟩
instance : Fun Try.prog 123 := ⟨Try.call123⟩
instance : Fun Try.prog 124 := ⟨Try.call124⟩
end Go.Proofs.Ytefmfhbkihplgaa.Tr
namespace Go.Proofs.Ytefmfhbkihplgaa.Tr
open Go Go.RowKit Go.ChangeShapes Go.WideShapes Go.ChangeAt
theorem cells?_row {w : World} {base : Nat} {a : Addr} {n : Nat} {cs : List Value} (h : w.cells? base a n = some cs) (hn : 0 < n) : a.spot = none ∧ cs.length = n ∧ rowAt w a.block a.off cs := by
  obtain ⟨-, hl, hc⟩ := World.cells?_some h
  obtain ⟨b, off, sp⟩ := a
  have hsp : sp = none := by
    have h0 := hc 0 hn
    rw [List.getElem?_eq_getElem (by omega)] at h0
    simpa [Addr.add] using World.cell?_spot h0
  subst hsp
  refine ⟨rfl, hl, fun j hj => ?_⟩
  have := hc j (by omega)
  rw [List.getElem?_eq_getElem hj] at this
  rw [List.getD_eq_getElem?_getD, List.getElem?_eq_getElem hj]
  rwa [addr_add] at this
class TOpen (P : Program) (t : TypeId) (α : outParam Type) (i : outParam (Dat α)) : Prop where
  h : ∀ {H : Type} {enc : TypeId × Value → H} {W : World} {base : Nat} {sp : Nat → Bool} {held : Bool} {fuel : Nat} {cs : List Value} {d : DataW H} {ps : List MemPlace},
    DataW.trod enc P W base sp held fuel t cs = some (d, ps) → (∀ n ∈ d.weights P t, n ≤ reachBytes) → ∃ x : α, Dat.rd (fun _ => True) W cs x
  s : ∀ {W : World} {base : Nat} {v : Value}, Value.okWide P W .any base t v → v = mkV α v.cells.toList
theorem reach_most : reachBytes ≤ most := by decide
theorem wf_u8 {n : Int} (h : (Lit.int .u8 n).wf = true) : 0 ≤ n ∧ n < 256 := by
  simp [Lit.wf, IntKind.bits, IntKind.signed, IntKind.min, IntKind.max] at h
  omega
theorem wf_i64 {n : Int} (h : (Lit.int .i64 n).wf = true) : intIn n := by
  simp [Lit.wf, IntKind.bits, IntKind.signed, IntKind.min, IntKind.max] at h
  unfold intIn
  omega
theorem topen_i64 {P : Program} {t : TypeId} (ht : P.underlying t = some (.int .i64)) : TOpen P t Int inferInstance where
  h hd _ := by
    obtain ⟨n, rfl, -, hw⟩ := DataW.trod_int ht hd
    exact ⟨n, rfl, wf_i64 hw⟩
  s hv := by obtain ⟨n, rfl⟩ := okWide_int ht hv; rfl
theorem topen_u8 {P : Program} {t : TypeId} (ht : P.underlying t = some (.int .u8)) : TOpen P t UInt8 inferInstance where
  h hd _ := by
    obtain ⟨n, rfl, -, hw⟩ := DataW.trod_int ht hd
    have := wf_u8 hw
    refine ⟨UInt8.ofNat n.toNat, ?_⟩
    show [Value.int .u8 n] = [.int .u8 _]
    rw [UInt8.toNat_ofNat_of_lt' (by show n.toNat < 256; omega), Int.toNat_of_nonneg this.1]
  s hv := by obtain ⟨n, rfl⟩ := okWide_int ht hv; rfl
theorem topen_bool {P : Program} {t : TypeId} (ht : P.underlying t = some .bool) : TOpen P t Bool inferInstance where
  h hd _ := by
    obtain ⟨b, rfl, -⟩ := DataW.trod_bool ht hd
    exact ⟨b, rfl⟩
  s hv := by obtain ⟨n, rfl⟩ := okWide_bool ht hv; rfl
theorem weightsAll_mem {H : Type} {P : Program} {e : TypeId} {d : DataW H} {n : Nat} (hn : n ∈ d.weights P e) : ∀ {l : List (DataW H)}, d ∈ l → n ∈ DataW.weightsAll P e l
  | [], h => by cases h
  | x :: r, h => by
    simp only [DataW.weightsAll, List.mem_append]
    rcases List.mem_cons.1 h with rfl | h
    · exact .inl hn
    · exact .inr (weightsAll_mem hn h)
theorem topen_list {P : Program} {t e : TypeId} {α : Type} {i : Dat α} (ht : P.underlying t = some (.slice e)) (hc : P.cellsOf e = Dat.sz α) (hb : 1 ≤ P.bytesOf e) [k : TOpen P e α i] : TOpen P t (List α) inferInstance where
  h {H enc W base sp held fuel cs d ps} hd hw := by
    rcases Go.Deep.open_slice ht hd with ⟨rfl, -⟩ | ⟨a, len, cap, m, n, Df, Pl, rfl, -, h1, h2, hm, hx, hel⟩
    · exact ⟨[], none, 0, rfl, Nat.le_refl _, Nat.zero_le _, Nat.zero_le _, fun i hi => absurd hi (by simp)⟩
    · have hlm : len ≤ m := by rw [hm]; split <;> omega
      injection hx with hx1 hx2
      subst hx1
      have hwt : ∀ i, i < len → ∀ n ∈ (Df i).weights P e, n ≤ reachBytes := fun i hi n hn => by
        refine hw n ?_
        simp only [DataW.weights, ht]
        refine List.mem_cons_of_mem _ (List.mem_append_left _ ?_)
        exact weightsAll_mem hn (List.mem_map.2 ⟨i, by simpa using hi, rfl⟩)
      have hlen : len ≤ most := by
        have := hw ((((List.range len).map Df).length + ((List.range (m - len)).map fun j => Df (len + j)).length) * P.bytesOf e) (by simp only [DataW.weights, ht]; exact List.mem_cons_self ..)
        simp only [List.length_map, List.length_range] at this
        have h3 : len ≤ (len + (m - len)) * P.bytesOf e := Nat.le_trans (Nat.le_add_right _ _) (Nat.le_mul_of_pos_right _ hb)
        exact Nat.le_trans (Nat.le_trans h3 this) reach_most
      have hx : ∀ i : Fin len, ∃ x : α, ∃ es, W.cells? base (a.add (i.1 * P.cellsOf e)) (P.cellsOf e) = some es ∧ Dat.rd (fun _ => True) W es x := fun i => by
        obtain ⟨cs', g1, g2⟩ := hel i.1 (Nat.lt_of_lt_of_le i.2 hlm)
        obtain ⟨x, hx⟩ := k.h g2 (hwt i.1 i.2)
        exact ⟨x, cs', g1, hx⟩
      refine ⟨List.ofFn fun i => Classical.choose (hx i), some a, cap, by simp, by simpa using h1, h2, by simpa using hlen, fun i hi => ?_⟩
      have hi' : i < len := by simpa using hi
      obtain ⟨es, g1, g2⟩ := Classical.choose_spec (hx ⟨i, hi'⟩)
      have hpos : 0 < P.cellsOf e := by rw [hc]; exact Dat.pos
      obtain ⟨-, q2, q3⟩ := cells?_row g1 hpos
      obtain ⟨cs0, g0, -⟩ := hel 0 (by omega)
      rw [Nat.zero_mul] at g0
      obtain ⟨q1, -, -⟩ := cells?_row g0 hpos
      refine ⟨a.block, a.off, ?_, trivial, es, ?_, by simpa using g2⟩
      · obtain ⟨b, off, s⟩ := a
        obtain rfl : s = none := q1
        rfl
      · obtain ⟨b, off, s⟩ := a
        obtain rfl : s = none := q1
        rw [hc] at q3
        rw [addr_add] at q3
        exact q3
  s hv := by obtain ⟨a, l, c, rfl⟩ := okWide_slice ht hv; rfl
theorem weightsEach_mem {H : Type} {P : Program} : ∀ {ts : List TypeId} {ds : List (DataW H)} {j : Nat} {t : TypeId} {d : DataW H} {n : Nat}, ts[j]? = some t → ds[j]? = some d → n ∈ d.weights P t → n ∈ DataW.weightsEach P ts ds
  | [], _, _, _, _, _, h, _, _ => by simp at h
  | _ :: _, [], _, _, _, _, _, h, _ => by simp at h
  | t :: ts, d :: ds, 0, _, _, n, h1, h2, h3 => by
    obtain rfl : t = _ := by simpa using h1
    obtain rfl : d = _ := by simpa using h2
    simp only [DataW.weightsEach, List.mem_append]; exact .inl h3
  | t :: ts, d :: ds, j + 1, _, _, n, h1, h2, h3 => by
    simp only [DataW.weightsEach, List.mem_append]; exact .inr (weightsEach_mem (j := j) (by simpa using h1) (by simpa using h2) h3)
class TOpF (P : Program) (fs : List Field) (o : Nat) (α : Type) (i : Dat α) : Prop where
  h : ∀ {H : Type} {enc : TypeId × Value → H} {W : World} {base : Nat} {sp : Nat → Bool} {held : Bool} {fuel : Nat} {cs : List Value} {xs : List (DataW H × List MemPlace)},
    cs.length = o + Dat.sz α → (∀ (j : Nat) (f : Field), fs[j]? = some f → DataW.trod enc P W base sp held fuel f.type ((cs.drop f.offset).take (P.cellsOf f.type)) = xs[j]?) →
    xs.length = fs.length → (∀ n ∈ DataW.weightsEach P (fs.map (·.type)) (xs.map (·.1)), n ≤ reachBytes) → ∃ x : α, Dat.rd (fun _ => True) W (cs.drop o) x
theorem topf_one {P : Program} {f : Field} {α : Type} {i : Dat α} {o : Nat} {t : TypeId} (k : TOpen P t α i) (hc : P.cellsOf t = Dat.sz α) (ht : f.type = t) (ho : f.offset = o) : TOpF P [f] o α i where
  h {H enc W base sp held fuel cs xs} hl hx hn hw := by
    subst ht
    match xs, hn with
    | [x], _ =>
      have h0 := hx 0 f rfl
      rw [hc, ho] at h0
      have e : (cs.drop o).take (Dat.sz α) = cs.drop o := List.take_of_length_le (by rw [List.length_drop, hl]; omega)
      rw [e] at h0
      exact k.h h0 fun n hn => hw n (weightsEach_mem (j := 0) rfl rfl hn)
theorem topf_cons {P : Program} {f : Field} {fs : List Field} {α β : Type} {i : Dat α} {j : Dat β} {o o' : Nat} {t : TypeId} (k : TOpen P t α i) (hc : P.cellsOf t = Dat.sz α) (ht : f.type = t) (ho : f.offset = o) (ho' : o' = o + Dat.sz α) (r : TOpF P fs o' β j) : TOpF P (f :: fs) o (α × β) instProd where
  h {H enc W base sp held fuel cs xs} hl hx hn hw := by
    subst ht
    subst ho'
    match xs, hn with
    | x :: xs', hn =>
      have h0 := hx 0 f rfl
      rw [hc, ho] at h0
      obtain ⟨a, ha⟩ := k.h h0 fun n hn => hw n (weightsEach_mem (j := 0) rfl rfl hn)
      have hl' : cs.length = o + Dat.sz α + Dat.sz β := by
        have : Dat.sz (α × β) = Dat.sz α + Dat.sz β := rfl
        omega
      obtain ⟨b, hb⟩ := r.h hl' (fun q g hg => hx (q + 1) g hg) (by simpa using hn) fun n hn => hw n (by
        simp only [List.map_cons, DataW.weightsEach, List.mem_append]; exact .inr hn)
      refine ⟨(a, b), ?_, ?_, ?_⟩
      · rw [List.length_drop, hl']; omega
      · show Dat.rd _ W (seg (cs.drop o) 0 (Dat.sz α)) a
        simpa [seg] using ha
      · show Dat.rd _ W (seg (cs.drop o) (Dat.sz α) (Dat.sz β)) b
        have e : seg (cs.drop o) (Dat.sz α) (Dat.sz β) = cs.drop (o + Dat.sz α) := by
          simp only [seg, List.drop_drop]
          exact List.take_of_length_le (by rw [List.length_drop, hl']; omega)
        rw [e]; exact hb
theorem topen_struct {P : Program} {t : TypeId} {fs : Array Field} {α : Type} {i : Dat α} {β : Type} {j : Dat β} (f : α → β) (g : β → α) (hfg : ∀ y, f (g y) = y) (hi : i = Dat.iso f g hfg) (ht : P.underlying t = some (.struct fs)) (ha : Dat.agg β = true) (hc : P.cellsOf t = Dat.sz β) (k : TOpF P fs.toList 0 β j) : TOpen P t α i where
  h {H enc W base sp held fuel cs d ps} hd hw := by
    obtain ⟨xs, n, rfl, hx, hl, hn, hel⟩ := DataW.trod_struct ht hd
    injection hx with hx1 hx2
    subst hx1
    obtain ⟨y, hy⟩ := k.h (by rw [hl, hc]; omega) (fun q f hf => hel q f (by simpa using hf)) (by simpa using hn) (fun n hn => hw n (by simp only [DataW.weights, ht]; exact hn))
    subst hi
    refine ⟨g y, ?_⟩
    show Dat.rd _ W cs (f (g y))
    rw [hfg]
    simpa using hy
  s {W base v} hv := by
    simp only [Value.okWide, ht] at hv
    obtain ⟨cs, rfl, -⟩ := hv
    subst hi
    show _ = @mkV α (Dat.iso f g hfg) _
    have : @Dat.agg α (Dat.iso f g hfg) = true := ha
    simp [mkV, this, Value.cells]
theorem top_open {P : Program} {t : TypeId} {α : Type} {i : Dat α} [k : TOpen P t α i] {H : Type} {enc : TypeId × Value → H} {W : World} {base b0 : Nat} {sp : Nat → Bool} {held : Bool} {v : Value} {d : DataW H} {ps : List MemPlace}
    (h : DataW.Trod enc P W base sp held t v d ps) (hv : Value.okWide P W .any b0 t v) (hw : ∀ n ∈ d.weights P t, n ≤ reachBytes) : ∃ x : α, (D x).p (fun _ => True) W v := by
  obtain ⟨fuel, hf⟩ := h
  obtain ⟨x, hx⟩ := k.h hf hw
  exact ⟨x, _, hx, k.s hv⟩
theorem trodAll_stays {H : Type} {enc : TypeId × Value → H} {P : Program} (hl : laidOutB P = true) {W W' : World} (hb : Below W.heap.size W W') : ∀ {ts : List TypeId} {vs : List Value} {ds : List (DataW H)} {ps : List MemPlace},
    (∀ t ∈ ts, P.readableRec t = true ∧ t < P.types.size) → DataW.TrodAll enc P W 0 (fun _ => true) true ts vs ds ps → DataW.TrodAll enc P W' 0 (fun b => decide (b < W.heap.size)) true ts vs ds ps
  | [], vs, ds, ps, _, h => by obtain ⟨rfl, rfl, rfl⟩ := trodAll_nil h; exact trodAll_mk0
  | t :: ts, vs, ds, ps, hr, h => by
    obtain ⟨v, vs', d, ds', p, q, rfl, rfl, rfl, h1, h2⟩ := trodAll_cons h
    have hlt : ∀ x ∈ p, x.block < W.heap.size := by obtain ⟨m, hm⟩ := h1; exact DataW.trod_lt m _ _ _ hm
    exact trodAll_cons_mk (Below.trod hl (hr t (List.mem_cons_self ..)).1 (hr t (List.mem_cons_self ..)).2 h1 hb hlt) (trodAll_stays hl hb (fun u hu => hr u (List.mem_cons_of_mem _ hu)) h2)
theorem law_post {H : Type} {enc : TypeId × Value → H} {P : Program} {f : Func} {s : ChangeSpec} {tb : TypeId} (hl : laidOutB P = true) (hb : P.underlying tb = some .bool) (hres : f.resultTypes = #[tb]) (hvars : s.vars = [])
    (hr : ∀ t ∈ f.params.toList, P.readableRec t = true ∧ t < P.types.size) {W W' : World} {args : Array Value} {ds gs : List (DataW H)} {before : List MemPlace} {e : Ending}
    (hs : s.fn H ds = { results := [.lit (.bool true)], args := ds })
    (hW : DataW.Whole enc P f.params.toList s.vars false W args.toList ds gs before) (h : Ret (fun _ => True) W (D true) e W') : ∃ v, e = .returned v ∧ s.post enc P f false true false false W args v W' := by
  obtain ⟨v, rfl, hg, hv⟩ := h
  obtain rfl : v = .bool true := by
    have := D_one rfl hv
    simpa [Dat.rd] using this
  have hW' := hW
  obtain ⟨p, q, hA, hV, rfl, -, -⟩ := hW
  rw [hvars] at hV
  obtain ⟨rfl, rfl⟩ := trodVars_none hV
  refine ⟨_, rfl, ds, [], p ++ [], [], p, [], hW', ?_, ?_, ?_, hg.below.frame _, fun h => by cases h⟩
  · rw [List.append_nil, hs, hres]
    exact trodAll_mk1 (shut_bool hb _)
  · rw [List.append_nil, hs]
    exact trodAll_stays hl hg.below hr hA
  · rw [List.append_nil, hs, hvars]
    rfl
end Go.Proofs.Ytefmfhbkihplgaa.Tr
namespace Go.Proofs.Ytefmfhbkihplgaa.Tr
open Go
theorem loopO_iter {σ ε : Type} {f : σ → Option (σ ⊕ ε)} (g : Nat → σ) (n : Nat) {e : ε} (hn : n < 18446744073709551616) (h : ∀ i, i < n → f (g i) = some (.inl (g (i + 1)))) (he : f (g n) = some (.inr e)) {s : σ} (hs : s = g 0) : loopO f s = some e := by
  have key : ∀ k i, i + k = n → loopN f (k + 1) (g i) = some e := by
    intro k
    induction k with
    | zero => intro i hi; obtain rfl : i = n := by omega
              exact loopN_done he
    | succ k ih => intro i hi; rw [loopN_next (h i (by omega))]; exact ih (i + 1) (by omega)
  subst hs
  exact loopO_of (n + 1) (by omega) (key n 0 (by omega))
theorem loopO_find {σ ε : Type} {f : σ → Option (σ ⊕ ε)} (g : Nat → σ) (n : Nat) (p : Nat → Bool) (x : Nat → ε) {y : ε} (hn : n < 18446744073709551616)
    (h : ∀ i, i < n → p i = false → f (g i) = some (.inl (g (i + 1)))) (hx : ∀ i, i < n → p i = true → f (g i) = some (.inr (x i))) (he : f (g n) = some (.inr y)) {s : σ} (hs : s = g 0) :
    (∃ i, i < n ∧ p i = true ∧ (∀ j, j < i → p j = false) ∧ loopO f s = some (x i)) ∨ ((∀ j, j < n → p j = false) ∧ loopO f s = some y) := by
  by_cases hex : ∃ i, i < n ∧ p i = true
  · left
    have key : ∀ m, (∃ i, i < m ∧ i < n ∧ p i = true) → ∃ i, i < n ∧ p i = true ∧ ∀ j, j < i → p j = false := by
      intro m
      induction m with
      | zero => rintro ⟨i, h, _⟩; omega
      | succ m ih =>
        rintro ⟨i, h1, h2, h3⟩
        by_cases hs : ∃ i, i < m ∧ i < n ∧ p i = true
        · exact ih hs
        · refine ⟨i, h2, h3, fun j hj => ?_⟩
          cases hp : p j with
          | false => rfl
          | true => exact absurd ⟨j, by omega, by omega, hp⟩ hs
    obtain ⟨i0, h0, h1⟩ := hex
    obtain ⟨i, h1, h2, h3⟩ := key (i0 + 1) ⟨i0, by omega, h0, h1⟩
    exact ⟨i, h1, h2, h3, loopO_iter g i (by omega) (fun j hj => h j (by omega) (h3 j hj)) (hx i h1 h2) hs⟩
  · right
    have hall : ∀ j, j < n → p j = false := fun j hj => by
      cases hp : p j with
      | false => rfl
      | true => exact absurd ⟨j, hj, hp⟩ hex
    exact ⟨hall, loopO_iter g n hn (fun j hj => h j hj (hall j hj)) he hs⟩
theorem lt_t {i n : Nat} (h : i < n) : decide ((i : Int) < (n : Int)) = true := by simpa using h
theorem lt_f {n : Nat} : decide ((n : Int) < (n : Int)) = false := by simp
theorem addI_1 {i : Nat} (h : i < 9223372036854775807) : addI (i : Int) 1 = some (((i + 1 : Nat)) : Int) := addI_nat h
theorem cond_true {α : Type} {b : Bool} {x y : α} (h : b = true) : (bif b then x else y) = x := by rw [h, cond_t]
theorem cond_false {α : Type} {b : Bool} {x y : α} (h : b = false) : (bif b then x else y) = y := by rw [h, cond_f]
theorem bind_of {α β : Type} {x : Option α} {a : α} {f : α → Option β} (h : x = some a) : x.bind f = f a := by rw [h, bind_s]
theorem gb_of2 {α : Type} [Inhabited α] {g : Bool} {x : Option α} {a : α} (h : x = some a) : gb g x = some (bif g then a else default) := gb_of fun _ => h
theorem remI_nat {a b : Nat} (h : 0 < b) : remI (a : Int) (b : Int) = some ((a % b : Nat) : Int) := by rw [remI_ok (by omega) (by omega)]; rfl
theorem quoI_nat {a b : Nat} (h : 0 < b) : quoI (a : Int) (b : Int) = some ((a / b : Nat) : Int) := by rw [quoI_ok (by omega) (by omega)]; rfl
end Go.Proofs.Ytefmfhbkihplgaa.Tr
