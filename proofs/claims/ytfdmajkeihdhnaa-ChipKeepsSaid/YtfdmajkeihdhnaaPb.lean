/- Private blocks given out, and lent; loops and joins that follow a plain program. Conditions: none. -/
import Derived.Test.YtfdmajkeihdhnaaCo
namespace Go.Proofs.Ytfdmajkeihdhnaa.Tr
open Go Go.RowKit
set_option linter.unusedVariables false
set_option linter.unnecessarySimpa false

/-! ### giving out -/
/-- what a slot's type becomes when a private block is given out -/
def PubC (C : Ct) (b : Nat) (pr : Prop) (τ σ : Ty) : Prop := ∀ (A : Nat → Prop) (w : World) (v : Value), (pr → A b ∧ ∃ cs, Blk w b cs ∧ C.p A w cs) → τ.p A w v → σ.p A w v
theorem PubC.refl {C : Ct} {b : Nat} {pr : Prop} (τ : Ty) : PubC C b pr τ τ := fun _ _ _ _ h => h
theorem PubC.sv {C : Ct} {b o n : Nat} {pr : Prop} {τ : Ty} {α : Type} {i : Dat α} {ys : List α} {upd : List α → Ct} [k : AsSv τ b pr o n] (p : PlS C o α i ys upd) (hn : n = ys.length) : PubC C b pr τ (D ys) := fun A w v hb h => by
  rcases k.le _ _ _ h with ⟨hp, o', c, rfl, h1, h2⟩ | ⟨hp, h1, rfl⟩
  · obtain ⟨ha, cs, g1, g2⟩ := hb hp
    obtain ⟨e1, e2⟩ := p.rd g2
    have hmo := p.mo g2
    refine ⟨[_], ⟨some ⟨b, o', none⟩, c, rfl, by omega, h1.2, hmo, fun q hq => ⟨b, o', rfl, ha, seg cs (o + q * Dat.sz α) (Dat.sz α), ?_, ?_⟩⟩, by rw [hn]; rfl⟩
    · obtain rfl := h2 (by omega)
      refine g1.row ?_
      have : q * Dat.sz α + Dat.sz α ≤ ys.length * Dat.sz α := by rw [← Nat.succ_mul]; exact Nat.mul_le_mul_right _ (by omega)
      omega
    · have := e2 q hq
      rwa [seg_seg (by rw [← Nat.succ_mul]; exact Nat.mul_le_mul_right _ (by omega)) e1] at this
  · have : ys = [] := List.eq_nil_of_length_eq_zero (by omega)
    subst this
    exact NilS.le _ _ _ rfl
theorem PubC.pt {C : Ct} {b o : Nat} {pr : Prop} {α : Type} {i : Dat α} {x : α} {upd : α → Ct} (p : Pl C o α i x upd) (hp : pr) : PubC C b pr (Pt b o) (PtrD x) := fun A w v hb h => by
  obtain ⟨ha, cs, g1, g2⟩ := hb hp
  obtain ⟨e1, e2⟩ := p.rd.h g2
  exact ⟨b, o, _, h, ha, g1.row e1, e2⟩
/-- what the slots' types become when a private block is given out -/
def PubE (C : Ct) (b : Nat) (pr : Prop) (Γ Δ : Env) : Prop := ∀ t, PubC C b pr (Γ t) (Δ t)
theorem PubE.refl {C : Ct} {b : Nat} {pr : Prop} {Γ : Env} : PubE C b pr Γ Γ := fun t => PubC.refl _
theorem PubE.set {C : Ct} {b : Nat} {pr : Prop} {Γ Δ : Env} (t : Tmp) {τ σ : Ty} [h : Has Γ (.tmp t) τ] (k : PubC C b pr τ σ) (l : PubE C b pr Γ Δ) : PubE C b pr Γ (Δ.set t σ) := fun u A w v hb hv => by
  unfold Env.set
  split
  · rename_i e; subst e; exact k A w v hb (h.at _ _ _ hv)
  · exact l u A w v hb hv
section pub
variable {P : Program} {r : Ref} {n : Nat} {Γ Δ : Env} {Ω Ωr : List Pe} {Q : Exit → Act → World → Prop} {ops : Array Oper} {k : Nat} {rest : List Oper} {C : Ct} {pr : Prop}
theorem Stt.pub {b : Nat} [op : Opens r] [pk : Pick Ω b pr C Ωr] (hΔ : PubE C b pr Γ Δ) {a : Act} {w : World} (h : Stt r n Γ Ω a w) : Stt r n Δ Ωr a w := by
  have h := h.less (Less.perm pk.perm)
  have hl : Less (⟨b, pr, C⟩ :: Ωr) Ωr := Less.drop (Less.refl _)
  have h2 := h.less hl
  refine ⟨h2.sz, h2.df, h2.mu, fun t => hΔ t _ _ _ (fun hp => ?_) (h2.ty t), h2.pv⟩
  obtain ⟨cs, g1, g2⟩ := h.pv.ks ⟨b, pr, C⟩ (List.mem_cons_self ..) hp
  have hk : Keep (Pub r.A (⟨b, pr, C⟩ :: Ωr)) (Pub r.A Ωr) w w := Keep.mono fun j _ hj => Pub_own.2 ⟨(Pub_own.1 hj).1, fun ho => (Pub_own.1 hj).2 (hl.own j ho)⟩
  exact ⟨Pub_own.2 ⟨op.h b (h.pv.own b ⟨_, List.mem_cons_self .., hp, rfl⟩), fun ⟨f, hf, hpf, hfb⟩ => (List.pairwise_cons.1 h.pv.ap).1 f hf hp hpf hfb.symm⟩, cs, g1, C.keep hk g2⟩
theorem TC.pub {c : Code} (b : Nat) [op : Opens r] [pk : Pick Ω b pr C Ωr] (hΔ : PubE C b pr Γ Δ) (h : TC P r n Δ Ωr c Q) : TC P r n Γ Ω c Q := fun a w hs => h a w (hs.pub hΔ)
theorem TE.pub {e : Exit} (b : Nat) [op : Opens r] [pk : Pick Ω b pr C Ωr] (hΔ : PubE C b pr Γ Δ) (h : TE r n Δ Ωr Q e) : TE r n Γ Ω Q e := fun a w hs => h a w (hs.pub hΔ)
theorem TS.pub (b : Nat) [op : Opens r] [pk : Pick Ω b pr C Ωr] (hΔ : PubE C b pr Γ Δ) (h : TS P r n ops rest k Δ Ωr Q) : TS P r n ops rest k Γ Ω Q := fun hl a w hs => h hl a w (hs.pub hΔ)
theorem TS.keep (ts : List Tmp) (bs : List Nat) {Ω' : List Pe} [h : Keeps Γ ts Δ] [h' : Sel Ω bs Ω'] (hk : TS P r n ops rest k Δ Ω' Q) : TS P r n ops rest k Γ Ω Q := TS.weaken h.le h'.less hk
theorem TC.kp {c : Code} (ts : List Tmp) (bs : List Nat) {Ω' : List Pe} [h : Keeps Γ ts Δ] [h' : Sel Ω bs Ω'] (k : TC P r n Δ Ω' c Q) : TC P r n Γ Ω c Q := fun a w hs => k a w ((hs.le h.le).less h'.less)
theorem TE.kp {e : Exit} (ts : List Tmp) (bs : List Nat) {Ω' : List Pe} [h : Keeps Γ ts Δ] [h' : Sel Ω bs Ω'] (k : TE r n Δ Ω' Q e) : TE r n Γ Ω Q e := fun a w hs => k a w ((hs.le h.le).less h'.less)
/-- a block is lent: its content sees another form of what it holds -/
theorem TC.re {c : Code} (b : Nat) {C' : Ct} [pk : Pick Ω b pr C Ωr] (h : ∀ A w cs, pr → C.p A w cs → C'.p A w cs) (k : TC P r n Γ (⟨b, pr, C'⟩ :: Ωr) c Q) : TC P r n Γ Ω c Q := fun a w hs => k a w ((hs.less (Less.perm pk.perm)).less
  ⟨fun j ⟨e, he, h1, h2⟩ => (by
    rcases List.mem_cons.1 he with rfl | he
    · exact ⟨_, List.mem_cons_self .., h1, h2⟩
    · exact ⟨e, List.mem_cons_of_mem _ he, h1, h2⟩), fun hp => List.pairwise_cons.2 ⟨fun f hf h1 h2 => (List.pairwise_cons.1 hp).1 f hf h1 h2, (List.pairwise_cons.1 hp).2⟩, fun A w hk e he h1 => by
    rcases List.mem_cons.1 he with rfl | he
    · obtain ⟨cs, g1, g2⟩ := hk ⟨b, pr, C⟩ (List.mem_cons_self ..) h1; exact ⟨cs, g1, h _ _ _ h1 g2⟩
    · exact hk e (List.mem_cons_of_mem _ he) h1⟩)
end pub

/-! ### lending to a call -/
/-- a value that reaches no memory -/
class NoPtr (τ : Ty) : Prop where
  h : ∀ {A A' : Nat → Prop} {w w' : World} {v : Value}, τ.p A w v → τ.p A' w' v
instance {v : Value} : NoPtr (Ex v) := ⟨fun h => h⟩
instance {n : Int} : NoPtr (I n) := ⟨fun h => h⟩
instance {b : Bool} : NoPtr (B b) := ⟨fun h => h⟩
/-- data that reach no memory -/
class Flat (α : Type) (i : Dat α) : Prop where
  h : ∀ {A A' : Nat → Prop} {w w' : World} {cs : List Value} {x : α}, Dat.rd A w cs x → Dat.rd A' w' cs x
instance : Flat Int inferInstance := ⟨fun h => h⟩
instance : Flat UInt8 inferInstance := ⟨fun h => h⟩
instance : Flat UInt16 inferInstance := ⟨fun h => h⟩
instance : Flat UInt32 inferInstance := ⟨fun h => h⟩
instance : Flat UInt64 inferInstance := ⟨fun h => h⟩
instance : Flat Bool inferInstance := ⟨fun h => h⟩
instance {α β : Type} {i : Dat α} {j : Dat β} [h : Flat α i] [k : Flat β j] : Flat (α × β) instProd := ⟨fun ⟨h1, h2, h3⟩ => ⟨h1, h.h h2, k.h h3⟩⟩
theorem Flat.iso {α β : Type} [i : Dat β] {f : α → β} {g : β → α} {h : ∀ y, f (g y) = y} (k : Flat β i) : Flat α (Dat.iso f g h) := ⟨fun h => k.h h⟩
instance {α : Type} {i : Dat α} {x : α} [h : Flat α i] : NoPtr (D x) := ⟨fun ⟨cs, h1, h2⟩ => ⟨cs, h.h h1, h2⟩⟩
class NoPtrL (τs : List Ty) : Prop where
  h : ∀ {A A' : Nat → Prop} {w w' : World} {v : Value} (i : Nat) (hi : i < τs.length), τs[i].p A w v → τs[i].p A' w' v
instance : NoPtrL [] := ⟨fun i hi => absurd hi (by simp)⟩
instance {τ : Ty} {τs : List Ty} [h : NoPtr τ] [k : NoPtrL τs] : NoPtrL (τ :: τs) := ⟨fun i hi hv => by
  cases i with
  | zero => exact h.h hv
  | succ i => exact k.h i (by simpa using hi) hv⟩
instance {τs : List Ty} [h : NoPtrL τs] : NoPtr (Tup τs) := ⟨fun ⟨vs, h1, h2, h3⟩ => ⟨vs, h1, h2, fun i hi => h.h i hi (h3 i hi)⟩⟩
def Lent (A : Nat → Prop) (bs : List Nat) (k : Nat) : Prop := A k ∨ k ∈ bs
/-- an argument where the blocks of bs are lent -/
def ArgB (Ω : List Pe) (bs : List Nat) (τ σ : Ty) : Prop := ∀ (A : Nat → Prop) (w : World) (v : Value), Pks A Ω w → τ.p A w v → σ.p (Lent A bs) w v
theorem Lent.keep {A : Nat → Prop} {bs : List Nat} {w : World} : Keep A (Lent A bs) w w := Keep.mono fun _ _ h => .inl h
theorem ArgB.d {Ω : List Pe} {bs : List Nat} {τ σ : Ty} [k : AsT τ σ] : ArgB Ω bs τ σ := fun A w v _ h => Ty.keep σ Lent.keep (k.le A w v h)
theorem ArgB.sv {Ω : List Pe} {bs : List Nat} {τ : Ty} {b o n : Nat} {pr : Prop} {C : Ct} {α : Type} {i : Dat α} {ys : List α} {upd : List α → Ct} [k : AsSv τ b pr o n] [hb : HasB Ω b pr C] (p : PlS C o α i ys upd) (hn : n = ys.length) (hbs : b ∈ bs) : ArgB Ω bs τ (D ys) := fun A w v hk h =>
  PubC.sv (τ := τ) p hn _ w v (fun hp => ⟨.inr hbs, by obtain ⟨cs, g1, g2⟩ := hk _ hb.h hp; exact ⟨cs, g1, C.keep Lent.keep g2⟩⟩) (τ.keep Lent.keep h)
theorem ArgB.pt {Ω : List Pe} {bs : List Nat} {b o : Nat} {pr : Prop} {C : Ct} {α : Type} {i : Dat α} {x : α} {upd : α → Ct} [hb : HasB Ω b pr C] (p : Pl C o α i x upd) (hp : pr) (hbs : b ∈ bs) : ArgB Ω bs (Pt b o) (PtrD x) := fun A w v hk h =>
  PubC.pt p hp _ w v (fun hp => ⟨.inr hbs, by obtain ⟨cs, g1, g2⟩ := hk _ hb.h hp; exact ⟨cs, g1, C.keep Lent.keep g2⟩⟩) h
section call
variable {P : Program} {B0 : Nat} {A : Nat → Prop} {Ω : List Pe} {Γ : Env} {dst : Option Tmp} {ty : TypeId} {pos : String} {aft : Array Edge} {gd : Option (Nat × Bool)} {f : FuncId} {ts : Array TypeId} {τ : Ty}
theorem OpY.callLent {xs : Array Operand} [F : Fun P f] [N : NoPtr τ] (bs : List Nat)
    (h : ∀ (A : Nat → Prop) (a : Act) w, (∀ k, w.heap.size ≤ k → Lent A bs k) → Pks A Ω w → (∀ t, .tmp t ∈ xs.toList → (Γ t).p A w (a.tmps.getD t undef)) → Calls P f (xs.map a.eval) w (Ret (Lent A bs) w τ)) :
    OpY P B0 A Ω Γ ⟨dst, .call { callee := .value (.func f), args := xs, argTypes := ts }, ty, pos, aft, gd⟩ τ := fun a w hB hu hp hl => by
  have hc := h A a w (fun k hk => .inl (hu k hk)) hp fun t ht => hl t (by
    simp only [Op.operands, Call.operands, Array.toList_append, List.mem_append]
    exact .inr ht)
  have hr : (execOp a.eval ⟨dst, .call { callee := .value (.func f), args := xs, argTypes := ts }, ty, pos, aft, gd⟩).run P w = .ok (.enter f (xs.map a.eval)) w := by
    have e1 : a.eval (.func f) = .func (.func f) #[] #[] := rfl
    simp only [execOp, resolve, Deferred.ofValue, e1, Sem.run_bind, Sem.run_pure, Result.andThen_ok, invoke, F.h, Array.append_empty, Array.empty_append]
  rw [hr]
  refine ⟨Grow.refl _ _, hc.mono fun e w' h => ?_⟩
  obtain ⟨v, h1, h2, h3⟩ := h
  exact ⟨v, h1, h2.mono hB, N.h h3⟩
theorem OpY.callB1 {x1 : Operand} {τ1 σ1 : Ty} [h1 : Has Γ x1 τ1] [F : Fun P f] [N : NoPtr τ] (bs : List Nat) (k1 : ArgB Ω bs τ1 σ1)
    (h : ∀ {A : Nat → Prop} w v1, (∀ k, w.heap.size ≤ k → A k) → σ1.p A w v1 → Calls P f #[v1] w (Ret A w τ)) :
    OpY P B0 A Ω Γ ⟨dst, .call { callee := .value (.func f), args := #[x1], argTypes := ts }, ty, pos, aft, gd⟩ τ :=
  OpY.callLent bs fun A a w hu hp hl => by
    rw [show (#[x1].map a.eval) = #[a.eval x1] by simp]
    exact h w _ hu (k1 A w _ hp (h1.le a A w fun t e => hl t (by simp [e])))
theorem OpY.callB2 {x1 : Operand} {τ1 σ1 : Ty} [h1 : Has Γ x1 τ1] {x2 : Operand} {τ2 σ2 : Ty} [h2 : Has Γ x2 τ2] [F : Fun P f] [N : NoPtr τ] (bs : List Nat) (k1 : ArgB Ω bs τ1 σ1) (k2 : ArgB Ω bs τ2 σ2)
    (h : ∀ {A : Nat → Prop} w v1 v2, (∀ k, w.heap.size ≤ k → A k) → σ1.p A w v1 → σ2.p A w v2 → Calls P f #[v1, v2] w (Ret A w τ)) :
    OpY P B0 A Ω Γ ⟨dst, .call { callee := .value (.func f), args := #[x1, x2], argTypes := ts }, ty, pos, aft, gd⟩ τ :=
  OpY.callLent bs fun A a w hu hp hl => by
    rw [show (#[x1, x2].map a.eval) = #[a.eval x1, a.eval x2] by simp]
    exact h w _ _ hu (k1 A w _ hp (h1.le a A w fun t e => hl t (by simp [e]))) (k2 A w _ hp (h2.le a A w fun t e => hl t (by simp [e])))
theorem OpY.callB3 {x1 : Operand} {τ1 σ1 : Ty} [h1 : Has Γ x1 τ1] {x2 : Operand} {τ2 σ2 : Ty} [h2 : Has Γ x2 τ2] {x3 : Operand} {τ3 σ3 : Ty} [h3 : Has Γ x3 τ3] [F : Fun P f] [N : NoPtr τ] (bs : List Nat) (k1 : ArgB Ω bs τ1 σ1) (k2 : ArgB Ω bs τ2 σ2) (k3 : ArgB Ω bs τ3 σ3)
    (h : ∀ {A : Nat → Prop} w v1 v2 v3, (∀ k, w.heap.size ≤ k → A k) → σ1.p A w v1 → σ2.p A w v2 → σ3.p A w v3 → Calls P f #[v1, v2, v3] w (Ret A w τ)) :
    OpY P B0 A Ω Γ ⟨dst, .call { callee := .value (.func f), args := #[x1, x2, x3], argTypes := ts }, ty, pos, aft, gd⟩ τ :=
  OpY.callLent bs fun A a w hu hp hl => by
    rw [show (#[x1, x2, x3].map a.eval) = #[a.eval x1, a.eval x2, a.eval x3] by simp]
    exact h w _ _ _ hu (k1 A w _ hp (h1.le a A w fun t e => hl t (by simp [e]))) (k2 A w _ hp (h2.le a A w fun t e => hl t (by simp [e]))) (k3 A w _ hp (h3.le a A w fun t e => hl t (by simp [e])))
theorem OpY.callB4 {x1 : Operand} {τ1 σ1 : Ty} [h1 : Has Γ x1 τ1] {x2 : Operand} {τ2 σ2 : Ty} [h2 : Has Γ x2 τ2] {x3 : Operand} {τ3 σ3 : Ty} [h3 : Has Γ x3 τ3] {x4 : Operand} {τ4 σ4 : Ty} [h4 : Has Γ x4 τ4] [F : Fun P f] [N : NoPtr τ] (bs : List Nat) (k1 : ArgB Ω bs τ1 σ1) (k2 : ArgB Ω bs τ2 σ2) (k3 : ArgB Ω bs τ3 σ3) (k4 : ArgB Ω bs τ4 σ4)
    (h : ∀ {A : Nat → Prop} w v1 v2 v3 v4, (∀ k, w.heap.size ≤ k → A k) → σ1.p A w v1 → σ2.p A w v2 → σ3.p A w v3 → σ4.p A w v4 → Calls P f #[v1, v2, v3, v4] w (Ret A w τ)) :
    OpY P B0 A Ω Γ ⟨dst, .call { callee := .value (.func f), args := #[x1, x2, x3, x4], argTypes := ts }, ty, pos, aft, gd⟩ τ :=
  OpY.callLent bs fun A a w hu hp hl => by
    rw [show (#[x1, x2, x3, x4].map a.eval) = #[a.eval x1, a.eval x2, a.eval x3, a.eval x4] by simp]
    exact h w _ _ _ _ hu (k1 A w _ hp (h1.le a A w fun t e => hl t (by simp [e]))) (k2 A w _ hp (h2.le a A w fun t e => hl t (by simp [e]))) (k3 A w _ hp (h3.le a A w fun t e => hl t (by simp [e]))) (k4 A w _ hp (h4.le a A w fun t e => hl t (by simp [e])))
theorem OpY.callB5 {x1 : Operand} {τ1 σ1 : Ty} [h1 : Has Γ x1 τ1] {x2 : Operand} {τ2 σ2 : Ty} [h2 : Has Γ x2 τ2] {x3 : Operand} {τ3 σ3 : Ty} [h3 : Has Γ x3 τ3] {x4 : Operand} {τ4 σ4 : Ty} [h4 : Has Γ x4 τ4] {x5 : Operand} {τ5 σ5 : Ty} [h5 : Has Γ x5 τ5] [F : Fun P f] [N : NoPtr τ] (bs : List Nat) (k1 : ArgB Ω bs τ1 σ1) (k2 : ArgB Ω bs τ2 σ2) (k3 : ArgB Ω bs τ3 σ3) (k4 : ArgB Ω bs τ4 σ4) (k5 : ArgB Ω bs τ5 σ5)
    (h : ∀ {A : Nat → Prop} w v1 v2 v3 v4 v5, (∀ k, w.heap.size ≤ k → A k) → σ1.p A w v1 → σ2.p A w v2 → σ3.p A w v3 → σ4.p A w v4 → σ5.p A w v5 → Calls P f #[v1, v2, v3, v4, v5] w (Ret A w τ)) :
    OpY P B0 A Ω Γ ⟨dst, .call { callee := .value (.func f), args := #[x1, x2, x3, x4, x5], argTypes := ts }, ty, pos, aft, gd⟩ τ :=
  OpY.callLent bs fun A a w hu hp hl => by
    rw [show (#[x1, x2, x3, x4, x5].map a.eval) = #[a.eval x1, a.eval x2, a.eval x3, a.eval x4, a.eval x5] by simp]
    exact h w _ _ _ _ _ hu (k1 A w _ hp (h1.le a A w fun t e => hl t (by simp [e]))) (k2 A w _ hp (h2.le a A w fun t e => hl t (by simp [e]))) (k3 A w _ hp (h3.le a A w fun t e => hl t (by simp [e]))) (k4 A w _ hp (h4.le a A w fun t e => hl t (by simp [e]))) (k5 A w _ hp (h5.le a A w fun t e => hl t (by simp [e])))
theorem OpY.callB6 {x1 : Operand} {τ1 σ1 : Ty} [h1 : Has Γ x1 τ1] {x2 : Operand} {τ2 σ2 : Ty} [h2 : Has Γ x2 τ2] {x3 : Operand} {τ3 σ3 : Ty} [h3 : Has Γ x3 τ3] {x4 : Operand} {τ4 σ4 : Ty} [h4 : Has Γ x4 τ4] {x5 : Operand} {τ5 σ5 : Ty} [h5 : Has Γ x5 τ5] {x6 : Operand} {τ6 σ6 : Ty} [h6 : Has Γ x6 τ6] [F : Fun P f] [N : NoPtr τ] (bs : List Nat) (k1 : ArgB Ω bs τ1 σ1) (k2 : ArgB Ω bs τ2 σ2) (k3 : ArgB Ω bs τ3 σ3) (k4 : ArgB Ω bs τ4 σ4) (k5 : ArgB Ω bs τ5 σ5) (k6 : ArgB Ω bs τ6 σ6)
    (h : ∀ {A : Nat → Prop} w v1 v2 v3 v4 v5 v6, (∀ k, w.heap.size ≤ k → A k) → σ1.p A w v1 → σ2.p A w v2 → σ3.p A w v3 → σ4.p A w v4 → σ5.p A w v5 → σ6.p A w v6 → Calls P f #[v1, v2, v3, v4, v5, v6] w (Ret A w τ)) :
    OpY P B0 A Ω Γ ⟨dst, .call { callee := .value (.func f), args := #[x1, x2, x3, x4, x5, x6], argTypes := ts }, ty, pos, aft, gd⟩ τ :=
  OpY.callLent bs fun A a w hu hp hl => by
    rw [show (#[x1, x2, x3, x4, x5, x6].map a.eval) = #[a.eval x1, a.eval x2, a.eval x3, a.eval x4, a.eval x5, a.eval x6] by simp]
    exact h w _ _ _ _ _ _ hu (k1 A w _ hp (h1.le a A w fun t e => hl t (by simp [e]))) (k2 A w _ hp (h2.le a A w fun t e => hl t (by simp [e]))) (k3 A w _ hp (h3.le a A w fun t e => hl t (by simp [e]))) (k4 A w _ hp (h4.le a A w fun t e => hl t (by simp [e]))) (k5 A w _ hp (h5.le a A w fun t e => hl t (by simp [e]))) (k6 A w _ hp (h6.le a A w fun t e => hl t (by simp [e])))
theorem OpY.callB7 {x1 : Operand} {τ1 σ1 : Ty} [h1 : Has Γ x1 τ1] {x2 : Operand} {τ2 σ2 : Ty} [h2 : Has Γ x2 τ2] {x3 : Operand} {τ3 σ3 : Ty} [h3 : Has Γ x3 τ3] {x4 : Operand} {τ4 σ4 : Ty} [h4 : Has Γ x4 τ4] {x5 : Operand} {τ5 σ5 : Ty} [h5 : Has Γ x5 τ5] {x6 : Operand} {τ6 σ6 : Ty} [h6 : Has Γ x6 τ6] {x7 : Operand} {τ7 σ7 : Ty} [h7 : Has Γ x7 τ7] [F : Fun P f] [N : NoPtr τ] (bs : List Nat) (k1 : ArgB Ω bs τ1 σ1) (k2 : ArgB Ω bs τ2 σ2) (k3 : ArgB Ω bs τ3 σ3) (k4 : ArgB Ω bs τ4 σ4) (k5 : ArgB Ω bs τ5 σ5) (k6 : ArgB Ω bs τ6 σ6) (k7 : ArgB Ω bs τ7 σ7)
    (h : ∀ {A : Nat → Prop} w v1 v2 v3 v4 v5 v6 v7, (∀ k, w.heap.size ≤ k → A k) → σ1.p A w v1 → σ2.p A w v2 → σ3.p A w v3 → σ4.p A w v4 → σ5.p A w v5 → σ6.p A w v6 → σ7.p A w v7 → Calls P f #[v1, v2, v3, v4, v5, v6, v7] w (Ret A w τ)) :
    OpY P B0 A Ω Γ ⟨dst, .call { callee := .value (.func f), args := #[x1, x2, x3, x4, x5, x6, x7], argTypes := ts }, ty, pos, aft, gd⟩ τ :=
  OpY.callLent bs fun A a w hu hp hl => by
    rw [show (#[x1, x2, x3, x4, x5, x6, x7].map a.eval) = #[a.eval x1, a.eval x2, a.eval x3, a.eval x4, a.eval x5, a.eval x6, a.eval x7] by simp]
    exact h w _ _ _ _ _ _ _ hu (k1 A w _ hp (h1.le a A w fun t e => hl t (by simp [e]))) (k2 A w _ hp (h2.le a A w fun t e => hl t (by simp [e]))) (k3 A w _ hp (h3.le a A w fun t e => hl t (by simp [e]))) (k4 A w _ hp (h4.le a A w fun t e => hl t (by simp [e]))) (k5 A w _ hp (h5.le a A w fun t e => hl t (by simp [e]))) (k6 A w _ hp (h6.le a A w fun t e => hl t (by simp [e]))) (k7 A w _ hp (h7.le a A w fun t e => hl t (by simp [e])))
end call
/-! ### calls that take private blocks, and give some -/
/-- some private blocks, and the others -/
class Sel2 (Ω : List Pe) (bs : List Nat) (Ωt Ωr : outParam (List Pe)) : Prop where
  perm : Ω.Perm (Ωt ++ Ωr)
instance {Ω : List Pe} : Sel2 Ω [] [] Ω := ⟨List.Perm.refl _⟩
instance {Ω Ω1 Ωt Ωr : List Pe} {b : Nat} {bs : List Nat} {pr : Prop} {C : Ct} [h : Pick Ω b pr C Ω1] [k : Sel2 Ω1 bs Ωt Ωr] : Sel2 Ω (b :: bs) (⟨b, pr, C⟩ :: Ωt) Ωr := ⟨h.perm.trans (k.perm.cons _)⟩
theorem Pub_Pub {A : Nat → Prop} {Ω Ω' : List Pe} : Pub (Pub A Ω) Ω' = Pub A (Ω ++ Ω') := by
  funext k
  refine propext ?_
  rw [Pub_own, Pub_own, Pub_own, Own_append]
  constructor
  · rintro ⟨⟨h1, h2⟩, h3⟩; exact ⟨h1, fun h => h.elim h2 h3⟩
  · rintro ⟨h1, h2⟩; exact ⟨⟨h1, fun h => h2 (.inl h)⟩, fun h => h2 (.inr h)⟩
section callO
variable {P : Program} {B : Nat} {Ωs Ω Ωt Ωr : List Pe} {Γ : Env} {dst : Option Tmp} {ty : TypeId} {pos : String} {aft : Array Edge} {f : FuncId} {ts : Array TypeId} {ν : Type} {τ : ν → Ty} {Ω' : ν → List Pe}
theorem OpT.callON {xs : Array Operand} [F : Fun P f] (hp : Ω.Perm (Ωt ++ Ωr))
    (h : ∀ (A : Nat → Prop) (a : Act) w, (∀ k, w.heap.size ≤ k → A k) → OwnIn A Ωt → Apart Ωt → Pks (Pub A Ωt) Ωt w → (∀ t, .tmp t ∈ xs.toList → (Γ t).p (Pub A Ωt) w (a.tmps.getD t undef)) → Calls P f (xs.map a.eval) w (RetO A w Ωt τ Ω')) :
    OpT P B Ωs Ω Γ ⟨dst, .call { callee := .value (.func f), args := xs, argTypes := ts }, ty, pos, aft, none⟩ τ fun g => Ω' g ++ Ωr := by
  refine OpT.frame hp ⟨rfl, fun A0 a w hB hu ho ha hk hl => ?_⟩
  have hlt : ∀ j, Own (Ωs ++ Ωr) j → j < w.heap.size := fun j hj => (Pks_append.1 hk).1.lt hj
  have hr : (execOp a.eval ⟨dst, .call { callee := .value (.func f), args := xs, argTypes := ts }, ty, pos, aft, none⟩).run P w = .ok (.enter f (xs.map a.eval)) w := by
    have e1 : a.eval (.func f) = .func (.func f) #[] #[] := rfl
    simp only [execOp, resolve, Deferred.ofValue, e1, Sem.run_bind, Sem.run_pure, Result.andThen_ok, invoke, F.h, Array.append_empty, Array.empty_append]
  rw [hr]
  have hc := h (Pub A0 (Ωs ++ Ωr)) a w (fun k hk => Pub_own.2 ⟨hu k hk, fun hj => by have := hlt k hj; omega⟩)
    ⟨fun k hko => Pub_own.2 ⟨ho k hko, fun ⟨e, he, h1, h2⟩ => by
      obtain ⟨f, hf, h3, h4⟩ := hko
      exact (List.pairwise_append.1 ha).2.2 e he f hf h1 h3 (h2.trans h4.symm)⟩⟩
    (List.pairwise_append.1 ha).2.1 (by rw [Pub_Pub]; exact (Pks_append.1 hk).2) (fun t ht => by
      rw [Pub_Pub]
      exact hl t (by
        simp only [Op.operands, Call.operands, Array.toList_append, List.mem_append]
        exact .inr ht))
  refine hc.mono fun e w' ⟨v, g, h1, h2⟩ => ⟨v, g, h1, h2.st.mono hB (fun _ h => h), h2.nw, ?_, by rw [← Pub_Pub]; exact h2.ty, by rw [← Pub_Pub]; exact h2.ks⟩
  refine List.pairwise_append.2 ⟨(List.pairwise_append.1 ha).1, h2.ap, fun x hx y hy h3 h4 h5 => ?_⟩
  rcases h2.nw y.b ⟨y, hy, h4, rfl⟩ with ⟨z, hz, h6, h7⟩ | h6
  · exact (List.pairwise_append.1 ha).2.2 x hx z hz h3 h6 (h5.trans h7.symm)
  · have := hlt x.b ⟨x, hx, h3, rfl⟩; omega
theorem OpT.callO0  [F : Fun P f] (bs : List Nat) [sp : Sel2 Ω bs Ωt Ωr]
    (h : ∀ {A : Nat → Prop} w , (∀ k, w.heap.size ≤ k → A k) → OwnIn A Ωt → Apart Ωt → Pks (Pub A Ωt) Ωt w → Calls P f #[] w (RetO A w Ωt τ Ω')) :
    OpT P B Ωs Ω Γ ⟨dst, .call { callee := .value (.func f), args := #[], argTypes := ts }, ty, pos, aft, none⟩ τ fun g => Ω' g ++ Ωr :=
  OpT.callON sp.perm fun A a w hu ho ha hk hl => by
    rw [show ((#[] : Array Operand).map a.eval) = #[] by simp]
    exact h w  hu ho ha hk 
theorem OpT.callO1 {x1 : Operand} {τ1 : Ty} [h1 : Has Γ x1 τ1] [F : Fun P f] (bs : List Nat) [sp : Sel2 Ω bs Ωt Ωr]
    (h : ∀ {A : Nat → Prop} w v1, (∀ k, w.heap.size ≤ k → A k) → OwnIn A Ωt → Apart Ωt → Pks (Pub A Ωt) Ωt w → τ1.p (Pub A Ωt) w v1 → Calls P f #[v1] w (RetO A w Ωt τ Ω')) :
    OpT P B Ωs Ω Γ ⟨dst, .call { callee := .value (.func f), args := #[x1], argTypes := ts }, ty, pos, aft, none⟩ τ fun g => Ω' g ++ Ωr :=
  OpT.callON sp.perm fun A a w hu ho ha hk hl => by
    rw [show (#[x1].map a.eval) = #[a.eval x1] by simp]
    exact h w _ hu ho ha hk (h1.le a _ w fun t e => hl t (by simp [e]))
theorem OpT.callO2 {x1 : Operand} {τ1 : Ty} [h1 : Has Γ x1 τ1] {x2 : Operand} {τ2 : Ty} [h2 : Has Γ x2 τ2] [F : Fun P f] (bs : List Nat) [sp : Sel2 Ω bs Ωt Ωr]
    (h : ∀ {A : Nat → Prop} w v1 v2, (∀ k, w.heap.size ≤ k → A k) → OwnIn A Ωt → Apart Ωt → Pks (Pub A Ωt) Ωt w → τ1.p (Pub A Ωt) w v1 → τ2.p (Pub A Ωt) w v2 → Calls P f #[v1, v2] w (RetO A w Ωt τ Ω')) :
    OpT P B Ωs Ω Γ ⟨dst, .call { callee := .value (.func f), args := #[x1, x2], argTypes := ts }, ty, pos, aft, none⟩ τ fun g => Ω' g ++ Ωr :=
  OpT.callON sp.perm fun A a w hu ho ha hk hl => by
    rw [show (#[x1, x2].map a.eval) = #[a.eval x1, a.eval x2] by simp]
    exact h w _ _ hu ho ha hk (h1.le a _ w fun t e => hl t (by simp [e])) (h2.le a _ w fun t e => hl t (by simp [e]))
theorem OpT.callO3 {x1 : Operand} {τ1 : Ty} [h1 : Has Γ x1 τ1] {x2 : Operand} {τ2 : Ty} [h2 : Has Γ x2 τ2] {x3 : Operand} {τ3 : Ty} [h3 : Has Γ x3 τ3] [F : Fun P f] (bs : List Nat) [sp : Sel2 Ω bs Ωt Ωr]
    (h : ∀ {A : Nat → Prop} w v1 v2 v3, (∀ k, w.heap.size ≤ k → A k) → OwnIn A Ωt → Apart Ωt → Pks (Pub A Ωt) Ωt w → τ1.p (Pub A Ωt) w v1 → τ2.p (Pub A Ωt) w v2 → τ3.p (Pub A Ωt) w v3 → Calls P f #[v1, v2, v3] w (RetO A w Ωt τ Ω')) :
    OpT P B Ωs Ω Γ ⟨dst, .call { callee := .value (.func f), args := #[x1, x2, x3], argTypes := ts }, ty, pos, aft, none⟩ τ fun g => Ω' g ++ Ωr :=
  OpT.callON sp.perm fun A a w hu ho ha hk hl => by
    rw [show (#[x1, x2, x3].map a.eval) = #[a.eval x1, a.eval x2, a.eval x3] by simp]
    exact h w _ _ _ hu ho ha hk (h1.le a _ w fun t e => hl t (by simp [e])) (h2.le a _ w fun t e => hl t (by simp [e])) (h3.le a _ w fun t e => hl t (by simp [e]))
theorem OpT.callO4 {x1 : Operand} {τ1 : Ty} [h1 : Has Γ x1 τ1] {x2 : Operand} {τ2 : Ty} [h2 : Has Γ x2 τ2] {x3 : Operand} {τ3 : Ty} [h3 : Has Γ x3 τ3] {x4 : Operand} {τ4 : Ty} [h4 : Has Γ x4 τ4] [F : Fun P f] (bs : List Nat) [sp : Sel2 Ω bs Ωt Ωr]
    (h : ∀ {A : Nat → Prop} w v1 v2 v3 v4, (∀ k, w.heap.size ≤ k → A k) → OwnIn A Ωt → Apart Ωt → Pks (Pub A Ωt) Ωt w → τ1.p (Pub A Ωt) w v1 → τ2.p (Pub A Ωt) w v2 → τ3.p (Pub A Ωt) w v3 → τ4.p (Pub A Ωt) w v4 → Calls P f #[v1, v2, v3, v4] w (RetO A w Ωt τ Ω')) :
    OpT P B Ωs Ω Γ ⟨dst, .call { callee := .value (.func f), args := #[x1, x2, x3, x4], argTypes := ts }, ty, pos, aft, none⟩ τ fun g => Ω' g ++ Ωr :=
  OpT.callON sp.perm fun A a w hu ho ha hk hl => by
    rw [show (#[x1, x2, x3, x4].map a.eval) = #[a.eval x1, a.eval x2, a.eval x3, a.eval x4] by simp]
    exact h w _ _ _ _ hu ho ha hk (h1.le a _ w fun t e => hl t (by simp [e])) (h2.le a _ w fun t e => hl t (by simp [e])) (h3.le a _ w fun t e => hl t (by simp [e])) (h4.le a _ w fun t e => hl t (by simp [e]))
theorem OpT.callO5 {x1 : Operand} {τ1 : Ty} [h1 : Has Γ x1 τ1] {x2 : Operand} {τ2 : Ty} [h2 : Has Γ x2 τ2] {x3 : Operand} {τ3 : Ty} [h3 : Has Γ x3 τ3] {x4 : Operand} {τ4 : Ty} [h4 : Has Γ x4 τ4] {x5 : Operand} {τ5 : Ty} [h5 : Has Γ x5 τ5] [F : Fun P f] (bs : List Nat) [sp : Sel2 Ω bs Ωt Ωr]
    (h : ∀ {A : Nat → Prop} w v1 v2 v3 v4 v5, (∀ k, w.heap.size ≤ k → A k) → OwnIn A Ωt → Apart Ωt → Pks (Pub A Ωt) Ωt w → τ1.p (Pub A Ωt) w v1 → τ2.p (Pub A Ωt) w v2 → τ3.p (Pub A Ωt) w v3 → τ4.p (Pub A Ωt) w v4 → τ5.p (Pub A Ωt) w v5 → Calls P f #[v1, v2, v3, v4, v5] w (RetO A w Ωt τ Ω')) :
    OpT P B Ωs Ω Γ ⟨dst, .call { callee := .value (.func f), args := #[x1, x2, x3, x4, x5], argTypes := ts }, ty, pos, aft, none⟩ τ fun g => Ω' g ++ Ωr :=
  OpT.callON sp.perm fun A a w hu ho ha hk hl => by
    rw [show (#[x1, x2, x3, x4, x5].map a.eval) = #[a.eval x1, a.eval x2, a.eval x3, a.eval x4, a.eval x5] by simp]
    exact h w _ _ _ _ _ hu ho ha hk (h1.le a _ w fun t e => hl t (by simp [e])) (h2.le a _ w fun t e => hl t (by simp [e])) (h3.le a _ w fun t e => hl t (by simp [e])) (h4.le a _ w fun t e => hl t (by simp [e])) (h5.le a _ w fun t e => hl t (by simp [e]))
end callO
end Go.Proofs.Ytfdmajkeihdhnaa.Tr
