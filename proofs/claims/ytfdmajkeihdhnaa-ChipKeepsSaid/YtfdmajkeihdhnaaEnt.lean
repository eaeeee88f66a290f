/- Entering a function, leaving it, parting ways, stores, giving private blocks out. Conditions: none. -/
import Derived.Test.YtfdmajkeihdhnaaPr2
namespace Go.Proofs.Ytfdmajkeihdhnaa.Tr
open Go Go.RowKit
set_option linter.unusedVariables false
set_option linter.unnecessarySimpa false

section
variable {P : Program} {r : Ref} {n : Nat} {Γ : Env} {Ω : List Pe} {Q : Exit → Act → World → Prop}

theorem TC.cond {c : Operand} {x y : Code} {τ : Ty} {b : Bool} [hc : Has Γ c τ] [hb : AsB τ b]
    (h1 : b = true → TC P r n Γ Ω x Q) (h2 : b = false → TC P r n Γ Ω y Q) : TC P r n Γ Ω (.cond c x y) Q := fun a w hs => by
  have e : a.eval c = .bool b := hb.le _ _ _ (hc.le a _ w fun t _ => hs.ty t)
  refine wpIn_cond_split e (fun hb => h1 hb a w hs) (fun hb => h2 hb a w hs)
/-- a bool of which something is known -/
def BE (φ : Bool → Prop) : Ty := ⟨fun _ _ v => ∃ b, v = .bool b ∧ φ b, fun _ h => h⟩
theorem TC.condE {c : Operand} {x y : Code} {φ : Bool → Prop} [hc : Has Γ c (BE φ)]
    (h1 : φ true → TC P r n Γ Ω x Q) (h2 : φ false → TC P r n Γ Ω y Q) : TC P r n Γ Ω (.cond c x y) Q := fun a w hs => by
  obtain ⟨b, e, h⟩ := hc.le a _ w fun t _ => hs.ty t
  cases b
  · exact wpIn_cond_split e (fun x => by cases x) (fun _ => h2 h a w hs)
  · exact wpIn_cond_split e (fun _ => h1 h a w hs) (fun x => by cases x)

/-- a fact that a slot's type bears -/
theorem TC.fact {c : Code} {p : Prop} (t : Tmp) {τ : Ty} [h : Has Γ (.tmp t) τ] (hp : ∀ A w v, τ.p A w v → p) (k : p → TC P r n Γ Ω c Q) : TC P r n Γ Ω c Q :=
  fun a w hs => k (hp _ w _ (h.at _ w _ (hs.ty t))) a w hs
/-- a fact that a private block bears -/
theorem TC.factB {c : Code} {p pr : Prop} {C : Ct} (b : Nat) [h : HasB Ω b pr C] (hpr : pr) (hp : ∀ A w cs, C.p A w cs → p) (k : p → TC P r n Γ Ω c Q) : TC P r n Γ Ω c Q :=
  fun a w hs => by obtain ⟨cs, h1, h2⟩ := hs.pv.ks _ h.h hpr; exact k (hp _ w _ h2) a w hs
/-- a slot seen otherwise -/
theorem TC.see {c : Code} (t : Tmp) {τ : Ty} (σ : Ty) [h : Has Γ (.tmp t) τ] (hp : τ.le σ) (k : TC P r n (Γ.set t σ) Ω c Q) : TC P r n Γ Ω c Q :=
  fun a w hs => k a w (hs.le (Env.le_set (h.at.trans hp) (Env.le.refl _)))
theorem TE.see {e : Exit} (t : Tmp) {τ : Ty} (σ : Ty) [h : Has Γ (.tmp t) τ] (hp : τ.le σ) (k : TE r n (Γ.set t σ) Ω Q e) : TE r n Γ Ω Q e :=
  fun a w hs => k a w (hs.le (Env.le_set (h.at.trans hp) (Env.le.refl _)))

theorem Has.leAt {t : Tmp} {τ σ : Ty} [h : Has Γ (.tmp t) τ] (k : τ.le σ) : (Γ t).le σ := h.at.trans k
theorem le_eq {τ σ : Ty} (h : τ = σ) : τ.le σ := h ▸ Ty.le.refl _
theorem I_le {m n : Int} (h : m = n) : (I m).le (I n) := h ▸ Ty.le.refl _
theorem B_le {m n : Bool} (h : m = n) : (B m).le (B n) := h ▸ Ty.le.refl _
theorem U8_le {m n : UInt8} (h : m = n) : (U8 m).le (U8 n) := h ▸ Ty.le.refl _
theorem U16_le {m n : UInt16} (h : m = n) : (U16 m).le (U16 n) := h ▸ Ty.le.refl _
theorem U32_le {m n : UInt32} (h : m = n) : (U32 m).le (U32 n) := h ▸ Ty.le.refl _
theorem U64_le {m n : UInt64} (h : m = n) : (U64 m).le (U64 n) := h ▸ Ty.le.refl _
theorem D_le {α : Type} [Dat α] {x y : α} (h : x = y) : (D x).le (D y) := h ▸ Ty.le.refl _
theorem D_I {n : Int} : (D n).le (I n) := (inferInstance : AsI (D n) n).le
theorem D_B {n : Bool} : (D n).le (B n) := (inferInstance : AsB (D n) n).le
theorem D_U8 {n : UInt8} : (D n).le (U8 n) := (inferInstance : AsU8 (D n) n).le
theorem D_U16 {n : UInt16} : (D n).le (U16 n) := (inferInstance : AsU16 (D n) n).le
theorem D_U32 {n : UInt32} : (D n).le (U32 n) := (inferInstance : AsU32 (D n) n).le
theorem D_U64 {n : UInt64} : (D n).le (U64 n) := (inferInstance : AsU64 (D n) n).le
theorem Pe_le {b : Nat} {pr : Prop} {C C' : Ct} {Ω : List Pe} (h : C = C') : Less (⟨b, pr, C⟩ :: Ω) (⟨b, pr, C'⟩ :: Ω) := h ▸ Less.refl _

/-! ### giving out -/
/-- a box given out -/
theorem Stt.pubBox {α : Type} {i : Dat α} {b : Nat} {x : α} {Ωs : List Pe} {t : Tmp} {a : Act} {w : World} [hs : Split Ω [b] Ωs [⟨b, True, One x⟩]] [hp : Has Γ (.tmp t) (Pt b 0)] (hr : ∀ k, r.w.heap.size ≤ k ∨ r.S k → r.A k) (h : Stt r n Γ Ω a w) : Stt r n (Γ.set t (PtrD x)) Ωs a w := by
  have hΩ : Less Ω (Ωs ++ [⟨b, True, One x⟩]) := Less.perm hs.perm
  have h := h.less hΩ
  have hl : Less (Ωs ++ [⟨b, True, One x⟩]) Ωs := ⟨fun k hk => Own_append.2 (.inl hk), fun hp => (List.pairwise_append.1 hp).1, fun A w hk => (Pks_append.1 hk).1⟩
  have h2 := h.less hl
  refine ⟨h2.sz, h2.df, h2.mu, fun u => ?_, h2.pv⟩
  unfold Env.set
  split
  · rename_i e; subst e
    obtain ⟨cs, g1, g2⟩ := (Pks_append.1 h.pv.ks).2 ⟨b, True, One x⟩ (by simp) trivial
    have hk : Keep (Pub r.A (Ωs ++ [⟨b, True, One x⟩])) (Pub r.A Ωs) w w := Keep.mono fun j _ hj => Pub_own.2 ⟨(Pub_own.1 hj).1, fun ho => (Pub_own.1 hj).2 (hl.own j ho)⟩
    have g2 : Dat.rd (Pub r.A (Ωs ++ [⟨b, True, One x⟩])) w cs x := g2
    have hb : Pub r.A Ωs b := Pub_own.2 ⟨hr b (h.pv.own b (Own_append.2 (.inr ⟨_, List.mem_singleton.2 rfl, trivial, rfl⟩))), fun ⟨f, hf, hp, hfb⟩ => (List.pairwise_append.1 h.pv.ap).2.2 f hf _ (List.mem_singleton.2 rfl) hp trivial hfb⟩
    refine ⟨b, 0, cs, hp.at _ _ _ (h.ty u), hb, fun j hj => ?_, Dat.mono hk g2⟩
    rw [Nat.zero_add]; exact g1.cell hj
  · exact h2.ty u
/-- a row that is given out, as data -/
theorem Row.read {α : Type} {i : Dat α} {A : Nat → Prop} {w : World} {b c m : Nat} {xs : List α} {cs : List Value} (hb : A b) (g1 : Blk w b cs) (g2 : (Row xs c).p A w cs) (hm : m ≤ xs.length) : (D (xs.take m)).p A w (.slice (some ⟨b, 0, none⟩) m c) := by
  obtain ⟨k1, k2, k3, k4, k5⟩ := g2
  have hl : (xs.take m).length = m := by simp; omega
  refine ⟨[_], ⟨some ⟨b, 0, none⟩, c, rfl, by omega, k3, by omega, fun q hq => ⟨b, 0, rfl, hb, seg cs (q * Dat.sz α) (Dat.sz α), ?_, ?_⟩⟩, by rw [hl]; rfl⟩
  · rw [Nat.zero_add]
    refine g1.row ?_
    rw [k1, ← Nat.succ_mul]
    exact Nat.mul_le_mul_right _ (by omega)
  · rw [List.getElem_take]; exact k5 q (by omega)
/-- an owned row given out, seen from one slot -/
theorem Stt.pubRow {α : Type} {i : Dat α} {b m q c : Nat} {pr : Prop} {xs : List α} {Ωr : List Pe} {t : Tmp} {a : Act} {w : World} [hs : Pick Ω b pr (Row xs c) Ωr] [hp : Has Γ (.tmp t) (Sl b pr 0 m q)] [op : Opens r] (hm : m ≤ xs.length) (hq : q = c) (h : Stt r n Γ Ω a w) :
    Stt r n Γ Ωr a w ∧ (D (xs.take m)).p (Pub r.A Ωr) w (a.tmps.getD t undef) := by
  subst hq
  have h := h.less (Less.perm hs.perm)
  have hl : Less (⟨b, pr, Row xs q⟩ :: Ωr) Ωr := Less.drop (Less.refl _)
  refine ⟨h.less hl, ?_⟩
  rcases hp.at _ _ _ (h.ty t) with ⟨hpr, -, hv⟩ | ⟨_, h0, _, hv⟩
  · obtain ⟨cs, g1, g2⟩ := h.pv.ks ⟨b, pr, Row xs q⟩ (List.mem_cons_self ..) hpr
    have hk : Keep (Pub r.A (⟨b, pr, Row xs q⟩ :: Ωr)) (Pub r.A Ωr) w w := Keep.mono fun j _ hj => Pub_own.2 ⟨(Pub_own.1 hj).1, fun ho => (Pub_own.1 hj).2 (hl.own j ho)⟩
    have hb : Pub r.A Ωr b := Pub_own.2 ⟨op.h b (h.pv.own b ⟨_, List.mem_cons_self .., hpr, rfl⟩), fun ⟨f, hf, hp, hfb⟩ => (List.pairwise_cons.1 h.pv.ap).1 f hf hpr hp hfb.symm⟩
    rw [hv]
    exact Row.read hb g1 ((Row xs q).keep hk g2) hm
  · rw [hv, h0, List.take_zero]; exact NilS.le _ _ _ rfl

/-! ### leaving -/
def rvRead (a : Act) : ResultVar → Sem Value
  | .tmp t => pure (a.tmps.getD t undef)
  | .cell s t => do loadVar t (← asAddr (a.tmps.getD s undef))
theorem results_read {fn : Func} {xs : List ResultVar} {a : Act} {vs : List Value} {w : World} (hr : fn.results = xs.toArray) (h : (xs.mapM (rvRead a)).run P w = .ok vs w) : (results fn a.tmps).run P w = .ok (if h : vs.toArray.size = 1 then vs.toArray[0] else .tuple vs.toArray) w := by
  have e : results fn a.tmps = (do let vs ← fn.results.mapM (rvRead a); pure (if h : vs.size = 1 then vs[0] else .tuple vs)) := by
    unfold results
    congr 1
  rw [e, hr, Array.mapM_eq_mapM_toList, Sem.run_bind]
  simp only [map_eq_pure_bind, Sem.run_bind, h, Result.andThen_ok, Sem.run_pure]
/-- what a result is -/
class Rv (P : Program) (Γ : Env) (Ω : List Pe) (x : ResultVar) (τ : outParam Ty) : Prop where
  h : ∀ {A w} {a : Act}, (∀ t, (Γ t).p A w (a.tmps.getD t undef)) → Pks A Ω w → ∃ v, (rvRead a x).run P w = .ok v w ∧ τ.p A w v
instance {t : Tmp} {τ : Ty} [h : Has Γ (.tmp t) τ] : Rv P Γ Ω (.tmp t) τ := ⟨fun ht _ => ⟨_, rfl, h.at _ _ _ (ht t)⟩⟩
instance {s : Tmp} {t : TypeId} {τ : Ty} {α : Type} {i : Dat α} {x : α} [h : Has Γ (.tmp s) τ] [T : TDat P t α i] [k : LdP Ω τ α i x] : Rv P Γ Ω (.cell s t) (D x) := ⟨fun ht hk => by
  obtain ⟨b, o, cs, h1, h2, h3⟩ := k.h hk (h.at _ _ _ (ht s))
  refine ⟨_, ?_, cs, h3, rfl⟩
  simp only [rvRead, Sem.run_bind, h1, asAddr, Sem.run_pure, Result.andThen_ok]
  exact run_loadVar (t := t) h2 h3⟩

/-- the reference without old blocks that may be written -/
class Still (r : Ref) : Prop where
  h : ∀ k, ¬ r.S k
  d : r.ds = []
instance {A : Nat → Prop} {w : World} {hA : ∀ k, w.heap.size ≤ k → A k} : Still (refOf A w hA) := ⟨fun _ h => h, rfl⟩
theorem Stt.out [s : Still r] {a : Act} {w : World} (h : Stt r n Γ Ω a w) : Grow r.w.heap.size r.w w :=
  ⟨h.mu.os, h.mu.tape, h.mu.output, h.mu.size, fun k hk => h.mu.same k hk (s.h k), fun k hk => by rw [h.mu.same k hk (s.h k)]; exact SameCells.refl _⟩
theorem Stt.lift {τ : Ty} {a : Act} {w : World} {v : Value} (h : Stt r n Γ Ω a w) (hv : τ.p (Pub r.A Ω) w v) : τ.p r.A w v := τ.keep (Keep.mono fun k _ hk => (Pub_own.1 hk).1) hv

theorem leave1 {fn : Func} {x : ResultVar} {τ σ : Ty} [s : Still r] (hr : fn.results = #[x]) [hx : Rv P Γ Ω x τ] (k : τ.le σ) {a : Act} {w : World} (h : Stt r n Γ Ω a w) : a.defers = [] ∧ ∃ v, (results fn a.tmps).run P w = .ok v w ∧ Ret r.A r.w σ (.returned v) w := by
  obtain ⟨v, h1, h2⟩ := hx.h (a := a) h.ty h.pv.ks
  refine ⟨h.df.trans s.d, v, ?_, v, rfl, h.out, k _ _ _ (h.lift h2)⟩
  have := results_read (P := P) (a := a) (xs := [x]) (vs := [v]) (w := w) hr (by rw [List.mapM_cons, Sem.run_bind, h1]; simp)
  simpa using this
theorem TE.ret1 {fn : Func} {x : ResultVar} {τ σ : Ty} [s : Still r] (hr : fn.results = #[x]) [hx : Rv P Γ Ω x τ] (k : τ.le σ) : TE r n Γ Ω (bodyPost P fn (Ret r.A r.w σ)) .ret := fun a w hs => leave1 hr k hs
theorem TE.end1 {fn : Func} {x : ResultVar} {τ σ : Ty} [s : Still r] (hr : fn.results = #[x]) [hx : Rv P Γ Ω x τ] (k : τ.le σ) : TE r n Γ Ω (bodyPost P fn (Ret r.A r.w σ)) .normal := fun a w hs => leave1 hr k hs

/-- several results -/
class RvL (P : Program) (Γ : Env) (Ω : List Pe) (xs : List ResultVar) (τs : outParam (List Ty)) : Prop where
  len : xs.length = τs.length
  h : ∀ {A w} {a : Act}, (∀ t, (Γ t).p A w (a.tmps.getD t undef)) → Pks A Ω w → ∃ vs : List Value, (xs.mapM (rvRead a)).run P w = .ok vs w ∧ vs.length = τs.length ∧ ∀ i (hi : i < τs.length), τs[i].p A w (vs.getD i undef)
instance : RvL P Γ Ω [] [] := ⟨rfl, fun _ _ => ⟨[], rfl, rfl, fun i hi => absurd hi (by simp)⟩⟩
instance {x : ResultVar} {xs : List ResultVar} {τ : Ty} {τs : List Ty} [h : Rv P Γ Ω x τ] [k : RvL P Γ Ω xs τs] : RvL P Γ Ω (x :: xs) (τ :: τs) := ⟨by simp [k.len], fun ht hp => by
  obtain ⟨v, h1, h2⟩ := h.h ht hp
  obtain ⟨vs, g1, g2, g3⟩ := k.h ht hp
  refine ⟨v :: vs, ?_, by simp [g2], fun i hi => ?_⟩
  · rw [List.mapM_cons, Sem.run_bind, h1]
    simp only [Result.andThen_ok, Sem.run_bind, g1, Sem.run_pure]
  · cases i with
    | zero => exact h2
    | succ i => simpa using g3 i (by simpa using hi)⟩
inductive LeAll : List Ty → List Ty → Prop
  | nil : LeAll [] []
  | cons {τ σ : Ty} {τs σs : List Ty} : τ.le σ → LeAll τs σs → LeAll (τ :: τs) (σ :: σs)
theorem LeAll.spec : ∀ {τs σs : List Ty}, LeAll τs σs → τs.length = σs.length ∧ ∀ i (hi : i < τs.length) (hi' : i < σs.length), (τs[i]).le σs[i]
  | _, _, .nil => ⟨rfl, fun i hi => absurd hi (by simp)⟩
  | _, _, .cons h k => ⟨by simp [k.spec.1], fun i hi hi' => by
      cases i with
      | zero => exact h
      | succ i => simpa using k.spec.2 i (by simpa using hi) (by simpa using hi')⟩
theorem leaveN {fn : Func} {xs : List ResultVar} {τs σs : List Ty} [s : Still r] (hr : fn.results = xs.toArray) (hn : (xs.length == 1) = false) [hx : RvL P Γ Ω xs τs] (k : LeAll τs σs) {a : Act} {w : World} (h : Stt r n Γ Ω a w) : a.defers = [] ∧ ∃ v, (results fn a.tmps).run P w = .ok v w ∧ Ret r.A r.w (Tup σs) (.returned v) w := by
  obtain ⟨vs, h1, h2, h3⟩ := hx.h (a := a) h.ty h.pv.ks
  have hl := hx.len
  have hne : vs.length ≠ 1 := by rw [h2, ← hl]; simpa using hn
  refine ⟨h.df.trans s.d, .tuple vs.toArray, ?_, _, rfl, h.out, vs, rfl, by rw [h2, k.spec.1], fun i hi => ?_⟩
  · have := results_read (P := P) (a := a) (w := w) hr h1
    rw [dif_neg (by simpa using hne)] at this
    exact this
  · exact k.spec.2 i (by rw [k.spec.1]; exact hi) hi _ _ _ (h.lift (h3 i (by rw [k.spec.1]; exact hi)))
theorem TE.retN {fn : Func} {xs : List ResultVar} {τs σs : List Ty} [s : Still r] (hr : fn.results = xs.toArray) (hn : (xs.length == 1) = false) [hx : RvL P Γ Ω xs τs] (k : LeAll τs σs) : TE r n Γ Ω (bodyPost P fn (Ret r.A r.w (Tup σs))) .ret := fun a w hs => leaveN hr hn k hs
theorem TE.endN {fn : Func} {xs : List ResultVar} {τs σs : List Ty} [s : Still r] (hr : fn.results = xs.toArray) (hn : (xs.length == 1) = false) [hx : RvL P Γ Ω xs τs] (k : LeAll τs σs) : TE r n Γ Ω (bodyPost P fn (Ret r.A r.w (Tup σs))) .normal := fun a w hs => leaveN hr hn k hs
/-! leaving where private blocks are taken or given -/
theorem Stt.aft {A : Nat → Prop} {w0 : World} {Ωt : List Pe} {hA : ∀ k, w0.heap.size ≤ k → A k} {Ω1 : List Pe} {τ σ : Ty} {a : Act} {w : World} {v : Value} (h : Stt (refOwn A w0 Ωt hA) n Γ Ω a w) (hl : Less Ω Ω1) (hv : τ.p (Pub A Ω) w v) (k : τ.le σ) :
    Aft w0.heap.size A [] Ωt σ Ω1 w0 w v := by
  have h2 := h.less hl
  have hk : Keep (Pub A Ω) (Pub A Ω1) w w := Keep.mono fun j _ hj => Pub_own.2 ⟨(Pub_own.1 hj).1, fun ho => (Pub_own.1 hj).2 (hl.own j ho)⟩
  exact ⟨Stp.of_mut h.mu (Nat.le_refl _), fun j hj => (h2.pv.own j hj).symm, h2.pv.ap, k _ _ _ (τ.keep hk hv), h2.pv.ks⟩
section
variable {A : Nat → Prop} {w0 : World} {Ωt : List Pe} {hA : ∀ k, w0.heap.size ≤ k → A k} {ν : Type} {Ω' : ν → List Pe}
theorem leaveO1 {fn : Func} {x : ResultVar} {τ : Ty} {σ : ν → Ty} (hr : fn.results = #[x]) [hx : Rv P Γ Ω x τ] (g : ν) (k : τ.le (σ g)) (hl : Less Ω (Ω' g)) {a : Act} {w : World} (h : Stt (refOwn A w0 Ωt hA) n Γ Ω a w) : a.defers = [] ∧ ∃ v, (results fn a.tmps).run P w = .ok v w ∧ RetO A w0 Ωt σ Ω' (.returned v) w := by
  obtain ⟨v, h1, h2⟩ := hx.h (a := a) h.ty h.pv.ks
  refine ⟨h.df, v, ?_, v, g, rfl, h.aft hl h2 k⟩
  have := results_read (P := P) (a := a) (xs := [x]) (vs := [v]) (w := w) hr (by rw [List.mapM_cons, Sem.run_bind, h1]; simp)
  simpa using this
theorem TE.retO1 {fn : Func} {x : ResultVar} {τ : Ty} {σ : ν → Ty} (hr : fn.results = #[x]) [hx : Rv P Γ Ω x τ] (g : ν) (k : τ.le (σ g)) (hl : Less Ω (Ω' g)) : TE (refOwn A w0 Ωt hA) n Γ Ω (bodyPost P fn (RetO A w0 Ωt σ Ω')) .ret := fun a w hs => leaveO1 hr g k hl hs
theorem TE.endO1 {fn : Func} {x : ResultVar} {τ : Ty} {σ : ν → Ty} (hr : fn.results = #[x]) [hx : Rv P Γ Ω x τ] (g : ν) (k : τ.le (σ g)) (hl : Less Ω (Ω' g)) : TE (refOwn A w0 Ωt hA) n Γ Ω (bodyPost P fn (RetO A w0 Ωt σ Ω')) .normal := fun a w hs => leaveO1 hr g k hl hs
theorem leaveON {fn : Func} {xs : List ResultVar} {τs : List Ty} {σs : ν → List Ty} (hr : fn.results = xs.toArray) (hn : (xs.length == 1) = false) [hx : RvL P Γ Ω xs τs] (g : ν) (k : LeAll τs (σs g)) (hl : Less Ω (Ω' g)) {a : Act} {w : World} (h : Stt (refOwn A w0 Ωt hA) n Γ Ω a w) : a.defers = [] ∧ ∃ v, (results fn a.tmps).run P w = .ok v w ∧ RetO A w0 Ωt (fun g => Tup (σs g)) Ω' (.returned v) w := by
  obtain ⟨vs, h1, h2, h3⟩ := hx.h (a := a) h.ty h.pv.ks
  have hll := hx.len
  have hne : vs.length ≠ 1 := by rw [h2, ← hll]; simpa using hn
  refine ⟨h.df, .tuple vs.toArray, ?_, _, g, rfl, h.aft (τ := Tup τs) hl ⟨vs, rfl, h2, h3⟩ fun A w v ⟨vs, g1, g2, g3⟩ => ⟨vs, g1, by rw [g2, k.spec.1], fun i hi => k.spec.2 i (by rw [k.spec.1]; exact hi) hi _ _ _ (g3 i (by rw [k.spec.1]; exact hi))⟩⟩
  have := results_read (P := P) (a := a) (w := w) hr h1
  rw [dif_neg (by simpa using hne)] at this
  exact this
theorem TE.retON {fn : Func} {xs : List ResultVar} {τs : List Ty} {σs : ν → List Ty} (hr : fn.results = xs.toArray) (hn : (xs.length == 1) = false) [hx : RvL P Γ Ω xs τs] (g : ν) (k : LeAll τs (σs g)) (hl : Less Ω (Ω' g)) : TE (refOwn A w0 Ωt hA) n Γ Ω (bodyPost P fn (RetO A w0 Ωt (fun g => Tup (σs g)) Ω')) .ret := fun a w hs => leaveON hr hn g k hl hs
theorem TE.endON {fn : Func} {xs : List ResultVar} {τs : List Ty} {σs : ν → List Ty} (hr : fn.results = xs.toArray) (hn : (xs.length == 1) = false) [hx : RvL P Γ Ω xs τs] (g : ν) (k : LeAll τs (σs g)) (hl : Less Ω (Ω' g)) : TE (refOwn A w0 Ωt hA) n Γ Ω (bodyPost P fn (RetO A w0 Ωt (fun g => Tup (σs g)) Ω')) .normal := fun a w hs => leaveON hr hn g k hl hs
end
end

/-! ### entering -/
section
variable {P : Program} {n : Nat} {R : Ending → World → Prop}
theorem Pok.nil {r : Ref} {w : World} : Pok r [] w := ⟨fun k ⟨e, he, _⟩ => absurd he (by simp), fun e he => absurd he (by simp), List.Pairwise.nil⟩
theorem Ty.enter {τ : Ty} {A : Nat → Prop} {w : World} {v : Value} (h : τ.p A w v) : τ.p (Pub A []) w v := τ.keep (Keep.mono fun k _ hk => ⟨hk, fun e he => absurd he (by simp)⟩) h
theorem enter0 {f : FuncId} {fn : Func} {c : Code} {A : Nat → Prop} {w : World} (hA : ∀ k, w.heap.size ≤ k → A k) (hf : P.funcs[f]? = some fn) (hb : fn.body = some c) (hn : fn.ntmps = n) (hl : Nat.ble 0 n = true) 
    (h : TC P (refOf A w hA) n Env.nil [] c (bodyPost P fn R)) : Calls P f #[] w R := by
  refine calls_of_TC (r := refOf A w hA) (args := []) hf hb hn (by simpa using hl) Pok.nil (fun t ht => ?_) (fun t ht => ?_) h
  · simp at ht
  · exact trivial
theorem enter1 {f : FuncId} {fn : Func} {c : Code} {A : Nat → Prop} {w : World} {v0 : Value} {τ0 : Ty} (hA : ∀ k, w.heap.size ≤ k → A k) (hf : P.funcs[f]? = some fn) (hb : fn.body = some c) (hn : fn.ntmps = n) (hl : Nat.ble 1 n = true) (h0 : τ0.p A w v0)
    (h : TC P (refOf A w hA) n (Env.set Env.nil 0 τ0) [] c (bodyPost P fn R)) : Calls P f #[v0] w R := by
  refine calls_of_TC (r := refOf A w hA) (args := [v0]) hf hb hn (by simpa using hl) Pok.nil (fun t ht => ?_) (fun t ht => ?_) h
  · match t, ht with
    | 0, _ => exact Ty.enter h0
  · have ht : 1 ≤ t := ht
    have n0 : ¬ t = 0 := by omega
    simp only [Env.set, n0, if_false]
    exact trivial
theorem enter2 {f : FuncId} {fn : Func} {c : Code} {A : Nat → Prop} {w : World} {v0 v1 : Value} {τ0 τ1 : Ty} (hA : ∀ k, w.heap.size ≤ k → A k) (hf : P.funcs[f]? = some fn) (hb : fn.body = some c) (hn : fn.ntmps = n) (hl : Nat.ble 2 n = true) (h0 : τ0.p A w v0) (h1 : τ1.p A w v1)
    (h : TC P (refOf A w hA) n (Env.set (Env.set Env.nil 0 τ0) 1 τ1) [] c (bodyPost P fn R)) : Calls P f #[v0, v1] w R := by
  refine calls_of_TC (r := refOf A w hA) (args := [v0, v1]) hf hb hn (by simpa using hl) Pok.nil (fun t ht => ?_) (fun t ht => ?_) h
  · match t, ht with
    | 0, _ => exact Ty.enter h0
    | 1, _ => exact Ty.enter h1
  · have ht : 2 ≤ t := ht
    have n0 : ¬ t = 0 := by omega
    have n1 : ¬ t = 1 := by omega
    simp only [Env.set, n0, n1, if_false]
    exact trivial
theorem enter3 {f : FuncId} {fn : Func} {c : Code} {A : Nat → Prop} {w : World} {v0 v1 v2 : Value} {τ0 τ1 τ2 : Ty} (hA : ∀ k, w.heap.size ≤ k → A k) (hf : P.funcs[f]? = some fn) (hb : fn.body = some c) (hn : fn.ntmps = n) (hl : Nat.ble 3 n = true) (h0 : τ0.p A w v0) (h1 : τ1.p A w v1) (h2 : τ2.p A w v2)
    (h : TC P (refOf A w hA) n (Env.set (Env.set (Env.set Env.nil 0 τ0) 1 τ1) 2 τ2) [] c (bodyPost P fn R)) : Calls P f #[v0, v1, v2] w R := by
  refine calls_of_TC (r := refOf A w hA) (args := [v0, v1, v2]) hf hb hn (by simpa using hl) Pok.nil (fun t ht => ?_) (fun t ht => ?_) h
  · match t, ht with
    | 0, _ => exact Ty.enter h0
    | 1, _ => exact Ty.enter h1
    | 2, _ => exact Ty.enter h2
  · have ht : 3 ≤ t := ht
    have n0 : ¬ t = 0 := by omega
    have n1 : ¬ t = 1 := by omega
    have n2 : ¬ t = 2 := by omega
    simp only [Env.set, n0, n1, n2, if_false]
    exact trivial
theorem enter4 {f : FuncId} {fn : Func} {c : Code} {A : Nat → Prop} {w : World} {v0 v1 v2 v3 : Value} {τ0 τ1 τ2 τ3 : Ty} (hA : ∀ k, w.heap.size ≤ k → A k) (hf : P.funcs[f]? = some fn) (hb : fn.body = some c) (hn : fn.ntmps = n) (hl : Nat.ble 4 n = true) (h0 : τ0.p A w v0) (h1 : τ1.p A w v1) (h2 : τ2.p A w v2) (h3 : τ3.p A w v3)
    (h : TC P (refOf A w hA) n (Env.set (Env.set (Env.set (Env.set Env.nil 0 τ0) 1 τ1) 2 τ2) 3 τ3) [] c (bodyPost P fn R)) : Calls P f #[v0, v1, v2, v3] w R := by
  refine calls_of_TC (r := refOf A w hA) (args := [v0, v1, v2, v3]) hf hb hn (by simpa using hl) Pok.nil (fun t ht => ?_) (fun t ht => ?_) h
  · match t, ht with
    | 0, _ => exact Ty.enter h0
    | 1, _ => exact Ty.enter h1
    | 2, _ => exact Ty.enter h2
    | 3, _ => exact Ty.enter h3
  · have ht : 4 ≤ t := ht
    have n0 : ¬ t = 0 := by omega
    have n1 : ¬ t = 1 := by omega
    have n2 : ¬ t = 2 := by omega
    have n3 : ¬ t = 3 := by omega
    simp only [Env.set, n0, n1, n2, n3, if_false]
    exact trivial
theorem enter5 {f : FuncId} {fn : Func} {c : Code} {A : Nat → Prop} {w : World} {v0 v1 v2 v3 v4 : Value} {τ0 τ1 τ2 τ3 τ4 : Ty} (hA : ∀ k, w.heap.size ≤ k → A k) (hf : P.funcs[f]? = some fn) (hb : fn.body = some c) (hn : fn.ntmps = n) (hl : Nat.ble 5 n = true) (h0 : τ0.p A w v0) (h1 : τ1.p A w v1) (h2 : τ2.p A w v2) (h3 : τ3.p A w v3) (h4 : τ4.p A w v4)
    (h : TC P (refOf A w hA) n (Env.set (Env.set (Env.set (Env.set (Env.set Env.nil 0 τ0) 1 τ1) 2 τ2) 3 τ3) 4 τ4) [] c (bodyPost P fn R)) : Calls P f #[v0, v1, v2, v3, v4] w R := by
  refine calls_of_TC (r := refOf A w hA) (args := [v0, v1, v2, v3, v4]) hf hb hn (by simpa using hl) Pok.nil (fun t ht => ?_) (fun t ht => ?_) h
  · match t, ht with
    | 0, _ => exact Ty.enter h0
    | 1, _ => exact Ty.enter h1
    | 2, _ => exact Ty.enter h2
    | 3, _ => exact Ty.enter h3
    | 4, _ => exact Ty.enter h4
  · have ht : 5 ≤ t := ht
    have n0 : ¬ t = 0 := by omega
    have n1 : ¬ t = 1 := by omega
    have n2 : ¬ t = 2 := by omega
    have n3 : ¬ t = 3 := by omega
    have n4 : ¬ t = 4 := by omega
    simp only [Env.set, n0, n1, n2, n3, n4, if_false]
    exact trivial
theorem enter6 {f : FuncId} {fn : Func} {c : Code} {A : Nat → Prop} {w : World} {v0 v1 v2 v3 v4 v5 : Value} {τ0 τ1 τ2 τ3 τ4 τ5 : Ty} (hA : ∀ k, w.heap.size ≤ k → A k) (hf : P.funcs[f]? = some fn) (hb : fn.body = some c) (hn : fn.ntmps = n) (hl : Nat.ble 6 n = true) (h0 : τ0.p A w v0) (h1 : τ1.p A w v1) (h2 : τ2.p A w v2) (h3 : τ3.p A w v3) (h4 : τ4.p A w v4) (h5 : τ5.p A w v5)
    (h : TC P (refOf A w hA) n (Env.set (Env.set (Env.set (Env.set (Env.set (Env.set Env.nil 0 τ0) 1 τ1) 2 τ2) 3 τ3) 4 τ4) 5 τ5) [] c (bodyPost P fn R)) : Calls P f #[v0, v1, v2, v3, v4, v5] w R := by
  refine calls_of_TC (r := refOf A w hA) (args := [v0, v1, v2, v3, v4, v5]) hf hb hn (by simpa using hl) Pok.nil (fun t ht => ?_) (fun t ht => ?_) h
  · match t, ht with
    | 0, _ => exact Ty.enter h0
    | 1, _ => exact Ty.enter h1
    | 2, _ => exact Ty.enter h2
    | 3, _ => exact Ty.enter h3
    | 4, _ => exact Ty.enter h4
    | 5, _ => exact Ty.enter h5
  · have ht : 6 ≤ t := ht
    have n0 : ¬ t = 0 := by omega
    have n1 : ¬ t = 1 := by omega
    have n2 : ¬ t = 2 := by omega
    have n3 : ¬ t = 3 := by omega
    have n4 : ¬ t = 4 := by omega
    have n5 : ¬ t = 5 := by omega
    simp only [Env.set, n0, n1, n2, n3, n4, n5, if_false]
    exact trivial
theorem enter7 {f : FuncId} {fn : Func} {c : Code} {A : Nat → Prop} {w : World} {v0 v1 v2 v3 v4 v5 v6 : Value} {τ0 τ1 τ2 τ3 τ4 τ5 τ6 : Ty} (hA : ∀ k, w.heap.size ≤ k → A k) (hf : P.funcs[f]? = some fn) (hb : fn.body = some c) (hn : fn.ntmps = n) (hl : Nat.ble 7 n = true) (h0 : τ0.p A w v0) (h1 : τ1.p A w v1) (h2 : τ2.p A w v2) (h3 : τ3.p A w v3) (h4 : τ4.p A w v4) (h5 : τ5.p A w v5) (h6 : τ6.p A w v6)
    (h : TC P (refOf A w hA) n (Env.set (Env.set (Env.set (Env.set (Env.set (Env.set (Env.set Env.nil 0 τ0) 1 τ1) 2 τ2) 3 τ3) 4 τ4) 5 τ5) 6 τ6) [] c (bodyPost P fn R)) : Calls P f #[v0, v1, v2, v3, v4, v5, v6] w R := by
  refine calls_of_TC (r := refOf A w hA) (args := [v0, v1, v2, v3, v4, v5, v6]) hf hb hn (by simpa using hl) Pok.nil (fun t ht => ?_) (fun t ht => ?_) h
  · match t, ht with
    | 0, _ => exact Ty.enter h0
    | 1, _ => exact Ty.enter h1
    | 2, _ => exact Ty.enter h2
    | 3, _ => exact Ty.enter h3
    | 4, _ => exact Ty.enter h4
    | 5, _ => exact Ty.enter h5
    | 6, _ => exact Ty.enter h6
  · have ht : 7 ≤ t := ht
    have n0 : ¬ t = 0 := by omega
    have n1 : ¬ t = 1 := by omega
    have n2 : ¬ t = 2 := by omega
    have n3 : ¬ t = 3 := by omega
    have n4 : ¬ t = 4 := by omega
    have n5 : ¬ t = 5 := by omega
    have n6 : ¬ t = 6 := by omega
    simp only [Env.set, n0, n1, n2, n3, n4, n5, n6, if_false]
    exact trivial
theorem enter8 {f : FuncId} {fn : Func} {c : Code} {A : Nat → Prop} {w : World} {v0 v1 v2 v3 v4 v5 v6 v7 : Value} {τ0 τ1 τ2 τ3 τ4 τ5 τ6 τ7 : Ty} (hA : ∀ k, w.heap.size ≤ k → A k) (hf : P.funcs[f]? = some fn) (hb : fn.body = some c) (hn : fn.ntmps = n) (hl : Nat.ble 8 n = true) (h0 : τ0.p A w v0) (h1 : τ1.p A w v1) (h2 : τ2.p A w v2) (h3 : τ3.p A w v3) (h4 : τ4.p A w v4) (h5 : τ5.p A w v5) (h6 : τ6.p A w v6) (h7 : τ7.p A w v7)
    (h : TC P (refOf A w hA) n (Env.set (Env.set (Env.set (Env.set (Env.set (Env.set (Env.set (Env.set Env.nil 0 τ0) 1 τ1) 2 τ2) 3 τ3) 4 τ4) 5 τ5) 6 τ6) 7 τ7) [] c (bodyPost P fn R)) : Calls P f #[v0, v1, v2, v3, v4, v5, v6, v7] w R := by
  refine calls_of_TC (r := refOf A w hA) (args := [v0, v1, v2, v3, v4, v5, v6, v7]) hf hb hn (by simpa using hl) Pok.nil (fun t ht => ?_) (fun t ht => ?_) h
  · match t, ht with
    | 0, _ => exact Ty.enter h0
    | 1, _ => exact Ty.enter h1
    | 2, _ => exact Ty.enter h2
    | 3, _ => exact Ty.enter h3
    | 4, _ => exact Ty.enter h4
    | 5, _ => exact Ty.enter h5
    | 6, _ => exact Ty.enter h6
    | 7, _ => exact Ty.enter h7
  · have ht : 8 ≤ t := ht
    have n0 : ¬ t = 0 := by omega
    have n1 : ¬ t = 1 := by omega
    have n2 : ¬ t = 2 := by omega
    have n3 : ¬ t = 3 := by omega
    have n4 : ¬ t = 4 := by omega
    have n5 : ¬ t = 5 := by omega
    have n6 : ¬ t = 6 := by omega
    have n7 : ¬ t = 7 := by omega
    simp only [Env.set, n0, n1, n2, n3, n4, n5, n6, n7, if_false]
    exact trivial
theorem enterO1 {f : FuncId} {fn : Func} {c : Code} {A : Nat → Prop} {w : World} {Ωt : List Pe} {v0 : Value} {τ0 : Ty} [hO : OwnIn A Ωt] (hA : ∀ k, w.heap.size ≤ k → A k) (hap : Apart Ωt) (hks : Pks (Pub A Ωt) Ωt w) (hf : P.funcs[f]? = some fn) (hb : fn.body = some c) (hn : fn.ntmps = n) (hl : Nat.ble 1 n = true) (h0 : τ0.p (Pub A Ωt) w v0)
    (h : TC P (refOwn A w Ωt hA) n (Env.set Env.nil 0 τ0) Ωt c (bodyPost P fn R)) : Calls P f #[v0] w R := by
  refine calls_of_TC (r := refOwn A w Ωt hA) (args := [v0]) hf hb hn (by simpa using hl) ⟨fun k hk => .inr hk, hks, hap⟩ (fun t ht => ?_) (fun t ht => ?_) h
  · match t, ht with
    | 0, _ => exact h0
  · have ht : 1 ≤ t := ht
    have n0 : ¬ t = 0 := by omega
    simp only [Env.set, n0, if_false]
    exact trivial
theorem enterO2 {f : FuncId} {fn : Func} {c : Code} {A : Nat → Prop} {w : World} {Ωt : List Pe} {v0 v1 : Value} {τ0 τ1 : Ty} [hO : OwnIn A Ωt] (hA : ∀ k, w.heap.size ≤ k → A k) (hap : Apart Ωt) (hks : Pks (Pub A Ωt) Ωt w) (hf : P.funcs[f]? = some fn) (hb : fn.body = some c) (hn : fn.ntmps = n) (hl : Nat.ble 2 n = true) (h0 : τ0.p (Pub A Ωt) w v0) (h1 : τ1.p (Pub A Ωt) w v1)
    (h : TC P (refOwn A w Ωt hA) n (Env.set (Env.set Env.nil 0 τ0) 1 τ1) Ωt c (bodyPost P fn R)) : Calls P f #[v0, v1] w R := by
  refine calls_of_TC (r := refOwn A w Ωt hA) (args := [v0, v1]) hf hb hn (by simpa using hl) ⟨fun k hk => .inr hk, hks, hap⟩ (fun t ht => ?_) (fun t ht => ?_) h
  · match t, ht with
    | 0, _ => exact h0
    | 1, _ => exact h1
  · have ht : 2 ≤ t := ht
    have n0 : ¬ t = 0 := by omega
    have n1 : ¬ t = 1 := by omega
    simp only [Env.set, n0, n1, if_false]
    exact trivial
theorem enterO3 {f : FuncId} {fn : Func} {c : Code} {A : Nat → Prop} {w : World} {Ωt : List Pe} {v0 v1 v2 : Value} {τ0 τ1 τ2 : Ty} [hO : OwnIn A Ωt] (hA : ∀ k, w.heap.size ≤ k → A k) (hap : Apart Ωt) (hks : Pks (Pub A Ωt) Ωt w) (hf : P.funcs[f]? = some fn) (hb : fn.body = some c) (hn : fn.ntmps = n) (hl : Nat.ble 3 n = true) (h0 : τ0.p (Pub A Ωt) w v0) (h1 : τ1.p (Pub A Ωt) w v1) (h2 : τ2.p (Pub A Ωt) w v2)
    (h : TC P (refOwn A w Ωt hA) n (Env.set (Env.set (Env.set Env.nil 0 τ0) 1 τ1) 2 τ2) Ωt c (bodyPost P fn R)) : Calls P f #[v0, v1, v2] w R := by
  refine calls_of_TC (r := refOwn A w Ωt hA) (args := [v0, v1, v2]) hf hb hn (by simpa using hl) ⟨fun k hk => .inr hk, hks, hap⟩ (fun t ht => ?_) (fun t ht => ?_) h
  · match t, ht with
    | 0, _ => exact h0
    | 1, _ => exact h1
    | 2, _ => exact h2
  · have ht : 3 ≤ t := ht
    have n0 : ¬ t = 0 := by omega
    have n1 : ¬ t = 1 := by omega
    have n2 : ¬ t = 2 := by omega
    simp only [Env.set, n0, n1, n2, if_false]
    exact trivial
theorem enterO4 {f : FuncId} {fn : Func} {c : Code} {A : Nat → Prop} {w : World} {Ωt : List Pe} {v0 v1 v2 v3 : Value} {τ0 τ1 τ2 τ3 : Ty} [hO : OwnIn A Ωt] (hA : ∀ k, w.heap.size ≤ k → A k) (hap : Apart Ωt) (hks : Pks (Pub A Ωt) Ωt w) (hf : P.funcs[f]? = some fn) (hb : fn.body = some c) (hn : fn.ntmps = n) (hl : Nat.ble 4 n = true) (h0 : τ0.p (Pub A Ωt) w v0) (h1 : τ1.p (Pub A Ωt) w v1) (h2 : τ2.p (Pub A Ωt) w v2) (h3 : τ3.p (Pub A Ωt) w v3)
    (h : TC P (refOwn A w Ωt hA) n (Env.set (Env.set (Env.set (Env.set Env.nil 0 τ0) 1 τ1) 2 τ2) 3 τ3) Ωt c (bodyPost P fn R)) : Calls P f #[v0, v1, v2, v3] w R := by
  refine calls_of_TC (r := refOwn A w Ωt hA) (args := [v0, v1, v2, v3]) hf hb hn (by simpa using hl) ⟨fun k hk => .inr hk, hks, hap⟩ (fun t ht => ?_) (fun t ht => ?_) h
  · match t, ht with
    | 0, _ => exact h0
    | 1, _ => exact h1
    | 2, _ => exact h2
    | 3, _ => exact h3
  · have ht : 4 ≤ t := ht
    have n0 : ¬ t = 0 := by omega
    have n1 : ¬ t = 1 := by omega
    have n2 : ¬ t = 2 := by omega
    have n3 : ¬ t = 3 := by omega
    simp only [Env.set, n0, n1, n2, n3, if_false]
    exact trivial
theorem enterO5 {f : FuncId} {fn : Func} {c : Code} {A : Nat → Prop} {w : World} {Ωt : List Pe} {v0 v1 v2 v3 v4 : Value} {τ0 τ1 τ2 τ3 τ4 : Ty} [hO : OwnIn A Ωt] (hA : ∀ k, w.heap.size ≤ k → A k) (hap : Apart Ωt) (hks : Pks (Pub A Ωt) Ωt w) (hf : P.funcs[f]? = some fn) (hb : fn.body = some c) (hn : fn.ntmps = n) (hl : Nat.ble 5 n = true) (h0 : τ0.p (Pub A Ωt) w v0) (h1 : τ1.p (Pub A Ωt) w v1) (h2 : τ2.p (Pub A Ωt) w v2) (h3 : τ3.p (Pub A Ωt) w v3) (h4 : τ4.p (Pub A Ωt) w v4)
    (h : TC P (refOwn A w Ωt hA) n (Env.set (Env.set (Env.set (Env.set (Env.set Env.nil 0 τ0) 1 τ1) 2 τ2) 3 τ3) 4 τ4) Ωt c (bodyPost P fn R)) : Calls P f #[v0, v1, v2, v3, v4] w R := by
  refine calls_of_TC (r := refOwn A w Ωt hA) (args := [v0, v1, v2, v3, v4]) hf hb hn (by simpa using hl) ⟨fun k hk => .inr hk, hks, hap⟩ (fun t ht => ?_) (fun t ht => ?_) h
  · match t, ht with
    | 0, _ => exact h0
    | 1, _ => exact h1
    | 2, _ => exact h2
    | 3, _ => exact h3
    | 4, _ => exact h4
  · have ht : 5 ≤ t := ht
    have n0 : ¬ t = 0 := by omega
    have n1 : ¬ t = 1 := by omega
    have n2 : ¬ t = 2 := by omega
    have n3 : ¬ t = 3 := by omega
    have n4 : ¬ t = 4 := by omega
    simp only [Env.set, n0, n1, n2, n3, n4, if_false]
    exact trivial
theorem enterO6 {f : FuncId} {fn : Func} {c : Code} {A : Nat → Prop} {w : World} {Ωt : List Pe} {v0 v1 v2 v3 v4 v5 : Value} {τ0 τ1 τ2 τ3 τ4 τ5 : Ty} [hO : OwnIn A Ωt] (hA : ∀ k, w.heap.size ≤ k → A k) (hap : Apart Ωt) (hks : Pks (Pub A Ωt) Ωt w) (hf : P.funcs[f]? = some fn) (hb : fn.body = some c) (hn : fn.ntmps = n) (hl : Nat.ble 6 n = true) (h0 : τ0.p (Pub A Ωt) w v0) (h1 : τ1.p (Pub A Ωt) w v1) (h2 : τ2.p (Pub A Ωt) w v2) (h3 : τ3.p (Pub A Ωt) w v3) (h4 : τ4.p (Pub A Ωt) w v4) (h5 : τ5.p (Pub A Ωt) w v5)
    (h : TC P (refOwn A w Ωt hA) n (Env.set (Env.set (Env.set (Env.set (Env.set (Env.set Env.nil 0 τ0) 1 τ1) 2 τ2) 3 τ3) 4 τ4) 5 τ5) Ωt c (bodyPost P fn R)) : Calls P f #[v0, v1, v2, v3, v4, v5] w R := by
  refine calls_of_TC (r := refOwn A w Ωt hA) (args := [v0, v1, v2, v3, v4, v5]) hf hb hn (by simpa using hl) ⟨fun k hk => .inr hk, hks, hap⟩ (fun t ht => ?_) (fun t ht => ?_) h
  · match t, ht with
    | 0, _ => exact h0
    | 1, _ => exact h1
    | 2, _ => exact h2
    | 3, _ => exact h3
    | 4, _ => exact h4
    | 5, _ => exact h5
  · have ht : 6 ≤ t := ht
    have n0 : ¬ t = 0 := by omega
    have n1 : ¬ t = 1 := by omega
    have n2 : ¬ t = 2 := by omega
    have n3 : ¬ t = 3 := by omega
    have n4 : ¬ t = 4 := by omega
    have n5 : ¬ t = 5 := by omega
    simp only [Env.set, n0, n1, n2, n3, n4, n5, if_false]
    exact trivial
end
end Go.Proofs.Ytfdmajkeihdhnaa.Tr
