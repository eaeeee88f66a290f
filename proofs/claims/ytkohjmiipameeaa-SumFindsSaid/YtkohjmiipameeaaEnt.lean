/- Entering a function, leaving it, and parting ways. Conditions: none. -/
import Derived.Test.YtkohjmiipameeaaMem
namespace Go.Proofs.Ytkohjmiipameeaa.Tr
open Go Go.RowKit
set_option linter.unusedVariables false
set_option linter.unnecessarySimpa false

section
variable {P : Program} {w : World} {n : Nat} {Q : Exit → Act → World → Prop} {R : Ending → World → Prop}

theorem TC.cond {w0 : World} {Γ : Env} {c : Operand} {x y : Code} {τ : Ty} {b : Bool} [hc : Has Γ c τ] [hb : AsB τ b]
    (h1 : b = true → TC P w0 n Γ x Q) (h2 : b = false → TC P w0 n Γ y Q) : TC P w0 n Γ (.cond c x y) Q := fun a w hw ha => by
  have e : a.eval c = .bool b := hb.le _ _ (hc.le a w fun t _ => ha.2.2 t)
  refine wp_cond_split e (fun hb => h1 hb a w hw ha) (fun hb => h2 hb a w hw ha)

/-- two ways that meet again -/
theorem TC.seqJ {γ : Type} {w0 : World} {Γ : Env} {x y : Code} (Δ : γ → Env) (h : TC P w0 n Γ x (Exit.then (fun a w => ∃ g, Grow w0.heap.size w0 w ∧ (Δ g).ok n a w) Q)) (k : ∀ g, TC P w0 n (Δ g) y Q) :
    TC P w0 n Γ (.seq x y) Q := TC.seq fun a w hw ha => wp_mono (h a w hw ha) fun e a' w' hq => by
  cases e with
  | normal => obtain ⟨g, h1, h2⟩ := hq; exact k g a' w' h1 h2
  | _ => exact hq
theorem TE.join {γ : Type} {w0 : World} {Γ : Env} {Δ : γ → Env} (g : γ) (h : Γ.le (Δ g)) : TE w0 n Γ (Exit.then (fun a w => ∃ g, Grow w0.heap.size w0 w ∧ (Δ g).ok n a w) Q) .normal :=
  fun _ _ hw ha => ⟨g, hw, ha.le h⟩

/-- a fact that a slot's type bears -/
theorem TC.fact {w0 : World} {Γ : Env} {c : Code} {p : Prop} (t : Tmp) {τ : Ty} [h : Has Γ (.tmp t) τ] (hp : ∀ w v, τ.p w v → p) (k : p → TC P w0 n Γ c Q) : TC P w0 n Γ c Q :=
  fun a w hw ha => k (hp w _ (h.at w _ (ha.2.2 t))) a w hw ha
/-- a slot seen otherwise -/
theorem TC.see {w0 : World} {Γ : Env} {c : Code} (t : Tmp) {τ : Ty} (σ : Ty) [h : Has Γ (.tmp t) τ] (hp : τ.le σ) (k : TC P w0 n (Γ.set t σ) c Q) : TC P w0 n Γ c Q :=
  fun a w hw ha => k a w hw (ha.le (Env.le_set (h.at.trans hp) (Env.le.refl _)))
theorem TE.see {w0 : World} {Γ : Env} {e : Exit} (t : Tmp) {τ : Ty} (σ : Ty) [h : Has Γ (.tmp t) τ] (hp : τ.le σ) (k : TE w0 n (Γ.set t σ) Q e) : TE w0 n Γ Q e :=
  fun a w hw ha => k a w hw (ha.le (Env.le_set (h.at.trans hp) (Env.le.refl _)))

theorem Has.leAt {Γ : Env} {t : Tmp} {τ σ : Ty} [h : Has Γ (.tmp t) τ] (k : τ.le σ) : (Γ t).le σ := h.at.trans k
theorem le_eq {τ σ : Ty} (h : τ = σ) : τ.le σ := h ▸ Ty.le.refl _
theorem I_le {m n : Int} (h : m = n) : (I m).le (I n) := h ▸ Ty.le.refl _
theorem B_le {m n : Bool} (h : m = n) : (B m).le (B n) := h ▸ Ty.le.refl _
theorem U8_le {m n : UInt8} (h : m = n) : (U8 m).le (U8 n) := h ▸ Ty.le.refl _
theorem U16_le {m n : UInt16} (h : m = n) : (U16 m).le (U16 n) := h ▸ Ty.le.refl _
theorem U32_le {m n : UInt32} (h : m = n) : (U32 m).le (U32 n) := h ▸ Ty.le.refl _
theorem U64_le {m n : UInt64} (h : m = n) : (U64 m).le (U64 n) := h ▸ Ty.le.refl _
theorem D_le {α : Type} [Dat α] {A : Nat → Prop} {x y : α} (h : x = y) : (D A x).le (D A y) := h ▸ Ty.le.refl _
theorem D_I {A : Nat → Prop} {n : Int} : (D A n).le (I n) := (inferInstance : AsI (D A n) n).le
theorem D_B {A : Nat → Prop} {n : Bool} : (D A n).le (B n) := (inferInstance : AsB (D A n) n).le
theorem D_U8 {A : Nat → Prop} {n : UInt8} : (D A n).le (U8 n) := (inferInstance : AsU8 (D A n) n).le
theorem D_U64 {A : Nat → Prop} {n : UInt64} : (D A n).le (U64 n) := (inferInstance : AsU64 (D A n) n).le
theorem I_D {A : Nat → Prop} {n : Int} (h1 : -9223372036854775808 ≤ n) (h2 : n ≤ 9223372036854775807) : (I n).le (D A n) := fun _ v h => by
  have h : v = .int .i64 n := h
  subst h
  exact ⟨[_], ⟨rfl, h1, h2⟩, rfl⟩
theorem U8_D {A : Nat → Prop} {n : UInt8} : (U8 n).le (D A n) := fun _ v h => by
  have h : v = .int .u8 n.toNat := h
  subst h
  exact ⟨[_], rfl, rfl⟩
theorem U16_D {A : Nat → Prop} {n : UInt16} : (U16 n).le (D A n) := fun _ v h => by
  have h : v = .int .u16 n.toNat := h
  subst h
  exact ⟨[_], rfl, rfl⟩
theorem U64_D {A : Nat → Prop} {n : UInt64} : (U64 n).le (D A n) := fun _ v h => by
  have h : v = .int .u64 n.toNat := h
  subst h
  exact ⟨[_], rfl, rfl⟩
theorem B_D {A : Nat → Prop} {n : Bool} : (B n).le (D A n) := fun _ v h => by
  have h : v = .bool n := h
  subst h
  exact ⟨[_], rfl, rfl⟩

/-! ### leaving -/
theorem TE.ret1 {w0 : World} {Γ : Env} {fn : Func} {t : Tmp} {τ σ : Ty} (hr : fn.results = #[.tmp t]) [h : Has Γ (.tmp t) τ] (k : τ.le σ) : TE w0 n Γ (bodyPost P fn (Ret w0 σ)) .ret := fun a w hw ha =>
  ⟨ha.2.1, _, results_tmp hr _ _ _, _, rfl, hw, k _ _ (h.at _ _ (ha.2.2 t))⟩
theorem TE.end1 {w0 : World} {Γ : Env} {fn : Func} {t : Tmp} {τ σ : Ty} (hr : fn.results = #[.tmp t]) [h : Has Γ (.tmp t) τ] (k : τ.le σ) : TE w0 n Γ (bodyPost P fn (Ret w0 σ)) .normal := fun a w hw ha =>
  ⟨ha.2.1, _, results_tmp hr _ _ _, _, rfl, hw, k _ _ (h.at _ _ (ha.2.2 t))⟩
theorem TE.ret0 {w0 : World} {Γ : Env} {fn : Func} (hr : fn.results = #[]) : TE w0 n Γ (bodyPost P fn (Ret w0 (Tup []))) .ret := fun a w hw ha =>
  ⟨ha.2.1, _, results_none hr _ _ _, _, rfl, hw, [], rfl, rfl, fun _ h => absurd h (by simp)⟩
theorem TE.end0 {w0 : World} {Γ : Env} {fn : Func} (hr : fn.results = #[]) : TE w0 n Γ (bodyPost P fn (Ret w0 (Tup []))) .normal := fun a w hw ha =>
  ⟨ha.2.1, _, results_none hr _ _ _, _, rfl, hw, [], rfl, rfl, fun _ h => absurd h (by simp)⟩
theorem tup2 {w : World} {u v : Value} {σ ρ : Ty} (h : σ.p w u) (k : ρ.p w v) : (Tup [σ, ρ]).p w (.tuple #[u, v]) :=
  ⟨[u, v], rfl, rfl, fun i hi => by
    match i, hi with
    | 0, _ => exact h
    | 1, _ => exact k⟩
theorem tup3 {w : World} {u v x : Value} {σ ρ π : Ty} (h : σ.p w u) (k : ρ.p w v) (l : π.p w x) : (Tup [σ, ρ, π]).p w (.tuple #[u, v, x]) :=
  ⟨[u, v, x], rfl, rfl, fun i hi => by
    match i, hi with
    | 0, _ => exact h
    | 1, _ => exact k
    | 2, _ => exact l⟩
theorem TE.ret2 {w0 : World} {Γ : Env} {fn : Func} {t u : Tmp} {τ υ σ ρ : Ty} (hr : fn.results = #[.tmp t, .tmp u]) [h : Has Γ (.tmp t) τ] [h' : Has Γ (.tmp u) υ] (k : τ.le σ) (k' : υ.le ρ) : TE w0 n Γ (bodyPost P fn (Ret w0 (Tup [σ, ρ]))) .ret := fun a w hw ha =>
  ⟨ha.2.1, _, results_tmp2 hr _ _ _, _, rfl, hw, tup2 (k _ _ (h.at _ _ (ha.2.2 t))) (k' _ _ (h'.at _ _ (ha.2.2 u)))⟩
theorem TE.ret3 {w0 : World} {Γ : Env} {fn : Func} {t u s : Tmp} {τ υ φ σ ρ π : Ty} (hr : fn.results = #[.tmp t, .tmp u, .tmp s]) [h : Has Γ (.tmp t) τ] [h' : Has Γ (.tmp u) υ] [h'' : Has Γ (.tmp s) φ] (k : τ.le σ) (k' : υ.le ρ) (k'' : φ.le π) :
    TE w0 n Γ (bodyPost P fn (Ret w0 (Tup [σ, ρ, π]))) .ret := fun a w hw ha =>
  ⟨ha.2.1, _, by simp [results, hr], _, rfl, hw, tup3 (k _ _ (h.at _ _ (ha.2.2 t))) (k' _ _ (h'.at _ _ (ha.2.2 u))) (k'' _ _ (h''.at _ _ (ha.2.2 s)))⟩

/-! ### entering -/
theorem enter0 {f : FuncId} {fn : Func} {c : Code} (hf : P.funcs[f]? = some fn) (hb : fn.body = some c) (hn : fn.ntmps = n) (hl : Nat.ble 0 n = true) 
    (h : TC P w n Env.nil c (bodyPost P fn R)) : Calls P f #[] w R := by
  refine calls_of_TC (args := []) hf hb hn (by simpa using hl) (fun t ht => ?_) (fun t ht => ?_) h
  · simp at ht
  · exact trivial
theorem enter1 {f : FuncId} {fn : Func} {c : Code} {v0 : Value} {τ0 : Ty} (hf : P.funcs[f]? = some fn) (hb : fn.body = some c) (hn : fn.ntmps = n) (hl : Nat.ble 1 n = true) (h0 : τ0.p w v0)
    (h : TC P w n (Env.set Env.nil 0 τ0) c (bodyPost P fn R)) : Calls P f #[v0] w R := by
  refine calls_of_TC (args := [v0]) hf hb hn (by simpa using hl) (fun t ht => ?_) (fun t ht => ?_) h
  · match t, ht with
    | 0, _ => simpa [Env.set] using h0
  · have ht : 1 ≤ t := ht
    have n0 : ¬ t = 0 := by omega
    simp only [Env.set, n0, if_false]
    exact trivial
theorem enter2 {f : FuncId} {fn : Func} {c : Code} {v0 v1 : Value} {τ0 τ1 : Ty} (hf : P.funcs[f]? = some fn) (hb : fn.body = some c) (hn : fn.ntmps = n) (hl : Nat.ble 2 n = true) (h0 : τ0.p w v0) (h1 : τ1.p w v1)
    (h : TC P w n (Env.set (Env.set Env.nil 0 τ0) 1 τ1) c (bodyPost P fn R)) : Calls P f #[v0, v1] w R := by
  refine calls_of_TC (args := [v0, v1]) hf hb hn (by simpa using hl) (fun t ht => ?_) (fun t ht => ?_) h
  · match t, ht with
    | 0, _ => simpa [Env.set] using h0
    | 1, _ => simpa [Env.set] using h1
  · have ht : 2 ≤ t := ht
    have n0 : ¬ t = 0 := by omega
    have n1 : ¬ t = 1 := by omega
    simp only [Env.set, n0, n1, if_false]
    exact trivial
theorem enter3 {f : FuncId} {fn : Func} {c : Code} {v0 v1 v2 : Value} {τ0 τ1 τ2 : Ty} (hf : P.funcs[f]? = some fn) (hb : fn.body = some c) (hn : fn.ntmps = n) (hl : Nat.ble 3 n = true) (h0 : τ0.p w v0) (h1 : τ1.p w v1) (h2 : τ2.p w v2)
    (h : TC P w n (Env.set (Env.set (Env.set Env.nil 0 τ0) 1 τ1) 2 τ2) c (bodyPost P fn R)) : Calls P f #[v0, v1, v2] w R := by
  refine calls_of_TC (args := [v0, v1, v2]) hf hb hn (by simpa using hl) (fun t ht => ?_) (fun t ht => ?_) h
  · match t, ht with
    | 0, _ => simpa [Env.set] using h0
    | 1, _ => simpa [Env.set] using h1
    | 2, _ => simpa [Env.set] using h2
  · have ht : 3 ≤ t := ht
    have n0 : ¬ t = 0 := by omega
    have n1 : ¬ t = 1 := by omega
    have n2 : ¬ t = 2 := by omega
    simp only [Env.set, n0, n1, n2, if_false]
    exact trivial
theorem enter4 {f : FuncId} {fn : Func} {c : Code} {v0 v1 v2 v3 : Value} {τ0 τ1 τ2 τ3 : Ty} (hf : P.funcs[f]? = some fn) (hb : fn.body = some c) (hn : fn.ntmps = n) (hl : Nat.ble 4 n = true) (h0 : τ0.p w v0) (h1 : τ1.p w v1) (h2 : τ2.p w v2) (h3 : τ3.p w v3)
    (h : TC P w n (Env.set (Env.set (Env.set (Env.set Env.nil 0 τ0) 1 τ1) 2 τ2) 3 τ3) c (bodyPost P fn R)) : Calls P f #[v0, v1, v2, v3] w R := by
  refine calls_of_TC (args := [v0, v1, v2, v3]) hf hb hn (by simpa using hl) (fun t ht => ?_) (fun t ht => ?_) h
  · match t, ht with
    | 0, _ => simpa [Env.set] using h0
    | 1, _ => simpa [Env.set] using h1
    | 2, _ => simpa [Env.set] using h2
    | 3, _ => simpa [Env.set] using h3
  · have ht : 4 ≤ t := ht
    have n0 : ¬ t = 0 := by omega
    have n1 : ¬ t = 1 := by omega
    have n2 : ¬ t = 2 := by omega
    have n3 : ¬ t = 3 := by omega
    simp only [Env.set, n0, n1, n2, n3, if_false]
    exact trivial
theorem enter5 {f : FuncId} {fn : Func} {c : Code} {v0 v1 v2 v3 v4 : Value} {τ0 τ1 τ2 τ3 τ4 : Ty} (hf : P.funcs[f]? = some fn) (hb : fn.body = some c) (hn : fn.ntmps = n) (hl : Nat.ble 5 n = true) (h0 : τ0.p w v0) (h1 : τ1.p w v1) (h2 : τ2.p w v2) (h3 : τ3.p w v3) (h4 : τ4.p w v4)
    (h : TC P w n (Env.set (Env.set (Env.set (Env.set (Env.set Env.nil 0 τ0) 1 τ1) 2 τ2) 3 τ3) 4 τ4) c (bodyPost P fn R)) : Calls P f #[v0, v1, v2, v3, v4] w R := by
  refine calls_of_TC (args := [v0, v1, v2, v3, v4]) hf hb hn (by simpa using hl) (fun t ht => ?_) (fun t ht => ?_) h
  · match t, ht with
    | 0, _ => simpa [Env.set] using h0
    | 1, _ => simpa [Env.set] using h1
    | 2, _ => simpa [Env.set] using h2
    | 3, _ => simpa [Env.set] using h3
    | 4, _ => simpa [Env.set] using h4
  · have ht : 5 ≤ t := ht
    have n0 : ¬ t = 0 := by omega
    have n1 : ¬ t = 1 := by omega
    have n2 : ¬ t = 2 := by omega
    have n3 : ¬ t = 3 := by omega
    have n4 : ¬ t = 4 := by omega
    simp only [Env.set, n0, n1, n2, n3, n4, if_false]
    exact trivial
theorem enter6 {f : FuncId} {fn : Func} {c : Code} {v0 v1 v2 v3 v4 v5 : Value} {τ0 τ1 τ2 τ3 τ4 τ5 : Ty} (hf : P.funcs[f]? = some fn) (hb : fn.body = some c) (hn : fn.ntmps = n) (hl : Nat.ble 6 n = true) (h0 : τ0.p w v0) (h1 : τ1.p w v1) (h2 : τ2.p w v2) (h3 : τ3.p w v3) (h4 : τ4.p w v4) (h5 : τ5.p w v5)
    (h : TC P w n (Env.set (Env.set (Env.set (Env.set (Env.set (Env.set Env.nil 0 τ0) 1 τ1) 2 τ2) 3 τ3) 4 τ4) 5 τ5) c (bodyPost P fn R)) : Calls P f #[v0, v1, v2, v3, v4, v5] w R := by
  refine calls_of_TC (args := [v0, v1, v2, v3, v4, v5]) hf hb hn (by simpa using hl) (fun t ht => ?_) (fun t ht => ?_) h
  · match t, ht with
    | 0, _ => simpa [Env.set] using h0
    | 1, _ => simpa [Env.set] using h1
    | 2, _ => simpa [Env.set] using h2
    | 3, _ => simpa [Env.set] using h3
    | 4, _ => simpa [Env.set] using h4
    | 5, _ => simpa [Env.set] using h5
  · have ht : 6 ≤ t := ht
    have n0 : ¬ t = 0 := by omega
    have n1 : ¬ t = 1 := by omega
    have n2 : ¬ t = 2 := by omega
    have n3 : ¬ t = 3 := by omega
    have n4 : ¬ t = 4 := by omega
    have n5 : ¬ t = 5 := by omega
    simp only [Env.set, n0, n1, n2, n3, n4, n5, if_false]
    exact trivial
end
end Go.Proofs.Ytkohjmiipameeaa.Tr
