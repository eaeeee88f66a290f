/- A map of the function's own whose keys are ints and whose values are empty structs: made, put into, asked, counted. While it is held the reference is laid anew at each put. Conditions: none. -/
import Derived.Test.YtfdmajkeihdhnaaNx
import Derived.MapKept
namespace Go.Proofs.Ytfdmajkeihdhnaa.Tr
open Go Go.RowKit Go.MapKept
set_option linter.unusedVariables false
set_option linter.unnecessarySimpa false
set_option linter.unusedSimpArgs false

def iKey (k : Int) : Value := .int .i64 k
/-- the map at N has just the keys of M -/
def MapIs (w : World) (N : Nat) (M : List Int) : Prop :=
  ∃ es clock, w.heap[N]? = some (.map es clock) ∧ es.toList.map (·.key) = M.map iKey ∧ ∀ e ∈ es.toList, e.val = .agg #[]
theorem MapIs.lt {w : World} {N : Nat} {M : List Int} (h : MapIs w N M) : N < w.heap.size := by
  obtain ⟨es, c, h, -⟩ := h
  rcases Nat.lt_or_ge N w.heap.size with h1 | h1
  · exact h1
  · rw [Array.getElem?_eq_none h1] at h; cases h
/-- a reference behind one at whose time the map was not there -/
structure Ep (r0 : Ref) (N : Nat) (M : List Int) (r : Ref) : Prop where
  a : ∀ k, r.A k ↔ (r0.A k ∧ k ≠ N)
  sub : ∀ k, r.S k → r0.w.heap.size ≤ k ∨ r0.S k
  mt : Mut r0.S r0.w r.w
  op : Opens r
  nS : ¬ r.S N
  new : r0.w.heap.size ≤ N
  mp : MapIs r.w N M
  rh : r.ρ = r0.ρ
  dq : r.ds = r0.ds
theorem Ep.cur {r0 r : Ref} {N : Nat} {M : List Int} {n : Nat} {Γ : Env} {Ω : List Pe} {a : Act} {w : World} (h : Ep r0 N M r) (s : Stt r n Γ Ω a w) : MapIs w N M := by
  obtain ⟨es, c, h1, h2, h3⟩ := h.mp
  exact ⟨es, c, by rw [s.mu.same N h.mp.lt h.nS]; exact h1, h2, h3⟩
theorem Ep.nOwn {r0 r : Ref} {N : Nat} {M : List Int} {n : Nat} {Γ : Env} {Ω : List Pe} {a : Act} {w : World} (h : Ep r0 N M r) (s : Stt r n Γ Ω a w) : ¬ Own Ω N := fun ho => by
  rcases s.pv.own N ho with h1 | h1
  · have := h.mp.lt; omega
  · exact h.nS h1
theorem Ep.back {r0 r : Ref} {N : Nat} {M : List Int} {n : Nat} {Γ : Env} {Ω : List Pe} {a : Act} {w : World} (h : Ep r0 N M r) (s : Stt r n Γ Ω a w) : Stt r0 n Γ Ω a w := by
  have hk : Keep (Pub r.A Ω) (Pub r0.A Ω) w w := Keep.mono fun k _ hk => Pub_own.2 ⟨((h.a k).1 (Pub_own.1 hk).1).1, (Pub_own.1 hk).2⟩
  refine ⟨s.sz, s.df.trans h.dq, ⟨s.mu.os.trans h.mt.os, s.mu.tape.trans h.mt.tape, s.mu.output.trans h.mt.output, Nat.le_trans h.mt.size s.mu.size, fun k hk hs => ?_⟩, fun t => (Γ t).keep hk (s.ty t), ⟨fun k hk => ?_, s.pv.ks.keep hk fun j _ _ => SameCells.refl _, s.pv.ap⟩⟩
  · rw [s.mu.same k (Nat.lt_of_lt_of_le hk h.mt.size) (fun hS => by rcases h.sub k hS with h1 | h1; omega; exact hs h1)]
    exact h.mt.same k hk hs
  · rcases s.pv.own k hk with h1 | h1
    · exact .inl (Nat.le_trans h.mt.size h1)
    · exact h.sub k h1

section rules
variable {P : Program} {r0 r : Ref} {n : Nat} {Γ : Env} {Ω : List Pe} {Q : Exit → Act → World → Prop} {N : Nat} {M : List Int}
theorem TC.mapBack {c : Code} (h : Ep r0 N M r) (k : TC P r0 n Γ Ω c Q) : TC P r n Γ Ω c Q := fun a w hs => by rw [h.rh]; exact k a w (h.back hs)
theorem TE.mapBack {e : Exit} (h : Ep r0 N M r) (k : TE r0 n Γ Ω Q e) : TE r n Γ Ω Q e := fun a w hs => k a w (h.back hs)
/-- where ways meet again while the map is held -/
def CutM {σ ν : Type} (r0 : Ref) (N : Nat) (n : Nat) (p : σ → Prop) (Mf : σ → List Int) (Δ : σ → ν → Env) (J : σ → ν → List Pe) (Q : Exit → Act → World → Prop) : Exit → Act → World → Prop
  | .normal, a, w => ∃ s m r, p s ∧ Ep r0 N (Mf s) r ∧ Stt r n (Δ s m) (J s m) a w
  | e, a, w => Q e a w
theorem TC.cutM {σ ν : Type} {c : Code} (h0 : Ep r0 N M r) (p : σ → Prop) (Mf : σ → List Int) (Δ : σ → ν → Env) (J : σ → ν → List Pe) (h : TC P r n Γ Ω c (CutM r0 N n p Mf Δ J Q)) (k : ∀ s m, p s → ∀ r, Ep r0 N (Mf s) r → TE r n (Δ s m) (J s m) Q .normal) : TC P r n Γ Ω c Q := fun a w hs => wpIn_mono (h a w hs) fun e a' w' hq => by
  cases e with
  | normal => obtain ⟨s, m, r, h1, h2, h3⟩ := hq; exact k s m h1 r h2 a' w' h3
  | _ => exact hq
theorem TE.cutM {σ ν : Type} {p : σ → Prop} {Mf : σ → List Int} {Δ : σ → ν → Env} {J : σ → ν → List Pe} (h0 : Ep r0 N M r) (s : σ) (m : ν) (hp : p s) (hM : M = Mf s) (h : Γ.le (Δ s m)) (j : Less Ω (J s m)) : TE r n Γ Ω (CutM r0 N n p Mf Δ J Q) .normal :=
  fun _ _ hs => ⟨s, m, r, hp, hM ▸ h0, (hs.le h).less j⟩
theorem TE.cutM_ret {σ ν : Type} {p : σ → Prop} {Mf : σ → List Int} {Δ : σ → ν → Env} {J : σ → ν → List Pe} (h : TE r n Γ Ω Q .ret) : TE r n Γ Ω (CutM r0 N n p Mf Δ J Q) .ret := h
/-- a loop while the map is held -/
theorem TC.loopM {σ ε ν : Type} {f : σ → Option (σ ⊕ ε)} {s0 : σ} {e : ε} {c : Code} (hl : loopO f s0 = some e) (h00 : Ep r0 N M r) (Mf : σ → List Int) (I : σ → ν → Env) (J : σ → ν → List Pe) (m0 : ν) (hM : M = Mf s0) (h0 : Γ.le (I s0 m0)) (j0 : Less Ω (J s0 m0))
    (round : ∀ s m x, f s = some x → (∀ e', x = .inr e' → e' = e) → ∀ r, Ep r0 N (Mf s) r → TC P r n (I s m) (J s m) c (Exit.then (fun a w => ∃ s' m' r, x = .inl s' ∧ Ep r0 N (Mf s') r ∧ Stt r n (I s' m') (J s' m') a w) Q)) : TC P r n Γ Ω (.loop c) Q := by
  intro a w hs b k cs hro hb hr
  have key : ∀ (m : Nat) (s : σ) (v : ν) (r : Ref) a w, loopN f m s = some e → Ep r0 N (Mf s) r → Stt r n (I s v) (J s v) a w →
      ∃ e a' w', Q e a' w' ∧ ArrivesIn (Machine.fenced P (FR none)) P (lone (b.atR a (.code c :: .inLoop c :: k)) cs w) b k cs e a' w' := by
    intro m
    induction m with
    | zero => intro s v r a w hg; cases hg
    | succ m ih =>
      intro s v r a w hg hE hI
      unfold loopN at hg
      cases hf : f s with
      | none => rw [hf] at hg; cases hg
      | some x =>
        rw [hf] at hg
        obtain ⟨ex, a₁, w₁, hq, harr⟩ := round s v x hf (fun e' h => by subst h; injection hg) r hE a w hI b (.inLoop c :: k) cs (by rw [hE.rh, ← h00.rh]; exact hro) trivial (fun d hd => by cases hd)
        cases ex with
        | normal =>
          obtain ⟨s', m', r', hx, hE', hI₁⟩ := hq
          subst hx
          obtain ⟨e₂, a₂, w₂, hq₂, harr₂⟩ := ih s' m' r' a₁ w₁ hg hE' hI₁
          exact ⟨e₂, a₂, w₂, hq₂, .of_steps (StepsIn.trans harr (.one (fenced_calm (F := FR none) (n := 0) trivial (fun d hd => by cases hd) rfl) stepR_inLoop)) harr₂⟩
        | exit id => exact ⟨_, a₁, w₁, hq, .pass (x := .inLoop c) rfl (fun _ _ => .inl (by simp)) harr⟩
        | goto l => exact ⟨_, a₁, w₁, hq, .pass (x := .inLoop c) rfl (fun _ _ => .inl (by simp)) harr⟩
        | ret => exact ⟨_, a₁, w₁, hq, .pass (x := .inLoop c) rfl (fun _ _ => .inl (by simp)) harr⟩
        | panic ch => exact ⟨_, a₁, w₁, hq, .pass (x := .inLoop c) rfl (fun _ _ => .inl (by simp)) harr⟩
        | outgrown => exact ⟨_, a₁, w₁, hq, .pass (x := .inLoop c) rfl (fun _ _ => .inl (by simp)) harr⟩
  obtain ⟨e', a', w', hq, harr⟩ := key _ s0 m0 r a w hl (hM ▸ h00) ((hs.le h0).less j0)
  exact ⟨e', a', w', hq, .of_steps (.one (fenced_calm (F := FR r.ρ) (n := 0) trivial (fun d hd => by cases hd) rfl) stepR_loop) harr⟩
theorem TE.backM {σ ε ν : Type} {Mf : σ → List Int} {I : σ → ν → Env} {J : σ → ν → List Pe} {x : σ ⊕ ε} (h0 : Ep r0 N M r) (s' : σ) (m' : ν) (hx : x = .inl s') (hM : M = Mf s') (h : Γ.le (I s' m')) (j : Less Ω (J s' m')) :
    TE r n Γ Ω (Exit.then (fun a w => ∃ s' m' r, x = .inl s' ∧ Ep r0 N (Mf s') r ∧ Stt r n (I s' m') (J s' m') a w) Q) .normal := fun _ _ hs => ⟨s', m', r, hx, hM ▸ h0, (hs.le h).less j⟩
end rules

/-- a key put among others -/
def putM (M : List Int) (k : Int) : List Int := if k ∈ M then M else M ++ [k]
def MapT (N : Nat) : Ty := Ex (.map (some N))
def EmpT : Ty := Ex (.agg #[])

/-- the world's map set anew: what is not the map stays -/
theorem Ep.put {r0 r : Ref} {N : Nat} {M M' : List Int} {n : Nat} {Γ : Env} {Ω : List Pe} {a : Act} {w : World} {es : Array MapEntry} {c : Nat} (h : Ep r0 N M r) (s : Stt r n Γ Ω a w)
    (hm : MapIs { w with heap := w.heap.setIfInBounds N (.map es c) } N M') : ∃ r', Ep r0 N M' r' ∧ Stt r' n Γ Ω a { w with heap := w.heap.setIfInBounds N (.map es c) } := by
  have hno := h.nOwn s
  have hlt : N < w.heap.size := (h.cur s).lt
  have hsame : ∀ k, k ≠ N → ({ w with heap := w.heap.setIfInBounds N (.map es c) } : World).heap[k]? = w.heap[k]? := fun k hk => by
    show (w.heap.setIfInBounds N _)[k]? = _
    rw [Array.getElem?_setIfInBounds_ne (Ne.symm hk)]
  have hsz : ({ w with heap := w.heap.setIfInBounds N (.map es c) } : World).heap.size = w.heap.size := by simp
  have hA : ∀ k, Pub r.A Ω k → k ≠ N := fun k hk => ((h.a k).1 (Pub_own.1 hk).1).2
  have hin : ∀ k, Own Ω k → k ≠ N := fun k hk e => hno (e ▸ hk)
  have hkeep : Keep (Pub r.A Ω) (Pub r.A Ω) w { w with heap := w.heap.setIfInBounds N (.map es c) } := ⟨by rw [hsz]; exact Nat.le_refl _, fun k _ hk => ⟨hk, by rw [hsame k (hA k hk)]; exact SameCells.refl _⟩⟩
  refine ⟨⟨{ w with heap := w.heap.setIfInBounds N (.map es c) }, r.A, Own Ω, fun k hk => r.up k (Nat.le_trans s.mu.size (by rw [← hsz]; exact hk)), r.ρ, r.ds⟩, ⟨h.a, fun k hk => ?_, ?_, ⟨fun k hk => ?_⟩, hno, h.new, hm, h.rh, h.dq⟩, ⟨s.sz, s.df, Mut.refl _ _, fun t => (Γ t).keep hkeep (s.ty t), ⟨fun k hk => .inr hk, s.pv.ks.keep hkeep fun j hj ho => by rw [hsame j (hin j ho)]; exact SameCells.refl _, s.pv.ap⟩⟩⟩
  · rcases s.pv.own k hk with h1 | h1
    · exact .inl (Nat.le_trans h.mt.size h1)
    · exact h.sub k h1
  · have hb := (h.back s).mu
    refine ⟨hb.os, hb.tape, hb.output, Nat.le_trans hb.size (by rw [hsz]; exact Nat.le_refl _), fun k hk hS => ?_⟩
    rw [hsame k (fun e => by have := h.new; omega)]
    exact hb.same k hk hS
  · rcases hk with hk | hk
    · exact r.up k (Nat.le_trans s.mu.size (by rw [← hsz]; exact hk))
    · exact h.op.h k (s.pv.own k hk)

section ops
variable {P : Program} {r0 r : Ref} {n : Nat} {Γ : Env} {Ω : List Pe} {Q : Exit → Act → World → Prop} {N : Nat} {M : List Int} {ops : Array Oper} {k : Nat} {rest : List Oper}
variable {t kt et ty : TypeId} {d : Tmp} {pos : String} {aft : Array Edge}
class TMap (P : Program) (t : TypeId) (kt et : outParam TypeId) : Prop where
  h : P.underlying t = some (.map kt et)
  k : P.underlying kt = some (.int .i64)
  z : ∃ ti z, P.info? et = some ti ∧ ti.zero = some z ∧ z = .agg #[]
theorem TS.step {o : Oper} {a : Act} {w w' : World} {v : Value} (hg : o.guard = none) (hrun : (execOp a.eval o).run P w = .ok (.value v) w')
    (hl : ∀ j, (o :: rest)[j]? = ops[k + j]?) {ρ : Option Nat} (hk : wpOpsIn (FR ρ) 0 P ops Q (List.range' (k + 1) rest.length) (a.put o.dst v) w') : wpOpsIn (FR ρ) 0 P ops Q (List.range' k (o :: rest).length) a w := by
  have h0 : ops[k]? = some o := by simpa using (hl 0).symm
  simp only [List.length_cons, List.range'_succ]
  rw [wpOpsIn_cons]
  unfold wpOpIn
  simp only [h0, Region.wanted, hg, if_true]
  have hn : ∀ c, o.op ≠ .defer c := fun c hc => by rcases run_defer (ρ := a.eval) (P := P) (w := w) hc with ⟨d, w', e⟩ | ⟨x, w', e⟩ <;> rw [e] at hrun <;> cases hrun
  refine ⟨fun _ _ => trivial, ?_⟩
  rw [Oper.semAt_eq _ _ _ hn, hrun]; exact hk
theorem TS.rest_l {o : Oper} (hl : ∀ j, (o :: rest)[j]? = ops[k + j]?) : ∀ j, rest[j]? = ops[k + 1 + j]? := fun j => by have := hl (j + 1); simpa [Nat.add_assoc, Nat.add_comm 1 j] using this

theorem TS.makeMapAux {hint : Option Operand} [op : Opens r0] (hd : Nat.blt d n = true)
    (hrun : ∀ a w, Stt r0 n Γ Ω a w → (execOp a.eval ⟨some d, .makeMap t hint, ty, pos, aft, none⟩).run P w = .ok (.value (.map (some w.heap.size))) (w.alloc (.map #[] 0)))
    (hk : ∀ N r, Ep r0 N [] r → TS P r n ops rest (k + 1) (Γ.set d (MapT N)) Ω Q) : TS P r0 n ops (⟨some d, .makeMap t hint, ty, pos, aft, none⟩ :: rest) k Γ Ω Q := fun hl a w hs => by
  refine TS.step rfl (hrun a w hs) hl ?_
  have hown : ∀ k, Own Ω k → k < w.heap.size := fun k hk => hs.pv.ks.lt hk
  have hh : ∀ k, k < w.heap.size → (w.alloc (.map #[] 0)).heap[k]? = w.heap[k]? := (heap_alloc w _).2
  have hsz : (w.alloc (.map #[] 0)).heap.size = w.heap.size + 1 := World.size_alloc _ _
  have hkeep : Keep (Pub r0.A Ω) (Pub (fun k => r0.A k ∧ k ≠ w.heap.size) Ω) w (w.alloc (.map #[] 0)) := ⟨by omega, fun k hk hp => ⟨Pub_own.2 ⟨⟨(Pub_own.1 hp).1, by omega⟩, (Pub_own.1 hp).2⟩, by rw [hh k hk]; exact SameCells.refl _⟩⟩
  refine hk w.heap.size ⟨w.alloc (.map #[] 0), fun k => r0.A k ∧ k ≠ w.heap.size, Own Ω, fun k hk => ⟨r0.up k (by have := hs.mu.size; omega), by omega⟩, r0.ρ, r0.ds⟩ ⟨fun k => Iff.rfl, fun k hk => hs.pv.own k hk, ?_, ⟨fun k hk => ?_⟩, fun hN => by have := hown _ hN; omega, hs.mu.size, ⟨#[], 0, (heap_alloc w _).1, rfl, fun e he => by simp at he⟩, rfl, rfl⟩ (TS.rest_l hl) _ _ ?_
  · exact ⟨hs.mu.os, hs.mu.tape, hs.mu.output, by have := hs.mu.size; rw [hsz]; omega, fun k hk hS => by rw [hh k (by have := hs.mu.size; omega)]; exact hs.mu.same k hk hS⟩
  · rcases hk with hk | hk
    · exact ⟨r0.up k (by have := hs.mu.size; have h2 : w.heap.size + 1 ≤ k := by rw [← hsz]; exact hk
                         omega), by have h2 : w.heap.size + 1 ≤ k := by rw [← hsz]; exact hk
                                    omega⟩
    · exact ⟨op.h k (hs.pv.own k hk), by have := hown k hk; omega⟩
  · obtain ⟨h1, h2, h3⟩ := tmps_put (a := a) (d := some d) (τ := MapT w.heap.size) (v := .map (some w.heap.size)) (w' := w.alloc (.map #[] 0)) hs.sz (fun t ht => by injection ht with ht; subst ht; simpa using hd) (fun t => (Γ t).keep hkeep (hs.ty t)) rfl
    exact ⟨h1, h2.trans hs.df, Mut.refl _ _, h3, ⟨fun k hk => .inr hk, hs.pv.ks.keep hkeep fun j hj _ => by rw [hh j hj]; exact SameCells.refl _, hs.pv.ap⟩⟩
theorem TS.makeMap [op : Opens r0] (hd : Nat.blt d n = true) (hk : ∀ N r, Ep r0 N [] r → TS P r n ops rest (k + 1) (Γ.set d (MapT N)) Ω Q) : TS P r0 n ops (⟨some d, .makeMap t none, ty, pos, aft, none⟩ :: rest) k Γ Ω Q :=
  TS.makeMapAux hd (fun a w _ => by simp [execOp, Instr.makeMap]) hk
theorem TS.makeMapN [op : Opens r0] {x : Operand} {τ : Ty} {q : Int} [m : TMap P t kt et] [hx : Has Γ x τ] [hq : AsI τ q] (hd : Nat.blt d n = true) (hk : ∀ N r, Ep r0 N [] r → TS P r n ops rest (k + 1) (Γ.set d (MapT N)) Ω Q) : TS P r0 n ops (⟨some d, .makeMap t (some x), ty, pos, aft, none⟩ :: rest) k Γ Ω Q :=
  TS.makeMapAux hd (fun a w hs => by
    have e1 : a.eval x = .int .i64 q := hq.le _ _ _ (hx.le a _ w fun t _ => hs.ty t)
    simp [execOp, Instr.makeMap, e1, run_underlying m.h, asInt, asIntOf]) hk

theorem find_key {M : List Int} {q : Int} : ∀ (es : List MapEntry) (i : Nat), es.map (·.key) = M.map iKey →
    (q ∉ M ∧ Instr.findNow (.int .i64) (iKey q) es i = some none) ∨ (q ∈ M ∧ ∃ j e, es[j]? = some e ∧ e.key = iKey q ∧ Instr.findNow (.int .i64) (iKey q) es i = some (some (i + j, e.val))) := by
  induction M with
  | nil => intro es i h; left; have : es = [] := by simpa using h
           subst this; exact ⟨by simp, rfl⟩
  | cons x M ih =>
    intro es i h
    cases es with
    | nil => simp at h
    | cons e es =>
      simp only [List.map_cons, List.cons.injEq] at h
      obtain ⟨h1, h2⟩ := h
      unfold Instr.findNow
      rw [h1]
      by_cases hq : q = x
      · subst hq
        right
        refine ⟨by simp, 0, e, rfl, h1, ?_⟩
        simp [Instr.sameNow, iKey]
      · have hs : Instr.sameNow (.int .i64) (iKey q) (iKey x) = some false := by simp [Instr.sameNow, iKey, hq]
        rw [hs]
        rcases ih es (i + 1) h2 with ⟨g1, g2⟩ | ⟨g1, j, e', g2, g3, g4⟩
        · left; exact ⟨by simp [hq, g1], g2⟩
        · right; exact ⟨by simp [g1], j + 1, e', by simpa using g2, g3, by rw [g4, show i + 1 + j = i + (j + 1) by omega]⟩

theorem TS.mapUpdate {m x y : Operand} {τ : Ty} {q : Int} [T : TMap P t kt et] (h0 : Ep r0 N M r) [hm : Has Γ m (MapT N)] [hx : Has Γ x τ] [hq : AsI τ q] [hy : Has Γ y EmpT]
    (hk : ∀ r, Ep r0 N (putM M q) r → TS P r n ops rest (k + 1) Γ Ω Q) : TS P r n ops (⟨none, .mapUpdate t m x y, ty, pos, aft, none⟩ :: rest) k Γ Ω Q := fun hl a w hs => by
  have e1 : a.eval m = .map (some N) := hm.le a _ w fun t _ => hs.ty t
  have e2 : a.eval x = iKey q := hq.le _ _ _ (hx.le a _ w fun t _ => hs.ty t)
  have e3 : a.eval y = .agg #[] := hy.le a _ w fun t _ => hs.ty t
  obtain ⟨es, c, b1, b2, b3⟩ := h0.cur hs
  have hkey : IsKey (.int .i64) (iKey q) := rfl
  have hck := run_checkKey (P := P) (w := w) (kt := kt) (k := iKey q) T.k hkey false 9999
  rcases find_key (q := q) es.toList 0 b2 with ⟨g1, g2⟩ | ⟨g1, j, e, g2, g3, g4⟩
  · have hf := run_findKey (P := P) (w := w) (kt := kt) T.k g2
    have hrun : (execOp a.eval ⟨none, .mapUpdate t m x y, ty, pos, aft, none⟩).run P w = .ok .skip { w with heap := w.heap.setIfInBounds N (.map (es.push { key := iKey q, val := .agg #[], born := c }) (c + 1)) } := by
      simp only [execOp, Instr.mapUpdate, e1, e2, e3, Sem.run_bind, run_underlying T.h, Result.andThen_ok, MapKept.run_getObj_map b1, hck, hf, run_setObj_map _ b1, Sem.run_pure]
    obtain ⟨r', p1, p2⟩ := h0.put (M' := putM M q) hs ⟨es.push { key := iKey q, val := .agg #[], born := c }, c + 1, (heap_set b1).1, by unfold putM; rw [if_neg g1]; simp [b2], fun e he => by
      simp only [Array.toList_push, List.mem_append, List.mem_singleton] at he
      rcases he with he | rfl
      · exact b3 e he
      · rfl⟩
    have h1 : ops[k]? = some ⟨none, .mapUpdate t m x y, ty, pos, aft, none⟩ := by simpa using (hl 0).symm
    simp only [List.length_cons, List.range'_succ]
    rw [wpOpsIn_cons]
    unfold wpOpIn
    simp only [h1, Region.wanted, if_true]
    refine ⟨fun _ _ => trivial, ?_⟩
    rw [Oper.semAt_eq _ _ _ (fun c hc => by cases hc), hrun]
    have := hk r' p1 (TS.rest_l hl) _ _ p2
    rw [p1.rh, ← h0.rh] at this
    exact this
  · have hf := run_findKey (P := P) (w := w) (kt := kt) T.k g4
    have hes : es[0 + j]? = some e := by rw [Nat.zero_add]; simpa using g2
    have hst := run_keyThatStays (P := P) (w := w) hkey
    have hrun : (execOp a.eval ⟨none, .mapUpdate t m x y, ty, pos, aft, none⟩).run P w = .ok .skip { w with heap := w.heap.setIfInBounds N (.map (es.modify (0 + j) fun e => { e with key := iKey q, val := .agg #[] }) c) } := by
      simp only [execOp, Instr.mapUpdate, e1, e2, e3, Sem.run_bind, run_underlying T.h, Result.andThen_ok, MapKept.run_getObj_map b1, hck, hf, hes, Option.map_some, Option.getD_some, g3, hst, run_setObj_map _ b1, Sem.run_pure]
    obtain ⟨r', p1, p2⟩ := h0.put (M' := putM M q) hs ⟨es.modify (0 + j) fun e => { e with key := iKey q, val := .agg #[] }, c, (heap_set b1).1, by
      unfold putM; rw [if_pos g1, modify_keys _ _ (fun e' he' => by
        rw [hes] at he'; injection he' with he'; subst he'; exact g3.symm), b2], fun e' he' => by
      obtain ⟨i, hi, hie⟩ := List.getElem_of_mem he'
      simp only [Array.toList_modify] at hi hie
      rw [List.getElem_modify] at hie
      split at hie
      · rw [← hie]
      · rw [← hie]; exact b3 _ (List.getElem_mem _)⟩
    have h1 : ops[k]? = some ⟨none, .mapUpdate t m x y, ty, pos, aft, none⟩ := by simpa using (hl 0).symm
    simp only [List.length_cons, List.range'_succ]
    rw [wpOpsIn_cons]
    unfold wpOpIn
    simp only [h1, Region.wanted, if_true]
    refine ⟨fun _ _ => trivial, ?_⟩
    rw [Oper.semAt_eq _ _ _ (fun c hc => by cases hc), hrun]
    have := hk r' p1 (TS.rest_l hl) _ _ p2
    rw [p1.rh, ← h0.rh] at this
    exact this
theorem TS.mapLookup {m x : Operand} {τ : Ty} {q : Int} [T : TMap P t kt et] (h0 : Ep r0 N M r) [hm : Has Γ m (MapT N)] [hx : Has Γ x τ] [hq : AsI τ q] (hd : Nat.blt d n = true)
    (hk : TS P r n ops rest (k + 1) (Γ.set d (Tup [EmpT, B (decide (q ∈ M))])) Ω Q) : TS P r n ops (⟨some d, .lookup t m x true, ty, pos, aft, none⟩ :: rest) k Γ Ω Q := fun hl a w hs => by
  have e1 : a.eval m = .map (some N) := hm.le a _ w fun t _ => hs.ty t
  have e2 : a.eval x = iKey q := hq.le _ _ _ (hx.le a _ w fun t _ => hs.ty t)
  obtain ⟨es, c, b1, b2, b3⟩ := h0.cur hs
  have hkey : IsKey (.int .i64) (iKey q) := rfl
  obtain ⟨ti, z, z1, z2, rfl⟩ := T.z
  have hck : ∀ em, (Instr.checkKey em 10000 kt (iKey q)).run P w = .ok () w := fun em => run_checkKey (P := P) (w := w) (kt := kt) (k := iKey q) T.k hkey em 9999
  have hrun : (execOp a.eval ⟨some d, .lookup t m x true, ty, pos, aft, none⟩).run P w = .ok (.value (.tuple #[.agg #[], .bool (decide (q ∈ M))])) w := by
    rcases find_key (q := q) es.toList 0 b2 with ⟨g1, g2⟩ | ⟨g1, j, e, g2, g3, g4⟩
    · have hf := run_findKey (P := P) (w := w) (kt := kt) T.k g2
      simp [execOp, Instr.lookup, e1, e2, run_underlying T.h, MapKept.run_getObj_map b1, hck, hf, zeroValue, typeInfo, z1, z2, g1]
    · have hf := run_findKey (P := P) (w := w) (kt := kt) T.k g4
      have hv := b3 e (List.mem_of_getElem? g2)
      simp [execOp, Instr.lookup, e1, e2, run_underlying T.h, MapKept.run_getObj_map b1, hck, hf, hv, g1]
  refine TS.step rfl hrun hl (hk (TS.rest_l hl) _ _ (hs.put (d := some d) (fun t ht => by injection ht with ht; subst ht; simpa using hd) (Grow.refl _ _) ⟨[.agg #[], .bool (decide (q ∈ M))], rfl, rfl, fun i hi => ?_⟩))
  match i, hi with
  | 0, _ => rfl
  | 1, _ => rfl
theorem TS.mapLen {m : Operand} [T : TMap P t kt et] (h0 : Ep r0 N M r) [hm : Has Γ m (MapT N)] (hd : Nat.blt d n = true)
    (hk : TS P r n ops rest (k + 1) (Γ.set d (I (M.length : Int))) Ω Q) : TS P r n ops (⟨some d, .call { callee := .builtin .len, args := #[m], argTypes := #[t] }, ty, pos, aft, none⟩ :: rest) k Γ Ω Q := fun hl a w hs => by
  have e1 : a.eval m = .map (some N) := hm.le a _ w fun t _ => hs.ty t
  obtain ⟨es, c, b1, b2, b3⟩ := h0.cur hs
  have hlen : es.size = M.length := by have := congrArg List.length b2; simpa using this
  have hrun : (execOp a.eval ⟨some d, .call { callee := .builtin .len, args := #[m], argTypes := #[t] }, ty, pos, aft, none⟩).run P w = .ok (.value (.int .i64 M.length)) w := by
    simp [execOp, resolve, invoke, builtin, e1, Builtin.len_, run_underlying T.h, MapKept.run_getObj_map b1, goInt, hlen]
  exact TS.step rfl hrun hl (hk (TS.rest_l hl) _ _ (hs.put (d := some d) (fun t ht => by injection ht with ht; subst ht; simpa using hd) (Grow.refl _ _) rfl))
end ops

section sn
variable {P : Program} {r : Ref} {n : Nat} {Γ : Env} {Ω : List Pe} {Q : Exit → Act → World → Prop} {ops : Array Oper} {k : Nat} {rest : List Oper} {op : Op} {ty : TypeId} {pos : String} {aft : Array Edge}
/-- a step without a result -/
theorem TS.sn {τ : Ty} (h : ∀ {A : Nat → Prop}, OpY P r.w.heap.size A Ω Γ ⟨none, op, ty, pos, aft, none⟩ τ) (hk : TS P r n ops rest (k + 1) Γ Ω Q) : TS P r n ops (⟨none, op, ty, pos, aft, none⟩ :: rest) k Γ Ω Q :=
  TS.G (τ := τ) (fun t ht => by cases ht) (fun A a w hB hu hp hl => by
    rw [if_pos (by simp [Region.wanted])]
    exact h a w hB hu hp fun t ht => hl t (mem_looks ht)) hk
theorem TE.cut_retX {σ ν : Type} {r' : Ref} {p : σ → Prop} {Δ : σ → ν → Env} {J : σ → ν → List Pe} (h : TE r n Γ Ω Q .ret) : TE r n Γ Ω (CutQ r' n p Δ J Q) .ret := h
end sn
section emp
variable {P : Program} {B0 : Nat} {A : Nat → Prop} {Ω : List Pe} {Γ : Env} {dst : Option Tmp} {ty : TypeId} {pos : String} {aft : Array Edge} {gd : Option (Nat × Bool)} {t : TypeId}
/-- an empty struct, a variable of its type, and one put there -/
def PtrE : Ty := ⟨fun _ _ v => ∃ b, v = .pointer (some ⟨b, 0, none⟩), fun _ h => h⟩
class TEmp (P : Program) (t : TypeId) : Prop where
  b : P.built t [] = some #[]
  z : ∃ ti z, P.info? t = some ti ∧ ti.zero = some z ∧ z = .agg #[] ∧ ti.size = 0
theorem OpY.buildE [T : TEmp P t] : OpY P B0 A Ω Γ ⟨dst, .build t #[], ty, pos, aft, gd⟩ EmpT :=
  OpY.val fun a w hl => ⟨.agg #[], by
    have hb : P.built t ((#[].map fun (i, x) => (i, a.eval x)).toList) = some #[] := by simpa using T.b
    simp only [execOp, Sem.run_bind, run_build w t _ #[] hb, Result.andThen_ok, Sem.run_pure], rfl⟩
theorem OpY.allocE [T : TEmp P t] : OpY P B0 A Ω Γ ⟨dst, .alloc t, ty, pos, aft, gd⟩ PtrE := fun a w hB hu hp hl => by
  obtain ⟨ti, z, z1, z2, rfl, z3⟩ := T.z
  have hrun : (execOp a.eval ⟨dst, .alloc t, ty, pos, aft, gd⟩).run P w = .ok (.value (.pointer (some ⟨w.heap.size, 0, none⟩))) (w.alloc (.cells #[] t)) := by
    simp [execOp, Instr.alloc, zeroValue, typeInfo, z1, z2, newVar, newRow, Value.cells]
  rw [hrun]
  exact ⟨Grow.push _ hB, _, rfl⟩
theorem OpY.storeE [T : TEmp P t] {p x : Operand} [hp : Has Γ p PtrE] [hx : Has Γ x EmpT] : OpY P B0 A Ω Γ ⟨dst, .store t p x, ty, pos, aft, gd⟩ Ty.any := fun a w hB hu hpk hl => by
  obtain ⟨b, e1⟩ := Has.ev (x := p) (τ := PtrE) (op := .store t p x) (by simp [Op.operands]) hl
  have e2 : a.eval x = .agg #[] := Has.ev (x := x) (τ := EmpT) (op := .store t p x) (by simp [Op.operands]) hl
  obtain ⟨ti, z, z1, z2, rfl, z3⟩ := T.z
  have hrun : (execOp a.eval ⟨dst, .store t p x, ty, pos, aft, gd⟩).run P w = .ok .skip w := by
    simp [execOp, Instr.storeAt, e1, e2, Instr.sureAddr, storeVar, sizeOf, typeInfo, z1, z3, Value.cells, storeCells]
  rw [hrun]
  exact ⟨Grow.refl _ _, trivial⟩
end emp
end Go.Proofs.Ytfdmajkeihdhnaa.Tr
