/- A typed logic over the model's walk: slots bear stable predicates, and one walk in the text's order serves every order of a region. Conditions: none. -/
import Derived.Still
import Derived.Below
import Derived.WalkKit
namespace Go.Proofs.Ytkohjmiipameeaa.Tr
open Go Go.RowKit

/-- cells alike: the same row of cells, whose marks may differ only behind its end -/
def SameCells : Option Obj → Option Obj → Prop
  | some (.cells c e f), o' => ∃ f', o' = some (.cells c e f') ∧ (f' = f ∨ (c.size ≤ f'.1 ∧ (f = (0, 0) ∨ c.size ≤ f.1)))
  | o, o' => o' = o

theorem SameCells.refl (o : Option Obj) : SameCells o o := by
  cases o with
  | none => rfl
  | some o => cases o <;> first | rfl | exact ⟨_, rfl, .inl rfl⟩

theorem SameCells.trans {a b c : Option Obj} (h : SameCells a b) (k : SameCells b c) : SameCells a c := by
  cases a with
  | none => cases h; exact k
  | some o =>
    cases o with
    | cells x e f =>
      obtain ⟨f1, rfl, h1⟩ := h
      obtain ⟨f2, rfl, h2⟩ := k
      refine ⟨f2, rfl, ?_⟩
      rcases h1 with rfl | ⟨h1, h3⟩
      · exact h2
      · rcases h2 with rfl | ⟨h2, _⟩
        · exact .inr ⟨h1, h3⟩
        · exact .inr ⟨h2, h3⟩
    | _ => cases h; exact k

/-- w' is w grown: blocks below B are the very same, all others hold the same cells -/
structure Grow (B : Nat) (w w' : World) : Prop where
  os : w'.os = w.os
  tape : w'.tape = w.tape
  output : w'.output = w.output
  size : w.heap.size ≤ w'.heap.size
  old : ∀ k, k < B → w'.heap[k]? = w.heap[k]?
  cells : ∀ k, k < w.heap.size → SameCells (w.heap[k]?) (w'.heap[k]?)

theorem Grow.refl (B : Nat) (w : World) : Grow B w w := ⟨rfl, rfl, rfl, Nat.le_refl _, fun _ _ => rfl, fun _ _ => SameCells.refl _⟩
theorem Grow.trans {B : Nat} {a b c : World} (h : Grow B a b) (k : Grow B b c) : Grow B a c :=
  ⟨k.os.trans h.os, k.tape.trans h.tape, k.output.trans h.output, Nat.le_trans h.size k.size, fun i hi => (k.old i hi).trans (h.old i hi),
    fun i hi => (h.cells i hi).trans (k.cells i (Nat.lt_of_lt_of_le hi h.size))⟩
theorem Grow.mono {B B' : Nat} {w w' : World} (h : Grow B w w') (hB : B' ≤ B) : Grow B' w w' :=
  ⟨h.os, h.tape, h.output, h.size, fun k hk => h.old k (Nat.lt_of_lt_of_le hk hB), h.cells⟩
theorem Grow.of_below {B : Nat} {w w' : World} (h : Below w.heap.size w w') (hB : B ≤ w.heap.size) : Grow B w w' :=
  ⟨h.os, h.tape, h.output, h.size, fun k hk => h.block k (Nat.lt_of_lt_of_le hk hB), fun k hk => by rw [h.block k hk]; exact SameCells.refl _⟩
theorem Grow.below {w w' : World} (h : Grow w.heap.size w w') : Below w.heap.size w w' :=
  ⟨h.os, h.tape, h.output, h.size, h.old⟩
theorem Grow.drawn {B : Nat} {w : World} (n : Nat) : Grow B w { w with drawn := n } := ⟨rfl, rfl, rfl, Nat.le_refl _, fun _ _ => rfl, fun _ _ => SameCells.refl _⟩
theorem Grow.push {B : Nat} {w : World} (o : Obj) (hB : B ≤ w.heap.size) : Grow B w { w with heap := w.heap.push o } := by
  have hk : ∀ k, k < w.heap.size → (w.heap.push o)[k]? = w.heap[k]? := fun k hk => by rw [Array.getElem?_push, if_neg (by omega)]
  exact ⟨rfl, rfl, rfl, by simp, fun k h => hk k (by omega), fun k h => by rw [hk k h]; exact SameCells.refl _⟩

theorem Grow.cell {B : Nat} {w w' : World} (h : Grow B w w') {a : Addr} {v : Value} (hc : w.cell? a = some v) : w'.cell? a = some v := by
  unfold World.cell? at *
  have hlt : a.block < w.heap.size := by
    rcases Nat.lt_or_ge a.block w.heap.size with h1 | h1
    · exact h1
    · rw [Array.getElem?_eq_none h1] at hc; cases hc
  have hs := h.cells _ hlt
  generalize w.heap[a.block]? = o at *
  cases o with
  | none => cases hc
  | some o =>
    cases o with
    | cells c e f => obtain ⟨f', h', -⟩ := hs; rw [h']; exact hc
    | _ => cases hc

theorem cell_lt {w : World} {a : Addr} {v : Value} (hc : w.cell? a = some v) : a.block < w.heap.size := by
  unfold World.cell? at hc
  rcases Nat.lt_or_ge a.block w.heap.size with h1 | h1
  · exact h1
  · rw [Array.getElem?_eq_none h1] at hc; cases hc

/-- what a slot holds: a predicate that lasts -/
structure Ty where
  p : World → Value → Prop
  st : ∀ {w w' v}, Grow 0 w w' → p w v → p w' v

def Ty.any : Ty := ⟨fun _ _ => True, fun _ h => h⟩

abbrev Env := Tmp → Ty
def Env.set (Γ : Env) (d : Tmp) (τ : Ty) : Env := fun t => if t = d then τ else Γ t
def Env.put (Γ : Env) : Option Tmp → Ty → Env
  | some d, τ => Γ.set d τ
  | none, _ => Γ
def Env.nil : Env := fun _ => Ty.any

def Env.ok (Γ : Env) (n : Nat) (a : Act) (w : World) : Prop :=
  a.tmps.size = n ∧ a.defers = [] ∧ ∀ t, (Γ t).p w (a.tmps.getD t undef)

theorem Env.ok.grow {Γ : Env} {n : Nat} {a : Act} {w w' : World} (h : Γ.ok n a w) (g : Grow 0 w w') : Γ.ok n a w' :=
  ⟨h.1, h.2.1, fun t => (Γ t).st g (h.2.2 t)⟩

theorem Env.ok.put {Γ : Env} {n : Nat} {a : Act} {w w' : World} {d : Option Tmp} {v : Value} {τ : Ty} (hd : ∀ t, d = some t → t < n) (h : Γ.ok n a w) (g : Grow 0 w w') (hv : τ.p w' v) :
    (Γ.put d τ).ok n (a.put d v) w' := by
  obtain ⟨h1, h2, h3⟩ := h.grow g
  cases d with
  | none => exact ⟨h1, h2, h3⟩
  | some d =>
    refine ⟨by simpa [Act.put] using h1, h2, fun t => ?_⟩
    have hlt : d < a.tmps.size := by rw [h1]; exact hd d rfl
    simp only [Env.put, Env.set, Act.put]
    split
    · rename_i e; subst e
      rw [Array.getD_eq_getD_getElem?, Array.getElem?_setIfInBounds_self_of_lt hlt]
      exact hv
    · rename_i e
      rw [Array.getD_eq_getD_getElem?, Array.getElem?_setIfInBounds_ne (fun x => e x.symm), ← Array.getD_eq_getD_getElem?]
      exact h3 t

section
variable (P : Program) (B : Nat)

/-- one operation's outcome: a value of the type, nothing old changed -/
def Yields (w : World) (τ : Ty) : Result Next → Prop
  | .ok (.value v) w' => Grow B w w' ∧ τ.p w' v
  | .ok .skip w' => Grow B w w' ∧ τ.p w' undef
  | .ok (.enter f args) w' => Grow B w w' ∧ Calls P f args w' fun e w'' => ∃ v, e = .returned v ∧ Grow B w' w'' ∧ τ.p w'' v
  | _ => False

/-- an operation that is carried out -/
def OpY (Γ : Env) (o : Oper) (τ : Ty) : Prop :=
  ∀ (a : Act) (w : World), B ≤ w.heap.size → (∀ t, .tmp t ∈ o.op.operands.toList → (Γ t).p w (a.tmps.getD t undef)) → Yields P B w τ ((execOp a.eval o).run P w)

/-- an operation, whatever its guard says -/
def OpG (ops : Array Oper) (Γ : Env) (o : Oper) (τ : Ty) : Prop :=
  ∀ (a : Act) (w : World), B ≤ w.heap.size → (∀ t ∈ o.looksAt ops, (Γ t).p w (a.tmps.getD t undef)) →
    if Region.wanted o (yielded ops a.tmps) then Yields P B w τ ((execOp a.eval o).run P w) else τ.p w undef

/-- the walk of a region, in the text's order -/
def TR (ops : Array Oper) (n : Nat) : List Oper → Env → (Env → Prop) → Prop
  | [], Γ, K => K Γ
  | o :: rest, Γ, K => (∀ t, o.dst = some t → t < n) ∧ ∃ τ, OpG P B ops Γ o τ ∧ TR ops n rest (Γ.put o.dst τ) K
end

section any
variable {P : Program} {B : Nat} {ops : Array Oper} {n : Nat} {md : Region.Mode}

theorem OpG.congr {Γ Γ' : Env} {o : Oper} {τ : Ty} (h : OpG P B ops Γ o τ) (he : ∀ t ∈ o.looksAt ops, Γ' t = Γ t) : OpG P B ops Γ' o τ :=
  fun a w hB hl => h a w hB fun t ht => by have := hl t ht; rwa [he t ht] at this

def tOp (P : Program) (B : Nat) (ops : Array Oper) (n : Nat) (i : Nat) (K : Env → Prop) (Γ : Env) : Prop :=
  match ops[i]? with
  | none => K Γ
  | some o => (∀ t, o.dst = some t → t < n) ∧ ∃ τ, OpG P B ops Γ o τ ∧ K (Γ.put o.dst τ)

theorem tOp_mono {i : Nat} {Γ : Env} {K K' : Env → Prop} (h : ∀ Γ, K Γ → K' Γ) (hh : tOp P B ops n i K Γ) : tOp P B ops n i K' Γ := by
  unfold tOp at *
  split
  · rename_i ho; simp only [ho] at hh; exact h _ hh
  · rename_i o ho; simp only [ho] at hh; obtain ⟨h1, τ, h2, h3⟩ := hh; exact ⟨h1, τ, h2, h _ h3⟩

/-- whatever order is picked from here on -/
def TAny (P : Program) (B : Nat) (md : Region.Mode) (ops : Array Oper) (n : Nat) (K : Env → Prop) : Nat → Array Bool → Env → Prop
  | 0, listed, Γ => Region.ready md ops listed = [] ∧ K Γ
  | fuel + 1, listed, Γ =>
    (Region.ready md ops listed = [] → K Γ) ∧
    ∀ i ∈ Region.ready md ops listed, tOp P B ops n i (TAny P B md ops n K fuel (listed.setIfInBounds i true)) Γ

theorem Env.put_comm (Γ : Env) {x y : Option Tmp} (τ σ : Ty) (h : ∀ d, x = some d → y ≠ some d) : (Γ.put x τ).put y σ = (Γ.put y σ).put x τ := by
  cases x with
  | none => rfl
  | some d =>
    cases y with
    | none => rfl
    | some e =>
      have hne : d ≠ e := fun he => h d rfl (he ▸ rfl)
      funext t
      simp only [Env.put, Env.set]
      by_cases h1 : t = e
      · subst h1; simp [Ne.symm hne]
      · simp [h1]

theorem Env.put_other (Γ : Env) {x : Option Tmp} (τ : Ty) {t : Tmp} (h : x ≠ some t) : Γ.put x τ t = Γ t := by
  cases x with
  | none => rfl
  | some d => simp only [Env.put, Env.set]; rw [if_neg (fun e => h (by rw [e]))]

theorem tOp_put {j : Nat} {oi oj : Oper} {τi : Ty} (hj : ops[j]? = some oj) (hap : oi.apart ops oj = true) {K : Env → Prop} {Γ : Env}
    (hy : OpG P B ops Γ oi τi) (h : tOp P B ops n j K (Γ.put oi.dst τi)) :
    tOp P B ops n j (fun Γ' => OpG P B ops Γ' oi τi ∧ K (Γ'.put oi.dst τi)) Γ := by
  obtain ⟨h1, h2, h3⟩ := Oper.apart_spec hap
  unfold tOp at *
  simp only [hj] at *
  obtain ⟨hd, τ, ho, hK⟩ := h
  refine ⟨hd, τ, ho.congr fun t ht => (Env.put_other _ _ fun e => h1 t e ht).symm, hy.congr fun t ht => Env.put_other _ _ fun e => h3 t e ht, ?_⟩
  rw [← Env.put_comm Γ τi τ h2]
  exact hK

theorem TAny_first {K : Env → Prop} {i : Nat} {oi : Oper} {τi : Ty} (hi : ops[i]? = some oi) (hdi : ∀ t, oi.dst = some t → t < n) :
    ∀ (fuel : Nat) (listed : Array Bool) (Γ : Env),
      (∀ j oj, ops[j]? = some oj → j ≠ i → listed.getD j true = false → (∀ e ∈ oj.after, Region.binds md e = true → e.on ≠ i) → oi.apart ops oj = true) →
      i ∈ Region.ready md ops listed → OpG P B ops Γ oi τi →
      TAny P B md ops n K fuel (listed.setIfInBounds i true) (Γ.put oi.dst τi) → TAny P B md ops n K (fuel + 1) listed Γ := by
  intro fuel
  induction fuel with
  | zero =>
    intro listed Γ _ hr hy H
    refine ⟨fun h => (by rw [h] at hr; cases hr), fun j hj => ?_⟩
    by_cases hji : j = i
    · subst hji; unfold tOp; simp only [hi]; exact ⟨hdi, τi, hy, H⟩
    · have := ready_mono hj hji
      rw [H.1] at this
      cases this
  | succ fuel ih =>
    intro listed Γ hfree hr hy H
    refine ⟨fun h => (by rw [h] at hr; cases hr), fun j hj => ?_⟩
    by_cases hji : j = i
    · subst hji; unfold tOp; simp only [hi]; exact ⟨hdi, τi, hy, H⟩
    · have h1 := H.2 j (ready_mono hj hji)
      obtain ⟨hjun, oj, hoj, hall⟩ := mem_ready.1 hj
      have hnot : ∀ e ∈ oj.after, Region.binds md e = true → e.on ≠ i := fun e he hb heq => by
        have h1 := hall e he hb
        have h0 := (mem_ready.1 hr).1
        rw [heq] at h1
        rcases Nat.lt_or_ge i listed.size with h' | h'
        · simp [h'] at h0 h1; rw [h0] at h1; cases h1
        · simp [Array.getElem?_eq_none h'] at h1
      have h2 := tOp_put hoj (hfree j oj hoj hji hjun hnot) hy h1
      have hfree' : ∀ k ok, ops[k]? = some ok → k ≠ i → (listed.setIfInBounds j true).getD k true = false →
          (∀ e ∈ ok.after, Region.binds md e = true → e.on ≠ i) → oi.apart ops ok = true := fun k ok hk hki hun hno => by
        refine hfree k ok hk hki ?_ hno
        by_cases hjk : j = k
        · subst hjk; exact hjun
        · rw [getD_set_ne true hjk] at hun; exact hun
      refine tOp_mono (fun Γ' h3 => ih (listed.setIfInBounds j true) Γ' hfree' (ready_mono hr (Ne.symm hji)) h3.1 ?_) h2
      rw [Array.setIfInBounds_comm _ _ hji]
      exact h3.2

theorem TAny_lex {K : Env → Prop} : ∀ (l : List Oper) (k : Nat) (listed : Array Bool) (Γ : Env), (∀ j, l[j]? = ops[k + j]?) →
    Region.lexFrom md ops l.length k listed = true → TR P B ops n l Γ K → TAny P B md ops n K l.length listed Γ
  | [], _, _, _, _, hB, h => ⟨by simpa [Region.lexFrom] using hB, h⟩
  | o :: l, k, listed, Γ, hl, hB, h => by
    have h0 : ops[k]? = some o := by simpa using (hl 0).symm
    simp only [List.length_cons, Region.lexFrom, Bool.and_eq_true] at hB
    obtain ⟨⟨hr, hf⟩, hB'⟩ := hB
    obtain ⟨hd, τ, hy, hK⟩ := h
    exact TAny_first h0 hd l.length listed Γ (Region.free_spec h0 hf) (by simpa using hr) hy
      (TAny_lex l (k + 1) _ _ (fun j => by have := hl (j + 1); simpa [Nat.add_assoc, Nat.add_comm 1 j] using this) hB' hK)

/-- what an operation's outcome gives to what follows -/
theorem wp_of_yields {o : Oper} {a : Act} {w : World} {τ : Ty} {K : Act → World → Prop} {Q : Exit → Act → World → Prop}
    (h : Yields P B w τ ((execOp a.eval o).run P w)) (hk : ∀ v w', Grow B w w' → τ.p w' v → K (a.put o.dst v) w') : o.wp P a w K Q := by
  unfold Oper.wp
  generalize (execOp a.eval o).run P w = r at *
  cases r with
  | ok x w' =>
    cases x <;> simp only [Yields] at h <;> simp only [Oper.upon]
    case value v => exact hk _ _ h.1 h.2
    case skip => exact hk _ _ h.1 h.2
    case enter f args =>
      obtain ⟨h1, h2⟩ := h
      refine h2.mono fun e w'' ⟨v, he, h3, h4⟩ => ?_
      subst he
      exact hk _ _ (h1.trans h3) h4
  | halt x w' => simp only [Yields] at h

theorem wpOp_of_tOp {i : Nat} {Γ : Env} {K : Env → Prop} {K' : Act → World → Prop} {Q' : Exit → Act → World → Prop} {a : Act} {w : World} (hB : B ≤ w.heap.size) (ha : Γ.ok n a w)
    (h : ∀ Γ' a' w', Grow B w w' → Γ'.ok n a' w' → K Γ' → K' a' w') (hh : tOp P B ops n i K Γ) : wpOp P ops Q' i K' a w := by
  unfold tOp at hh
  unfold wpOp
  split
  · rename_i ho; simp only [ho] at hh; exact h _ _ _ (Grow.refl _ _) ha hh
  · rename_i o ho
    simp only [ho] at hh
    obtain ⟨hd, τ, hy, hK⟩ := hh
    have hy := hy a w hB fun t _ => ha.2.2 t
    split
    · rename_i hw
      simp only [hw, if_true] at hy
      exact .inl (wp_of_yields hy fun v w' hg hv => h _ _ _ hg (ha.put hd (hg.mono (Nat.zero_le _)) hv) hK)
    · rename_i hw
      simp only [hw] at hy
      exact h _ _ _ (Grow.refl _ _) (ha.put hd (Grow.refl _ _) hy) hK

theorem wpAny_of_T {K : Env → Prop} {Q' : Exit → Act → World → Prop} {w0 : World} (hw0 : B ≤ w0.heap.size) (hQ : ∀ Γ a w, Grow B w0 w → Γ.ok n a w → K Γ → Q' .normal a w) : ∀ (fuel : Nat) (listed : Array Bool) (Γ : Env) (a : Act) (w : World),
    Grow B w0 w → Γ.ok n a w → TAny P B md ops n K fuel listed Γ → wpAny P md ops Q' fuel listed a w
  | 0, _, _, _, _, hw, ha, h => ⟨h.1, hQ _ _ _ hw ha h.2⟩
  | fuel + 1, _, _, _, _, hw, ha, h => ⟨fun h0 => hQ _ _ _ hw ha (h.1 h0), fun i hi => wpOp_of_tOp (Nat.le_trans hw0 hw.size) ha (fun Γ' a' w' hg ha' hK => wpAny_of_T hw0 hQ fuel _ Γ' a' w' (hw.trans hg) ha' hK) (h.2 i hi)⟩

/-- the walk in the text's order, where no order is drawn -/
theorem wpOps_of_TR {Q : Exit → Act → World → Prop} {K : Env → Prop} {w0 : World} (hw0 : B ≤ w0.heap.size) (hQ : ∀ Γ a w, Grow B w0 w → Γ.ok n a w → K Γ → Q .normal a w) :
    ∀ (l : List Oper) (k : Nat) (Γ : Env) (a : Act) (w : World), (∀ j, l[j]? = ops[k + j]?) → Grow B w0 w → Γ.ok n a w → TR P B ops n l Γ K → wpOps P ops Q (List.range' k l.length) a w
  | [], _, _, _, _, _, hw, ha, h => by simpa [wpOps] using hQ _ _ _ hw ha h
  | o :: l, k, Γ, a, w, hl, hw, ha, h => by
    have h0 : ops[k]? = some o := by simpa using (hl 0).symm
    simp only [List.length_cons, List.range'_succ]
    rw [wpOps_cons]
    have ht : tOp P B ops n k (fun Γ' => TR P B ops n l Γ' K) Γ := by unfold tOp; simp only [h0]; exact h
    refine wpOp_of_tOp (Nat.le_trans hw0 hw.size) ha (fun Γ' a' w' hg ha' hK => ?_) ht
    exact wpOps_of_TR hw0 hQ l (k + 1) Γ' a' w' (fun j => by have := hl (j + 1); simpa [Nat.add_assoc, Nat.add_comm 1 j] using this) (hw.trans hg) ha' hK
end any

/-- a piece of code, from whatever state fits the slots' types -/
def TC (P : Program) (w0 : World) (n : Nat) (Γ : Env) (c : Code) (Q : Exit → Act → World → Prop) : Prop :=
  ∀ a w, Grow w0.heap.size w0 w → Γ.ok n a w → c.wp P Q a w

/-- the end of a piece: an exit of one kind -/
def TE (w0 : World) (n : Nat) (Γ : Env) (Q : Exit → Act → World → Prop) (e : Exit) : Prop :=
  ∀ a w, Grow w0.heap.size w0 w → Γ.ok n a w → Q e a w

/-- fits better than -/
def Ty.le (τ σ : Ty) : Prop := ∀ w v, τ.p w v → σ.p w v
theorem Ty.le.refl (τ : Ty) : τ.le τ := fun _ _ h => h
theorem Ty.le.trans {τ σ ρ : Ty} (h : τ.le σ) (k : σ.le ρ) : τ.le ρ := fun w v x => k w v (h w v x)
def Env.le (Γ Δ : Env) : Prop := ∀ t, (Γ t).le (Δ t)
theorem Env.le.refl (Γ : Env) : Γ.le Γ := fun _ => Ty.le.refl _
theorem Env.le.trans {Γ Δ Θ : Env} (h : Γ.le Δ) (k : Δ.le Θ) : Γ.le Θ := fun t => (h t).trans (k t)
theorem Env.le_nil (Γ : Env) : Γ.le Env.nil := fun _ _ _ _ => trivial
theorem Env.le_set {Γ Δ : Env} {d : Tmp} {τ : Ty} (h : (Γ d).le τ) (k : Γ.le Δ) : Γ.le (Δ.set d τ) := fun t => by
  unfold Env.set
  split
  · rename_i e; subst e; exact h
  · exact k t
theorem Env.ok.le {Γ Δ : Env} {n : Nat} {a : Act} {w : World} (h : Γ.ok n a w) (k : Γ.le Δ) : Δ.ok n a w := ⟨h.1, h.2.1, fun t => k t _ _ (h.2.2 t)⟩

section rules
variable {P : Program} {w0 : World} {n : Nat} {Γ : Env} {Q : Exit → Act → World → Prop}

theorem TC.weaken {Δ : Env} {c : Code} (h : Γ.le Δ) (k : TC P w0 n Δ c Q) : TC P w0 n Γ c Q := fun a w hw ha => k a w hw (ha.le h)
theorem TE.weaken {Δ : Env} {e : Exit} (h : Γ.le Δ) (k : TE w0 n Δ Q e) : TE w0 n Γ Q e := fun a w hw ha => k a w hw (ha.le h)

def lexOk (l : List Oper) (draw : Bool) : Bool := !draw || Region.lexB .any l.toArray

theorem TC.region {id : Nat} {l : List Oper} {draw : Bool} {Q' : Exit → Act → World → Prop} (hm : P.follows .mixedOrders = true) (hB : lexOk l draw = true)
    (h : TR P w0.heap.size l.toArray n l Γ fun Γ' => TE w0 n Γ' Q' .normal) : TC P w0 n Γ (.region id l.toArray draw) Q' := by
  intro a w hw ha
  cases draw with
  | false =>
    refine wp_region ?_
    have := wpOps_of_TR (ops := l.toArray) (Q := Q') (Nat.le_refl _) (fun Γ' a w hg hok hK => hK a w hg hok) l 0 Γ a w (fun j => by simp) hw ha h
    simpa [List.range_eq_range'] using this
  | true =>
    simp only [lexOk, Bool.not_true, Bool.false_or, Region.lexB, Bool.and_eq_true] at hB
    refine wp_region_any hm ?_
    have h2 := TAny_lex (md := .any) (ops := l.toArray) l 0 (Array.replicate l.toArray.size false) Γ (fun j => by simp) (by simpa using hB.2) h
    have := wpAny_of_T (Q' := Q') (Nat.le_refl _) (fun Γ' a w hg hok hK => hK a w hg hok) _ _ Γ a { w with drawn := w.drawn + 1 } (hw.trans (Grow.drawn _)) (ha.grow (Grow.drawn _)) h2
    simpa using this

theorem TC.seq {x y : Code} (h : TC P w0 n Γ x (Exit.then (y.wp P Q) Q)) : TC P w0 n Γ (.seq x y) Q :=
  fun a w hw ha => wp_seq (h a w hw ha)

/-- a region, and what follows -/
theorem TC.seqR {id : Nat} {l : List Oper} {draw : Bool} {y : Code} (hm : P.follows .mixedOrders = true) (hB : lexOk l draw = true)
    (h : TR P w0.heap.size l.toArray n l Γ fun Γ' => TC P w0 n Γ' y Q) : TC P w0 n Γ (.seq (.region id l.toArray draw) y) Q :=
  TC.seq (TC.region hm hB h)

/-- what falls through goes on with what follows -/
theorem TE.then {y : Code} (h : TC P w0 n Γ y Q) : TE w0 n Γ (Exit.then (y.wp P Q) Q) .normal := h
theorem TE.thenK {K : Act → World → Prop} (h : ∀ a w, Grow w0.heap.size w0 w → Γ.ok n a w → K a w) : TE w0 n Γ (Exit.then K Q) .normal := h
theorem TE.then_exit {K : Act → World → Prop} {id : Nat} (h : TE w0 n Γ Q (.exit id)) : TE w0 n Γ (Exit.then K Q) (.exit id) := h
theorem TE.then_ret {K : Act → World → Prop} (h : TE w0 n Γ Q .ret) : TE w0 n Γ (Exit.then K Q) .ret := h
theorem TE.inBlock_normal {id : Nat} (h : TE w0 n Γ Q .normal) : TE w0 n Γ (Exit.inBlock id Q) .normal := h
theorem TE.inBlock_ret {id : Nat} (h : TE w0 n Γ Q .ret) : TE w0 n Γ (Exit.inBlock id Q) .ret := h
theorem TE.inBlock_here {id : Nat} (h : TE w0 n Γ Q .normal) : TE w0 n Γ (Exit.inBlock id Q) (.exit id) := fun a w hw ha => by
  simp only [Exit.inBlock, if_true]; exact h a w hw ha
theorem TE.inBlock_other {id id' : Nat} (hne : (id' == id) = false) (h : TE w0 n Γ Q (.exit id')) : TE w0 n Γ (Exit.inBlock id Q) (.exit id') := fun a w hw ha => by
  have hne : id' ≠ id := by simpa using hne
  simp only [Exit.inBlock, hne, if_false]; exact h a w hw ha

theorem TC.skip (h : TE w0 n Γ Q .normal) : TC P w0 n Γ .skip Q := fun a w hw ha => wp_skip (h a w hw ha)
theorem TC.exit {id : Nat} (h : TE w0 n Γ Q (.exit id)) : TC P w0 n Γ (.exit id) Q := fun a w hw ha => wp_exit (h a w hw ha)
theorem TC.ret (h : TE w0 n Γ Q .ret) : TC P w0 n Γ .ret Q := fun a w hw ha => wp_ret (h a w hw ha)
theorem TC.block {id : Nat} {c : Code} (h : TC P w0 n Γ c (Exit.inBlock id Q)) : TC P w0 n Γ (.block id c) Q := fun a w hw ha => wp_block (h a w hw ha)

/-- a loop: before each round one of the family's environments fits, and the measure goes down -/
theorem TC.loop {γ : Type} {c : Code} (I : γ → Env) (μ : γ → Nat) (g0 : γ) (h0 : Γ.le (I g0))
    (round : ∀ g, TC P w0 n (I g) c (Exit.then (fun a w => ∃ g', μ g' < μ g ∧ Grow w0.heap.size w0 w ∧ (I g').ok n a w) Q)) : TC P w0 n Γ (.loop c) Q := by
  intro a w hw ha b k cs
  have key : ∀ (m : Nat) (g : γ) a w, μ g = m → Grow w0.heap.size w0 w → (I g).ok n a w →
      ∃ e a' w', Q e a' w' ∧ Arrives P (lone (b.at a (.code c :: .inLoop c :: k)) cs w) b k cs e a' w' := by
    intro m
    induction m using Nat.strongRecOn with
    | _ m ih =>
      intro g a w hm hw hI
      obtain ⟨e, a₁, w₁, hq, harr⟩ := round g a w hw hI b (.inLoop c :: k) cs
      cases e with
      | normal =>
        obtain ⟨g', hlt, hw₁, hI₁⟩ := hq
        obtain ⟨e₂, a₂, w₂, hq₂, harr₂⟩ := ih (μ g') (hm ▸ hlt) g' a₁ w₁ rfl hw₁ hI₁
        exact ⟨e₂, a₂, w₂, hq₂, .of_steps (Steps.trans harr (.one step_inLoop)) harr₂⟩
      | exit id => exact ⟨_, a₁, w₁, hq, .pass (x := .inLoop c) rfl (fun _ _ => .inl (by simp)) harr⟩
      | goto l => exact ⟨_, a₁, w₁, hq, .pass (x := .inLoop c) rfl (fun _ _ => .inl (by simp)) harr⟩
      | ret => exact ⟨_, a₁, w₁, hq, .pass (x := .inLoop c) rfl (fun _ _ => .inl (by simp)) harr⟩
      | panic ch => exact ⟨_, a₁, w₁, hq, .pass (x := .inLoop c) rfl (fun _ _ => .inl (by simp)) harr⟩
      | outgrown => exact ⟨_, a₁, w₁, hq, .pass (x := .inLoop c) rfl (fun _ _ => .inl (by simp)) harr⟩
  obtain ⟨e, a', w', hq, harr⟩ := key _ g0 a w rfl hw (ha.le h0)
  exact ⟨e, a', w', hq, .of_steps (.one step_loop) harr⟩

/-- the end of a round -/
theorem TE.back {γ : Type} {I : γ → Env} {μ : γ → Nat} {g : γ} (g' : γ) (hlt : μ g' < μ g) (h : Γ.le (I g')) :
    TE w0 n Γ (Exit.then (fun a w => ∃ g', μ g' < μ g ∧ Grow w0.heap.size w0 w ∧ (I g').ok n a w) Q) .normal :=
  fun _ _ hw ha => ⟨g', hlt, hw, ha.le h⟩
end rules

/-- a contract: it returns a value of the type, and nothing old is changed -/
def Ret (w : World) (τ : Ty) (e : Ending) (w' : World) : Prop := ∃ v, e = .returned v ∧ Grow w.heap.size w w' ∧ τ.p w' v

theorem Ret.le {w : World} {τ σ : Ty} {e : Ending} {w' : World} (h : Ret w τ e w') (k : τ.le σ) : Ret w σ e w' :=
  let ⟨v, h1, h2, h3⟩ := h; ⟨v, h1, h2, k _ _ h3⟩

/-- several results -/
def Tup (τs : List Ty) : Ty := ⟨fun w v => ∃ vs : List Value, v = .tuple vs.toArray ∧ vs.length = τs.length ∧ ∀ i (h : i < τs.length), τs[i].p w (vs.getD i undef),
  fun hg ⟨vs, h1, h2, h3⟩ => ⟨vs, h1, h2, fun i h => (τs[i]).st hg (h3 i h)⟩⟩

section entry
variable {P : Program} {w : World} {n : Nat} {Γ : Env} {R : Ending → World → Prop}

/-- a call of a function with a body -/
theorem calls_of_TC {f : FuncId} {fn : Func} {c : Code} {args : List Value} (hf : P.funcs[f]? = some fn) (hb : fn.body = some c) (hn : fn.ntmps = n) (hl : args.length ≤ n)
    (hok : ∀ t, t < args.length → (Γ t).p w (args.getD t undef)) (hout : ∀ t, args.length ≤ t → (Γ t).p w undef)
    (h : TC P w n Γ c (bodyPost P fn R)) : Calls P f args.toArray w R := by
  refine calls_of_wp hf hb (h _ _ (Grow.refl _ _) ⟨?_, rfl, fun t => ?_⟩)
  · simp [hn]; omega
  · simp only [Array.getD_eq_getD_getElem?]
    rcases Nat.lt_or_ge t args.length with h1 | h1
    · have := hok t h1
      rw [List.getD_eq_getElem?_getD] at this
      rw [Array.getElem?_append_left (by simpa using h1)]
      simpa using this
    · have := hout t h1
      rw [Array.getElem?_append_right (by simpa using h1)]
      simp only [Array.getElem?_replicate]
      split <;> simpa using this

theorem results_one {fn : Func} {t : Tmp} (hr : fn.results = #[.tmp t]) (a : Act) : (results fn a.tmps).run P w = .ok (a.tmps.getD t undef) w := by
  simp [results, hr, Pure.pure, Sem.run]
end entry
end Go.Proofs.Ytkohjmiipameeaa.Tr
