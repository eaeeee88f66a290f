/- Regions: one walk in the text's order serves every order that may be drawn, also where private blocks are written and made. Conditions: none. -/
import Derived.Test.YtfdmajkeihdhnaaTr
namespace Go.Proofs.Ytfdmajkeihdhnaa.Tr
open Go Go.RowKit
set_option linter.unusedVariables false
set_option linter.unnecessarySimpa false

/-- what an operand holds by one of two lists -/
def Env.or (Θ Γ : Env) : Env := fun t => ⟨fun A w v => (Θ t).p A w v ∧ (Γ t).p A w v, fun k h => ⟨(Θ t).keep k h.1, (Γ t).keep k h.2⟩⟩

/-- the touched part of a state: which of several outcomes it is stays open; the slots of tl bear types of their own -/
structure Fam where
  ν : Type
  Θ : ν → Env
  Ω : ν → List Pe
  tl : List Tmp
  off : ∀ g t, t ∉ tl → Θ g t = Ty.any

/-- a step that touches: from each outcome to outcomes -/
def Fam.next (F : Fam) (d : Option Tmp) {μ : F.ν → Type} (τ : (g : F.ν) → μ g → Ty) (Ω' : (g : F.ν) → μ g → List Pe) : Fam where
  ν := (g : F.ν) × μ g
  Θ := fun g => (F.Θ g.1).put d (τ g.1 g.2)
  Ω := fun g => Ω' g.1 g.2
  tl := d.toList ++ F.tl
  off g t ht := by
    have h1 : t ∉ F.tl := fun h => ht (List.mem_append_right _ h)
    have h2 : d ≠ some t := fun h => ht (List.mem_append_left _ (by rw [h]; simp))
    cases d with
    | none => exact F.off _ _ h1
    | some d =>
      have hne : t ≠ d := fun e => h2 (by rw [e])
      simp only [Env.put, Env.set, hne, if_false]
      exact F.off _ _ h1

section
variable (P : Program) (B : Nat) (Ωs : List Pe) (ops : Array Oper) (n : Nat) (ms : List Nat)

/-- a step that touches private blocks, whichever outcome stands -/
def OpF (Γ : Env) (F : Fam) (o : Oper) {μ : F.ν → Type} (τ : (g : F.ν) → μ g → Ty) (Ω' : (g : F.ν) → μ g → List Pe) : Prop :=
  ∀ g, OpT P B Ωs (F.Ω g) (Env.or (F.Θ g) Γ) o (τ g) (Ω' g)

def TRw : Nat → List Oper → Env → Fam → (Env → Fam → Prop) → Prop
  | _, [], Γ, F, K => K Γ F
  | k, o :: rest, Γ, F, K => (∀ t, o.dst = some t → t < n) ∧
      ((k ∉ ms ∧ (∀ t, o.dst = some t → t ∉ F.tl) ∧ ∃ τ, OpG P B ops Ωs Γ o τ ∧ TRw (k + 1) rest (Γ.put o.dst τ) F K) ∨
       (k ∈ ms ∧ ∃ (μ : F.ν → Type) (τ : (g : F.ν) → μ g → Ty) (Ω' : (g : F.ν) → μ g → List Pe), OpF P B Ωs Γ F o τ Ω' ∧ TRw (k + 1) rest (Γ.put o.dst Ty.any) (F.next o.dst τ Ω') K))

def tOp (i : Nat) (K : Env → Fam → Prop) (Γ : Env) (F : Fam) : Prop :=
  match ops[i]? with
  | none => K Γ F
  | some o => (∀ t, o.dst = some t → t < n) ∧
      ((i ∉ ms ∧ (∀ t, o.dst = some t → t ∉ F.tl) ∧ ∃ τ, OpG P B ops Ωs Γ o τ ∧ K (Γ.put o.dst τ) F) ∨
       (i ∈ ms ∧ ∃ (μ : F.ν → Type) (τ : (g : F.ν) → μ g → Ty) (Ω' : (g : F.ν) → μ g → List Pe), OpF P B Ωs Γ F o τ Ω' ∧ K (Γ.put o.dst Ty.any) (F.next o.dst τ Ω')))

/-- whatever order is picked from here on -/
def TAny (md : Region.Mode) (K : Env → Fam → Prop) : Nat → Array Bool → Env → Fam → Prop
  | 0, listed, Γ, F => Region.ready md ops listed = [] ∧ K Γ F
  | fuel + 1, listed, Γ, F =>
    (Region.ready md ops listed = [] → K Γ F) ∧
    ∀ i ∈ Region.ready md ops listed, tOp P B Ωs ops n ms i (TAny md K fuel (listed.setIfInBounds i true)) Γ F
end

section any
variable {P : Program} {B : Nat} {Ωs : List Pe} {ops : Array Oper} {n : Nat} {ms : List Nat} {md : Region.Mode}

theorem OpG.congr {Γ Γ' : Env} {o : Oper} {τ : Ty} (h : OpG P B ops Ωs Γ o τ) (he : ∀ t ∈ o.looksAt ops, Γ' t = Γ t) : OpG P B ops Ωs Γ' o τ :=
  fun A a w hB hu hp hl => h A a w hB hu hp fun t ht => by have := hl t ht; rwa [he t ht] at this
theorem mem_looks {o : Oper} {t : Tmp} (h : .tmp t ∈ o.op.operands.toList) : t ∈ o.looksAt ops := by
  unfold Oper.looksAt
  refine List.mem_append.2 (.inl ?_)
  exact List.mem_filterMap.2 ⟨.tmp t, h, rfl⟩
theorem OpF.congr {Γ Γ' : Env} {F : Fam} {o : Oper} {μ : F.ν → Type} {τ : (g : F.ν) → μ g → Ty} {Ω' : (g : F.ν) → μ g → List Pe} (h : OpF P B Ωs Γ F o τ Ω') (he : ∀ t ∈ o.looksAt ops, Γ' t = Γ t) : OpF P B Ωs Γ' F o τ Ω' :=
  fun g => ⟨(h g).1, fun A0 a w hB hu ho ha hp hl => (h g).2 A0 a w hB hu ho ha hp fun t ht => by
    have h2 := hl t ht
    exact ⟨h2.1, by have := h2.2; rwa [he t (mem_looks ht)] at this⟩⟩

theorem tOp_mono {i : Nat} {Γ : Env} {F : Fam} {K K' : Env → Fam → Prop} (h : ∀ Γ F, K Γ F → K' Γ F) (hh : tOp P B Ωs ops n ms i K Γ F) : tOp P B Ωs ops n ms i K' Γ F := by
  unfold tOp at *
  split
  · rename_i ho; simp only [ho] at hh; exact h _ _ hh
  · rename_i o ho
    simp only [ho] at hh
    obtain ⟨h1, hh⟩ := hh
    refine ⟨h1, ?_⟩
    rcases hh with ⟨h2, h2', τ, h3, h4⟩ | ⟨h2, μ, τ, Ω', h3, h4⟩
    · exact .inl ⟨h2, h2', τ, h3, h _ _ h4⟩
    · exact .inr ⟨h2, μ, τ, Ω', h3, h _ _ h4⟩

theorem Env.put_comm (Γ : Env) {x y : Option Tmp} (τ σ : Ty) (h : ∀ d, x = some d → y ≠ some d) : (Γ.put x τ).put y σ = (Γ.put y σ).put x τ := by
  cases x with
  | none => rfl
  | some d =>
    cases y with
    | none => rfl
    | some e =>
      have hne : d ≠ e := fun he => h d rfl (he ▸ rfl)
      funext t
      simp only [Env.put, Env.set]
      by_cases h1 : t = e
      · subst h1; simp [Ne.symm hne]
      · simp [h1]

theorem Env.put_other (Γ : Env) {x : Option Tmp} (τ : Ty) {t : Tmp} (h : x ≠ some t) : Γ.put x τ t = Γ t := by
  cases x with
  | none => rfl
  | some d => simp only [Env.put, Env.set]; rw [if_neg (fun e => h (by rw [e]))]

/-- a step that touches no private block changes places with any -/
theorem tOp_putG {j : Nat} {oi oj : Oper} {τi : Ty} (hj : ops[j]? = some oj) (hap : oi.apart ops oj = true) {K : Env → Fam → Prop} {Γ : Env} {F : Fam}
    (hoff : ∀ t, oi.dst = some t → t ∉ F.tl)
    (hy : OpG P B ops Ωs Γ oi τi) (h : tOp P B Ωs ops n ms j K (Γ.put oi.dst τi) F) :
    tOp P B Ωs ops n ms j (fun Γ' F' => (∀ t, oi.dst = some t → t ∉ F'.tl) ∧ OpG P B ops Ωs Γ' oi τi ∧ K (Γ'.put oi.dst τi) F') Γ F := by
  obtain ⟨h1, h2, h3⟩ := Oper.apart_spec hap
  unfold tOp at *
  simp only [hj] at *
  obtain ⟨hd, h⟩ := h
  refine ⟨hd, ?_⟩
  rcases h with ⟨hm, hof, τ, ho, hK⟩ | ⟨hm, μ, τ, Ω', ho, hK⟩
  · refine .inl ⟨hm, hof, τ, ho.congr fun t ht => (Env.put_other _ _ fun e => h1 t e ht).symm, hoff, hy.congr fun t ht => Env.put_other _ _ fun e => h3 t e ht, ?_⟩
    rw [← Env.put_comm Γ τi τ h2]; exact hK
  · refine .inr ⟨hm, μ, τ, Ω', ho.congr (ops := ops) fun t ht => (Env.put_other _ _ fun e => h1 t e ht).symm, fun t ht hx => ?_, hy.congr fun t ht => Env.put_other _ _ fun e => h3 t e ht, ?_⟩
    · rcases List.mem_append.1 hx with hx | hx
      · exact h2 t ht (by simpa using hx)
      · exact hoff t ht hx
    · rw [← Env.put_comm Γ τi Ty.any h2]; exact hK
/-- and any step with one that touches none -/
theorem tOp_putT {j : Nat} {oi oj : Oper} (hj : ops[j]? = some oj) (hjm : j ∉ ms) (hap : oi.apart ops oj = true) {K : Env → Fam → Prop} {Γ : Env} {F : Fam} {μi : F.ν → Type} {τi : (g : F.ν) → μi g → Ty} {Ωi : (g : F.ν) → μi g → List Pe}
    (hy : OpF P B Ωs Γ F oi τi Ωi) (h : tOp P B Ωs ops n ms j K (Γ.put oi.dst Ty.any) (F.next oi.dst τi Ωi)) :
    tOp P B Ωs ops n ms j (fun Γ' F' => ∃ (μi : F'.ν → Type) (τi : (g : F'.ν) → μi g → Ty) (Ωi : (g : F'.ν) → μi g → List Pe), OpF P B Ωs Γ' F' oi τi Ωi ∧ K (Γ'.put oi.dst Ty.any) (F'.next oi.dst τi Ωi)) Γ F := by
  obtain ⟨h1, h2, h3⟩ := Oper.apart_spec hap
  unfold tOp at *
  simp only [hj] at *
  obtain ⟨hd, h⟩ := h
  refine ⟨hd, ?_⟩
  rcases h with ⟨hm, hof, τ, ho, hK⟩ | ⟨hm, _⟩
  · refine .inl ⟨hm, fun t ht hx => hof t ht (List.mem_append_right _ hx), τ, ho.congr fun t ht => (Env.put_other _ _ fun e => h1 t e ht).symm, μi, τi, Ωi, hy.congr (ops := ops) fun t ht => Env.put_other _ _ fun e => h3 t e ht, ?_⟩
    rw [← Env.put_comm Γ Ty.any τ h2]; exact hK
  · exact absurd hm hjm

/-- of the steps that touch private blocks none but i can come next -/
def Next1 (md : Region.Mode) (ops : Array Oper) (ms : List Nat) (i : Nat) (listed : Array Bool) : Prop :=
  i ∈ ms → ∀ t ∈ ms, t ≠ i → listed.getD t true = true ∨ ∃ i' ∈ ms, listed.getD i' true = false ∧ ∀ ot, ops[t]? = some ot → ∃ e ∈ ot.after, Region.binds md e = true ∧ e.on = i'

theorem Next1.not {i j : Nat} {listed : Array Bool} (h : Next1 md ops ms i listed) (hi : i ∈ ms) (hji : j ≠ i) (hj : j ∈ Region.ready md ops listed) : j ∉ ms := fun hm => by
  obtain ⟨hjun, oj, hoj, hall⟩ := mem_ready.1 hj
  rcases h hi j hm hji with h1 | ⟨i', hi', hun, he⟩
  · rw [h1] at hjun; cases hjun
  · obtain ⟨e, he1, he2, he3⟩ := he oj hoj
    have h2 := hall e he1 he2
    rw [he3] at h2
    rcases Nat.lt_or_ge i' listed.size with h' | h'
    · simp [h'] at hun h2; rw [hun] at h2; cases h2
    · simp [Array.getElem?_eq_none h'] at h2
theorem Next1.set {i j : Nat} {listed : Array Bool} (h : Next1 md ops ms i listed) (hj : j ∉ ms) : Next1 md ops ms i (listed.setIfInBounds j true) := fun hi t ht hti => by
  rcases h hi t ht hti with h1 | ⟨i', hi', hun, he⟩
  · left
    by_cases hjt : j = t
    · subst hjt; exact absurd ht hj
    · rw [getD_set_ne true hjt]; exact h1
  · right
    exact ⟨i', hi', by rw [getD_set_ne true (fun e => hj (by rw [e]; exact hi'))]; exact hun, he⟩
theorem Next1.off {i : Nat} {listed : Array Bool} (h : i ∉ ms) : Next1 md ops ms i listed := fun hi => absurd hi h

/-- what is asked of the step that the text has first, and of what follows -/
def FirstG (P : Program) (B : Nat) (Ωs : List Pe) (ops : Array Oper) (oi : Oper) (K : Env → Fam → Prop) (Γ : Env) (F : Fam) : Prop :=
  (∀ t, oi.dst = some t → t ∉ F.tl) ∧ ∃ τ, OpG P B ops Ωs Γ oi τ ∧ K (Γ.put oi.dst τ) F
def FirstT (P : Program) (B : Nat) (Ωs : List Pe) (oi : Oper) (K : Env → Fam → Prop) (Γ : Env) (F : Fam) : Prop :=
  ∃ (μ : F.ν → Type) (τ : (g : F.ν) → μ g → Ty) (Ω' : (g : F.ν) → μ g → List Pe), OpF P B Ωs Γ F oi τ Ω' ∧ K (Γ.put oi.dst Ty.any) (F.next oi.dst τ Ω')

theorem TAny_first {K : Env → Fam → Prop} {i : Nat} {oi : Oper} (hi : ops[i]? = some oi) (hdi : ∀ t, oi.dst = some t → t < n) :
    ∀ (fuel : Nat) (listed : Array Bool) (Γ : Env) (F : Fam),
      (∀ j oj, ops[j]? = some oj → j ≠ i → listed.getD j true = false → (∀ e ∈ oj.after, Region.binds md e = true → e.on ≠ i) → oi.apart ops oj = true) →
      Next1 md ops ms i listed →
      i ∈ Region.ready md ops listed → (i ∉ ms ∧ FirstG P B Ωs ops oi (TAny P B Ωs ops n ms md K fuel (listed.setIfInBounds i true)) Γ F ∨
        i ∈ ms ∧ FirstT P B Ωs oi (TAny P B Ωs ops n ms md K fuel (listed.setIfInBounds i true)) Γ F) → TAny P B Ωs ops n ms md K (fuel + 1) listed Γ F := by
  intro fuel
  induction fuel with
  | zero =>
    intro listed Γ F _ hn hr hy
    refine ⟨fun h => (by rw [h] at hr; cases hr), fun j hj => ?_⟩
    by_cases hji : j = i
    · subst hji; unfold tOp; simp only [hi]
      refine ⟨hdi, ?_⟩
      rcases hy with ⟨hm, ho, τ, hy, H⟩ | ⟨hm, μ, τ, Ω', hy, H⟩
      · exact .inl ⟨hm, ho, τ, hy, H⟩
      · exact .inr ⟨hm, μ, τ, Ω', hy, H⟩
    · have := ready_mono hj hji
      rcases hy with ⟨hm, ho, τ, hy, H⟩ | ⟨hm, μ, τ, Ω', hy, H⟩ <;> rw [H.1] at this <;> cases this
  | succ fuel ih =>
    intro listed Γ F hfree hn hr hy
    refine ⟨fun h => (by rw [h] at hr; cases hr), fun j hj => ?_⟩
    by_cases hji : j = i
    · subst hji; unfold tOp; simp only [hi]
      refine ⟨hdi, ?_⟩
      rcases hy with ⟨hm, ho, τ, hy, H⟩ | ⟨hm, μ, τ, Ω', hy, H⟩
      · exact .inl ⟨hm, ho, τ, hy, H⟩
      · exact .inr ⟨hm, μ, τ, Ω', hy, H⟩
    · obtain ⟨hjun, oj, hoj, hall⟩ := mem_ready.1 hj
      have hnot : ∀ e ∈ oj.after, Region.binds md e = true → e.on ≠ i := fun e he hb heq => by
        have h1 := hall e he hb
        have h0 := (mem_ready.1 hr).1
        rw [heq] at h1
        rcases Nat.lt_or_ge i listed.size with h' | h'
        · simp [h'] at h0 h1; rw [h0] at h1; cases h1
        · simp [Array.getElem?_eq_none h'] at h1
      have hap := hfree j oj hoj hji hjun hnot
      have hfree' : ∀ k ok, ops[k]? = some ok → k ≠ i → (listed.setIfInBounds j true).getD k true = false →
          (∀ e ∈ ok.after, Region.binds md e = true → e.on ≠ i) → oi.apart ops ok = true := fun k ok hk hki hun hno => by
        refine hfree k ok hk hki ?_ hno
        by_cases hjk : j = k
        · subst hjk; exact hjun
        · rw [getD_set_ne true hjk] at hun; exact hun
      rcases hy with ⟨hm, ho, τ, hy, H⟩ | ⟨hm, μ, τ, Ω', hy, H⟩
      · have h1 := H.2 j (ready_mono hj hji)
        refine tOp_mono (fun Γ' F' h3 => ih (listed.setIfInBounds j true) Γ' F' hfree' (Next1.off hm) (ready_mono hr (Ne.symm hji)) (.inl ⟨hm, h3.1, τ, h3.2.1, ?_⟩)) (tOp_putG hoj hap ho hy h1)
        rw [Array.setIfInBounds_comm _ _ hji]
        exact h3.2.2
      · have h1 := H.2 j (ready_mono hj hji)
        have hjm := hn.not hm hji hj
        refine tOp_mono (fun Γ' F' h3 => ih (listed.setIfInBounds j true) Γ' F' hfree' (hn.set hjm) (ready_mono hr (Ne.symm hji)) (.inr ⟨hm, ?_⟩)) (tOp_putT hoj hjm hap hy h1)
        rw [Array.setIfInBounds_comm _ _ hji]
        exact h3

/-- the steps that touch private blocks hang one on the other -/
def chainB (md : Region.Mode) (ops : Array Oper) : List Nat → Bool
  | p :: q :: r => decide (p < q) && ((ops[q]?).all fun o => o.after.any fun e => Region.binds md e && e.on == p) && chainB md ops (q :: r)
  | _ => true

theorem chainB_spec : ∀ (l : List Nat), chainB md ops l = true → (∀ t ∈ l, l.headD 0 ≤ t) ∧ ∀ i ∈ l, ∀ t ∈ l, i < t → ∃ i' ∈ l, i ≤ i' ∧ i' < t ∧ ∀ ot, ops[t]? = some ot → ∃ e ∈ ot.after, Region.binds md e = true ∧ e.on = i'
  | [], _ => ⟨fun t h => by simp at h, fun i h => by simp at h⟩
  | [p], _ => ⟨fun t h => by simp at h; simp [h], fun i hi t ht hlt => by simp at hi ht; omega⟩
  | p :: q :: r, h => by
    simp only [chainB, Bool.and_eq_true, decide_eq_true_eq] at h
    obtain ⟨⟨h1, h2⟩, h3⟩ := h
    obtain ⟨g1, g2⟩ := chainB_spec (q :: r) h3
    have hge : ∀ t ∈ q :: r, q ≤ t := fun t ht => by simpa using g1 t ht
    refine ⟨fun t ht => ?_, fun i hi t ht hlt => ?_⟩
    · rcases List.mem_cons.1 ht with rfl | ht1
      · simp
      · have := hge t ht1; simp; omega
    · rcases List.mem_cons.1 ht with rfl | ht1
      · rcases List.mem_cons.1 hi with rfl | hi1
        · omega
        · have := hge i hi1; omega
      · rcases List.mem_cons.1 hi with rfl | hi1
        · by_cases hq : t = q
          · subst hq
            refine ⟨i, by simp, Nat.le_refl _, h1, fun ot hot => ?_⟩
            rw [hot] at h2
            simp only [Option.all_some] at h2
            obtain ⟨j, hj, he⟩ := Array.any_eq_true.1 h2
            simp only [Bool.and_eq_true, beq_iff_eq] at he
            exact ⟨_, Array.getElem_mem hj, he.1, he.2⟩
          · have := hge t ht1
            obtain ⟨i', k1, k2, k3, k4⟩ := g2 q (by simp) t ht1 (by omega)
            exact ⟨i', List.mem_cons_of_mem _ k1, by omega, k3, k4⟩
        · obtain ⟨i', k1, k2, k3, k4⟩ := g2 i hi1 t ht1 hlt
          exact ⟨i', List.mem_cons_of_mem _ k1, k2, k3, k4⟩

theorem TAny_lex (hc : chainB md ops ms = true) {K : Env → Fam → Prop} : ∀ (l : List Oper) (k : Nat) (listed : Array Bool) (Γ : Env) (F : Fam), (∀ j, l[j]? = ops[k + j]?) → listed.size = ops.size → (∀ t, t < ops.size → listed.getD t true = decide (t < k)) →
    Region.lexFrom md ops l.length k listed = true → TRw P B Ωs ops n ms k l Γ F K → TAny P B Ωs ops n ms md K l.length listed Γ F
  | [], _, _, _, _, _, _, _, hB, h => ⟨by simpa [Region.lexFrom] using hB, h⟩
  | o :: l, k, listed, Γ, F, hl, hz, ht, hB, h => by
    have h0 : ops[k]? = some o := by simpa using (hl 0).symm
    have hk : k < ops.size := (Array.getElem?_eq_some_iff.1 h0).1
    simp only [List.length_cons, Region.lexFrom, Bool.and_eq_true] at hB
    obtain ⟨⟨hr, hf⟩, hB'⟩ := hB
    obtain ⟨hd, h⟩ := h
    have hn : Next1 md ops ms k listed := fun hk' t htm htk => by
      by_cases hts : t < ops.size
      · rcases Nat.lt_or_ge t k with h1 | h1
        · left; rw [ht t hts]; simpa using h1
        · right
          obtain ⟨i', k1, k2, k3, k4⟩ := (chainB_spec ms hc).2 k hk' t htm (by omega)
          exact ⟨i', k1, by rw [ht i' (by omega)]; simpa using k2, k4⟩
      · left
        rw [Array.getD_eq_getD_getElem?, Array.getElem?_eq_none (by omega)]; rfl
    have ih := fun Γ' F' hK => TAny_lex hc (K := K) l (k + 1) (listed.setIfInBounds k true) Γ' F' (fun j => by have := hl (j + 1); simpa [Nat.add_assoc, Nat.add_comm 1 j] using this) (by simpa using hz) (fun t hts => by
      by_cases h1 : k = t
      · subst h1
        have : k < listed.size := by omega
        simp [this]
      · rw [getD_set_ne true h1, ht t hts, decide_eq_decide]; omega) hB' hK
    rcases h with ⟨hm, ho, τ, hy, hK⟩ | ⟨hm, μ, τ, Ω', hy, hK⟩
    · exact TAny_first h0 hd l.length listed Γ F (Region.free_spec h0 hf) hn (by simpa using hr) (.inl ⟨hm, ho, τ, hy, ih _ _ hK⟩)
    · exact TAny_first h0 hd l.length listed Γ F (Region.free_spec h0 hf) hn (by simpa using hr) (.inr ⟨hm, μ, τ, Ω', hy, ih _ _ hK⟩)
end any
end Go.Proofs.Ytfdmajkeihdhnaa.Tr
