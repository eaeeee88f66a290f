/- Drawn regions in two phases: where each later step waits for each earlier one. Conditions: none. -/
import Derived.Test.YtfdmajkeihdhnaaPp
namespace Go.Proofs.Ytfdmajkeihdhnaa.Tr
open Go Go.RowKit
set_option linter.unusedVariables false
set_option linter.unnecessarySimpa false

/-- a step that waits for another one -/
def edgeB (md : Region.Mode) (ops : Array Oper) (i t : Nat) : Bool := (ops[i]?).any fun o => o.after.toList.any fun e => Region.binds md e && decide (e.on = t)
theorem edgeB_spec {md : Region.Mode} {ops : Array Oper} {i t : Nat} (h : edgeB md ops i t = true) : ∃ o, ops[i]? = some o ∧ ∃ e ∈ o.after, Region.binds md e = true ∧ e.on = t := by
  unfold edgeB at h
  cases ho : ops[i]? with
  | none => rw [ho] at h; cases h
  | some o =>
    rw [ho] at h
    simp only [Option.any_some, List.any_eq_true, Bool.and_eq_true, decide_eq_true_eq] at h
    obtain ⟨e, he, h1, h2⟩ := h
    exact ⟨o, rfl, e, by simpa using he, h1, h2⟩
/-- the steps from k on wait for all ahead of k, through one another; each waits for earlier ones alone, and its guard is an earlier one -/
def barB (md : Region.Mode) (ops : Array Oper) (k : Nat) : Bool :=
  ((List.range ops.size).all fun i => (ops[i]?).all fun o =>
    (o.after.toList.all fun e => !Region.binds md e || decide (e.on < i)) && (o.guard.all fun g => decide (g.1 < i))) &&
  (List.range k).all fun t => ((List.range (ops.size - k)).all fun i => edgeB md ops (k + i) t) || (List.range (k - t - 1)).any fun s => edgeB md ops (t + 1 + s) t

theorem barB_spec {md : Region.Mode} {ops : Array Oper} {k : Nat} (h : barB md ops k = true) {i : Nat} {o : Oper} (ho : ops[i]? = some o) :
    (∀ e ∈ o.after, Region.binds md e = true → e.on < i) ∧ (∀ g, o.guard = some g → g.1 < i) := by
  have hi : i < ops.size := (Array.getElem?_eq_some_iff.1 ho).1
  unfold barB at h
  rw [Bool.and_eq_true] at h
  have h1 := List.all_eq_true.1 h.1 i (by simpa using hi)
  rw [ho] at h1
  simp only [Option.all_some, Bool.and_eq_true, List.all_eq_true] at h1
  obtain ⟨h2, h3⟩ := h1
  refine ⟨fun e he hb => by simpa [hb] using h2 e (by simpa using he), fun g hg => ?_⟩
  rw [hg] at h3; simpa using h3
theorem barB_wait {md : Region.Mode} {ops : Array Oper} {k : Nat} (h : barB md ops k = true) {t : Nat} (ht : t < k) :
    (∀ i, k ≤ i → i < ops.size → edgeB md ops i t = true) ∨ ∃ s, t < s ∧ s < k ∧ edgeB md ops s t = true := by
  unfold barB at h
  rw [Bool.and_eq_true] at h
  have h1 := List.all_eq_true.1 h.2 t (by simpa using ht)
  rw [Bool.or_eq_true] at h1
  rcases h1 with h1 | h1
  · left
    intro i hi hs
    have := List.all_eq_true.1 h1 (i - k) (by simp; omega)
    rwa [show k + (i - k) = i by omega] at this
  · right
    obtain ⟨s, hs, he⟩ := List.any_eq_true.1 h1
    exact ⟨t + 1 + s, by omega, by simp at hs; omega, he⟩

section ext
variable {P : Program} {B : Nat} {Ωs : List Pe} {ops ops1 : Array Oper} {n : Nat} {ms : List Nat} {md : Region.Mode}
theorem OpG.ext {Γ : Env} {o : Oper} {τ : Ty} (hg : ∀ g, o.guard = some g → ops1[g.1]? = ops[g.1]?) (h : OpG P B ops1 Ωs Γ o τ) : OpG P B ops Ωs Γ o τ := by
  intro A a w hB hu hp hl
  have e1 : o.looksAt ops = o.looksAt ops1 := by
    unfold Oper.looksAt
    cases hq : o.guard with
    | none => rfl
    | some g => obtain ⟨g, b⟩ := g; simp only [hg _ hq]
  have e2 : Region.wanted o (yielded ops a.tmps) = Region.wanted o (yielded ops1 a.tmps) := by
    unfold Region.wanted
    cases hq : o.guard with
    | none => rfl
    | some g => obtain ⟨g, b⟩ := g; have := hg _ hq; simp only at this; simp only [yielded, this]
  have := h A a w hB hu hp (by rw [← e1]; exact hl)
  rw [e2]; exact this
theorem tOp_ext {i : Nat} {K : Env → Fam → Prop} {Γ : Env} {F : Fam} (he : ops1[i]? = ops[i]?) (hg : ∀ o, ops[i]? = some o → ∀ g, o.guard = some g → ops1[g.1]? = ops[g.1]?) (h : tOp P B Ωs ops1 n ms i K Γ F) : tOp P B Ωs ops n ms i K Γ F := by
  unfold tOp at *
  rw [he] at h
  split
  · rename_i ho; simp only [ho] at h; exact h
  · rename_i o ho
    simp only [ho] at h
    obtain ⟨h1, h2⟩ := h
    refine ⟨h1, ?_⟩
    rcases h2 with ⟨h3, h4, τ, h5, h6⟩ | h2
    · exact .inl ⟨h3, h4, τ, h5.ext (hg o ho), h6⟩
    · exact .inr h2
end ext
section any
variable {P : Program} {ops : Array Oper} {md : Region.Mode} {Q : Exit → Act → World → Prop}
theorem wpAny_more {ρ : Option Nat} : ∀ (f : Nat) (listed : Array Bool) (a : Act) (w : World), wpAnyIn (FR ρ) 0 P md ops Q f listed a w → wpAnyIn (FR ρ) 0 P md ops Q (f + 1) listed a w
  | 0, listed, a, w, h => ⟨fun _ => h.2, fun i hi => by rw [h.1] at hi; cases hi⟩
  | f + 1, listed, a, w, h => ⟨h.1, fun i hi => wpOpIn_mono (fun a' w' h' => wpAny_more f _ a' w' h') (h.2 i hi)⟩
theorem wpAny_le {ρ : Option Nat} {f g : Nat} (hfg : f ≤ g) {listed : Array Bool} {a : Act} {w : World} (h : wpAnyIn (FR ρ) 0 P md ops Q f listed a w) : wpAnyIn (FR ρ) 0 P md ops Q g listed a w := by
  induction hfg with
  | refl => exact h
  | step _ ih => exact wpAny_more _ _ _ _ ih

variable {r : Ref} {n : Nat} {Ωs : List Pe} {ms : List Nat} {ops1 : Array Oper} {k m : Nat}
theorem wpAny_phase [op : Opens r] (hb : barB md ops k = true) (hk : k ≤ ops.size) (h1 : ∀ i, i < k → ops1[i]? = ops[i]?) (hz1 : ops1.size = k) {K : Env → Fam → Prop}
    (hQ : ∀ Γ F a w (listed : Array Bool), listed.size = ops.size → (∀ t, t < ops.size → listed.getD t true = decide (t < k)) → RSt r n Ωs Γ F a w → K Γ F → wpAnyIn (FR r.ρ) 0 P md ops Q m listed a w) :
    ∀ (fuel : Nat) (l1 listed : Array Bool) (Γ : Env) (F : Fam) (a : Act) (w : World), l1.size = k → listed.size = ops.size → (∀ t, t < k → listed.getD t true = l1.getD t true) → (∀ t, k ≤ t → t < ops.size → listed.getD t true = false) →
      (∀ j, j < k → l1.getD j true = true → ∀ o, ops1[j]? = some o → ∀ e ∈ o.after, Region.binds md e = true → l1.getD e.on false = true) →
      RSt r n Ωs Γ F a w → TAny P r.w.heap.size Ωs ops1 n ms md K fuel l1 Γ F → wpAnyIn (FR r.ρ) 0 P md ops Q (fuel + m) listed a w := by
  have hgd : ∀ (l : Array Bool) (t : Nat), t < l.size → l.getD t false = l.getD t true := fun l t ht => by simp [ht]
  -- when nothing of the first phase is ready, all of it is done
  have hall : ∀ (l1 : Array Bool), l1.size = k → Region.ready md ops1 l1 = [] → ∀ t, t < k → l1.getD t true = true := by
    intro l1 hs hr t
    induction t using Nat.strongRecOn with
    | _ t ih =>
      intro ht
      cases hc : l1.getD t true with
      | true => rfl
      | false =>
        exfalso
        obtain ⟨o, ho⟩ : ∃ o, ops1[t]? = some o := ⟨ops1[t]'(by omega), Array.getElem?_eq_getElem (by omega)⟩
        have hmem : t ∈ Region.ready md ops1 l1 := mem_ready.2 ⟨hc, o, ho, fun e he hbe => by
          have hlt := (barB_spec hb (by rw [← h1 t ht]; exact ho)).1 e he hbe
          rw [hgd l1 e.on (by omega)]; exact ih e.on hlt (by omega)⟩
        rw [hr] at hmem; cases hmem
  have hrd : ∀ (l1 listed : Array Bool), l1.size = k → listed.size = ops.size → (∀ t, t < k → listed.getD t true = l1.getD t true) → (∀ t, k ≤ t → t < ops.size → listed.getD t true = false) →
      (∀ j, j < k → l1.getD j true = true → ∀ o, ops1[j]? = some o → ∀ e ∈ o.after, Region.binds md e = true → l1.getD e.on false = true) → ¬ (∀ t, t < k → l1.getD t true = true) →
      ∀ i, i ∈ Region.ready md ops listed → i < k ∧ i ∈ Region.ready md ops1 l1 := by
    intro l1 listed hs hz he hf hcl hn i hi
    obtain ⟨hun, o, ho, hall'⟩ := mem_ready.1 hi
    have hik : i < k := by
      rcases Nat.lt_or_ge i k with h | h
      · exact h
      · exfalso
        have key : ∀ q t, t < k → k - t ≤ q → l1.getD t true = true := by
          intro q
          induction q with
          | zero => intro t ht hq; omega
          | succ q ih =>
            intro t ht hq
            rcases barB_wait hb ht with h5 | ⟨s, h5, h6, h7⟩
            · obtain ⟨o', ho', e, he1, he2, he3⟩ := edgeB_spec (h5 i h (by have := (Array.getElem?_eq_some_iff.1 ho).1; omega))
              rw [ho] at ho'
              injection ho' with ho'
              subst ho'
              have := hall' e he1 he2
              rw [he3, hgd listed t (by omega)] at this
              rw [← he t ht]; exact this
            · obtain ⟨o', ho', e, he1, he2, he3⟩ := edgeB_spec h7
              have := hcl s h6 (ih s h6 (by omega)) o' (by rw [h1 s h6]; exact ho') e he1 he2
              rw [he3, hgd l1 t (by omega)] at this
              exact this
        exact hn fun t ht => key k t ht (by omega)
    refine ⟨hik, mem_ready.2 ⟨by rw [← he i hik]; exact hun, o, by rw [h1 i hik]; exact ho, fun e he1 he2 => ?_⟩⟩
    have hlt := (barB_spec hb ho).1 e he1 he2
    have := hall' e he1 he2
    rw [hgd listed _ (by omega)] at this
    rw [hgd l1 _ (by omega), ← he _ (by omega)]; exact this
  intro fuel
  induction fuel with
  | zero =>
    intro l1 listed Γ F a w hs hz he hf hcl ha h
    have hd := hall l1 hs h.1
    rw [Nat.zero_add]
    refine hQ Γ F a w listed hz (fun t ht => ?_) ha h.2
    by_cases htk : t < k
    · rw [he t htk, hd t htk]; simp [htk]
    · rw [hf t (by omega) ht]; simp [htk]
  | succ fuel ih =>
    intro l1 listed Γ F a w hs hz he hf hcl ha h
    by_cases hd : ∀ t, t < k → l1.getD t true = true
    · have hr : Region.ready md ops1 l1 = [] := by
        cases hr : Region.ready md ops1 l1 with
        | nil => rfl
        | cons i _ =>
          exfalso
          obtain ⟨hun, o, ho, -⟩ := mem_ready.1 (show i ∈ Region.ready md ops1 l1 by rw [hr]; exact List.mem_cons_self ..)
          have hi : i < k := by have := (Array.getElem?_eq_some_iff.1 ho).1; omega
          rw [hd i hi] at hun; cases hun
      exact wpAny_le (by omega) (hQ Γ F a w listed hz (fun t ht => by
        by_cases htk : t < k
        · rw [he t htk, hd t htk]; simp [htk]
        · rw [hf t (by omega) ht]; simp [htk]) ha (h.1 hr))
    · rw [show fuel + 1 + m = (fuel + m) + 1 by omega]
      refine ⟨fun hr => ?_, fun i hi => ?_⟩
      · exfalso
        -- the first that isn't listed is ready
        refine hd (hall l1 hs ?_)
        cases hr1 : Region.ready md ops1 l1 with
        | nil => rfl
        | cons i _ =>
          exfalso
          obtain ⟨hun, o, ho, hall'⟩ := mem_ready.1 (show i ∈ Region.ready md ops1 l1 by rw [hr1]; exact List.mem_cons_self ..)
          have hik : i < k := by have := (Array.getElem?_eq_some_iff.1 ho).1; omega
          have : i ∈ Region.ready md ops listed := mem_ready.2 ⟨by rw [he i hik]; exact hun, o, by rw [← h1 i hik]; exact ho, fun e he1 he2 => by
            have hlt := (barB_spec hb (by rw [← h1 i hik]; exact ho)).1 e he1 he2
            have := hall' e he1 he2
            rw [hgd l1 _ (by omega)] at this
            rw [hgd listed _ (by omega), he _ (by omega)]; exact this⟩
          rw [hr] at this; cases this
      · obtain ⟨hik, hi1⟩ := hrd l1 listed hs hz he hf hcl hd i hi
        have ht := tOp_ext (h1 i hik) (fun o ho g hg => h1 _ (by have := (barB_spec hb ho).2 g hg; omega)) (h.2 i hi1)
        refine wpOp_of_tOp ha (fun Γ' F' a' w' ha' hK => ih _ _ Γ' F' a' w' (by simpa using hs) (by simpa using hz) (fun t htk => ?_) (fun t htk hts => ?_) (fun j hj hjl o ho e he1 he2 => ?_) ha' hK) ht
        · by_cases e : i = t
          · subst e; simp [hs, hz, hik, show i < ops.size by omega]
          · rw [getD_set_ne true e, getD_set_ne true e]; exact he t htk
        · rw [getD_set_ne true (show i ≠ t by omega)]; exact hf t htk hts
        · have hlt := (barB_spec hb (by rw [← h1 j hj]; exact ho)).1 e he1 he2
          have hold : l1.getD e.on false = true := by
            by_cases hij : i = j
            · subst hij
              obtain ⟨-, o2, ho2, hall'⟩ := mem_ready.1 hi1
              rw [ho] at ho2
              injection ho2 with ho2
              subst ho2
              exact hall' e he1 he2
            · rw [getD_set_ne true hij] at hjl
              exact hcl j hj hjl o ho e he1 he2
          by_cases h9 : i = e.on
          · simp [← h9, hs, hik]
          · rw [getD_set_ne false h9]; exact hold
end any
theorem lexFrom_drop {md : Region.Mode} {ops : Array Oper} : ∀ (j m s : Nat) (listed : Array Bool), listed.size = ops.size → s + j ≤ ops.size → (∀ t, t < ops.size → listed.getD t true = decide (t < s)) → Region.lexFrom md ops (j + m) s listed = true →
    ∃ listed', listed'.size = ops.size ∧ (∀ t, t < ops.size → listed'.getD t true = decide (t < s + j)) ∧ Region.lexFrom md ops m (s + j) listed' = true
  | 0, m, s, listed, hz, _, ht, h => ⟨listed, hz, ht, by rw [Nat.zero_add] at h; exact h⟩
  | j + 1, m, s, listed, hz, hs, ht, h => by
    rw [show j + 1 + m = (j + m) + 1 by omega] at h
    simp only [Region.lexFrom, Bool.and_eq_true] at h
    have := lexFrom_drop j m (s + 1) (listed.setIfInBounds s true) (by simpa using hz) (by omega) (fun t hts => by
      by_cases h1 : s = t
      · subst h1
        have : s < listed.size := by omega
        simp [this]
      · rw [getD_set_ne true h1, ht t hts, decide_eq_decide]; omega) h.2
    rw [show s + (j + 1) = s + 1 + j by omega]; exact this
theorem listed_ext {l l' : Array Bool} (hs : l.size = l'.size) (h : ∀ t, t < l.size → l.getD t true = l'.getD t true) : l = l' := by
  apply Array.ext hs
  intro t h1 h2
  have := h t h1
  simpa [h1, h2] using this
section tc
variable {P : Program} {r : Ref} {n : Nat} {Γ : Env} {Ω : List Pe} {Q : Exit → Act → World → Prop}
theorem TC.regionP [op : Opens r] {id : Nat} {l : List Oper} {Q' : Exit → Act → World → Prop} (k : Nat) (ms ms2 : List Nat) (Ωs Ωt : List Pe) (hΩ : Less Ω (Ωs ++ Ωt)) (hm : P.follows .mixedOrders = true) (hB : Region.lexB .any l.toArray = true) (hB1 : Region.lexB .any (l.take k).toArray = true)
    (hk : Nat.ble k l.length = true) (hb : barB .any l.toArray k = true) (hc : chainB .any (l.take k).toArray ms = true) (hc2 : chainB .any l.toArray ms2 = true)
    (h : TRw P r.w.heap.size Ωs (l.take k).toArray n ms 0 (l.take k) Γ (Fam.one Ωt) fun Γ' F' => ∀ g, ∃ Ωs2 Ωt2, Less (Ωs ++ F'.Ω g) (Ωs2 ++ Ωt2) ∧
      TRw P r.w.heap.size Ωs2 l.toArray n ms2 k (l.drop k) (Env.or (F'.Θ g) Γ') (Fam.one Ωt2) fun Γ'' F'' => ∀ g, TE r n (Env.or (F''.Θ g) Γ'') (Ωs2 ++ F''.Ω g) Q' .normal) : TC P r n Γ Ω (.region id l.toArray true) Q' := by
  intro a w hs
  have hs := hs.less hΩ
  have hkl : k ≤ l.length := Nat.le_of_ble_eq_true hk
  have hB0 := hB
  simp only [Region.lexB, Bool.and_eq_true] at hB hB1
  refine wpIn_region_any hm ?_
  have h2 := TAny_lex (P := P) (md := .any) (ops := (l.take k).toArray) hc (l.take k) 0 (Array.replicate (l.take k).toArray.size false) Γ (Fam.one Ωt) (fun j => by simp) (by simp) (fun t ht => by
    rw [Array.getD_eq_getD_getElem?, Array.getElem?_replicate]; have h6 : t < min k l.length := by simpa using ht
    simp [h6]) (by simpa using hB1.2) h
  have hg : Grow r.w.heap.size w { w with drawn := w.drawn + 1 } := Grow.drawn _
  have h3 : RSt r n Ωs Γ (Fam.one Ωt) a { w with drawn := w.drawn + 1 } :=
    ⟨(), hs.sz, hs.df, hs.mu.stp (Stp.of_grow (S := fun _ => False) hg) (fun j hj => hj.elim), fun t => ⟨trivial, (Γ t).st hg (hs.ty t)⟩, hs.pv.grow hg⟩
  have hsz : l.toArray.size = k + (l.drop k).length := by simp; omega
  have := wpAny_phase (P := P) (md := .any) (ops := l.toArray) (ops1 := (l.take k).toArray) (Q := Q') (r := r) (n := n) (Ωs := Ωs) (ms := ms) (k := k) (m := (l.drop k).length) hb (by simpa using hkl) (fun i hi => by simp [List.getElem?_take, hi]) (by simp; omega)
    (fun Γ' F' a w listed hz ht ⟨g, hok⟩ hK => by
      obtain ⟨Ωs2, Ωt2, hl2, hT⟩ := hK g
      obtain ⟨listed', hz', ht', hlex⟩ := lexFrom_drop (md := .any) (ops := l.toArray) k (l.drop k).length 0 (Array.replicate l.toArray.size false) (by simp) (by simpa using hkl) (fun t ht => by
        rw [Array.getD_eq_getD_getElem?, Array.getElem?_replicate]; simp at ht; simp [ht]) (by rw [← hsz]; simpa using hB.2)
      have he : listed' = listed := listed_ext (by rw [hz, hz']) fun t htt => by
        rw [hz'] at htt
        rw [ht' t htt, ht t htt, Nat.zero_add]
      subst he
      have h4 := TAny_lex (P := P) (md := .any) (ops := l.toArray) hc2 (l.drop k) k listed' (Env.or (F'.Θ g) Γ') (Fam.one Ωt2) (fun j => by simp [List.getElem?_drop]) hz ht (by rw [Nat.zero_add] at hlex; exact hlex) hT
      have hok' := hok.less hl2
      exact wpAny_of_T (P := P) (Q' := Q') (md := .any) (fun Γ'' F'' a w ⟨g, hok⟩ hK => hK g a w hok) _ _ _ (Fam.one Ωt2) a w ⟨(), hok'.sz, hok'.df, hok'.mu, fun t => ⟨trivial, hok'.ty t⟩, hok'.pv⟩ h4)
    (l.take k).length (Array.replicate (l.take k).toArray.size false) (Array.replicate l.toArray.size false) Γ (Fam.one Ωt) a { w with drawn := w.drawn + 1 } (by simp; omega) (by simp) (fun t ht => by
      rw [Array.getD_eq_getD_getElem?, Array.getElem?_replicate, Array.getD_eq_getD_getElem?, Array.getElem?_replicate]
      have h5 : t < l.length := by omega
      have h6 : t < min k l.length := by omega
      simp [h5, h6]) (fun t h5 h6 => by
      rw [Array.getD_eq_getD_getElem?, Array.getElem?_replicate]; simp at h6; simp [h6]) (fun j hj hjl => by
      rw [Array.getD_eq_getD_getElem?, Array.getElem?_replicate] at hjl
      have h6 : j < min k l.length := by omega
      simp [h6] at hjl) h3 h2
  have hk' : (l.take k).length = k := by simp; omega
  rw [hk', ← hsz] at this
  exact this
theorem TC.seqPh [op : Opens r] {id : Nat} {l : List Oper} {y : Code} {Ωs Ωt : List Pe} (k : Nat) (ms ms2 bs : List Nat) [hs : Split Ω bs Ωs Ωt] (hm : P.follows .mixedOrders = true) (hB : Region.lexB .any l.toArray = true) (hB1 : Region.lexB .any (l.take k).toArray = true)
    (hk : Nat.ble k l.length = true) (hb : barB .any l.toArray k = true) (hc : chainB .any (l.take k).toArray ms = true) (hc2 : chainB .any l.toArray ms2 = true)
    (h : TRw P r.w.heap.size Ωs (l.take k).toArray n ms 0 (l.take k) Γ (Fam.one Ωt) fun Γ' F' => ∀ g, ∃ Ωs2 Ωt2, Less (Ωs ++ F'.Ω g) (Ωs2 ++ Ωt2) ∧
      TRw P r.w.heap.size Ωs2 l.toArray n ms2 k (l.drop k) (Env.or (F'.Θ g) Γ') (Fam.one Ωt2) fun Γ'' F'' => ∀ g, TC P r n (Env.or (F''.Θ g) Γ'') (Ωs2 ++ F''.Ω g) y Q) : TC P r n Γ Ω (.seq (.region id l.toArray true) y) Q :=
  TC.seq (TC.regionP k ms ms2 Ωs Ωt (Less.perm hs.perm) hm hB hB1 hk hb hc hc2 h)
theorem TC.regPh [op : Opens r] {id : Nat} {l : List Oper} {Ωs Ωt : List Pe} (k : Nat) (ms ms2 bs : List Nat) [hs : Split Ω bs Ωs Ωt] (hm : P.follows .mixedOrders = true) (hB : Region.lexB .any l.toArray = true) (hB1 : Region.lexB .any (l.take k).toArray = true)
    (hk : Nat.ble k l.length = true) (hb : barB .any l.toArray k = true) (hc : chainB .any (l.take k).toArray ms = true) (hc2 : chainB .any l.toArray ms2 = true)
    (h : TRw P r.w.heap.size Ωs (l.take k).toArray n ms 0 (l.take k) Γ (Fam.one Ωt) fun Γ' F' => ∀ g, ∃ Ωs2 Ωt2, Less (Ωs ++ F'.Ω g) (Ωs2 ++ Ωt2) ∧
      TRw P r.w.heap.size Ωs2 l.toArray n ms2 k (l.drop k) (Env.or (F'.Θ g) Γ') (Fam.one Ωt2) fun Γ'' F'' => ∀ g, TE r n (Env.or (F''.Θ g) Γ'') (Ωs2 ++ F''.Ω g) Q .normal) : TC P r n Γ Ω (.region id l.toArray true) Q :=
  TC.regionP k ms ms2 Ωs Ωt (Less.perm hs.perm) hm hB hB1 hk hb hc hc2 h
theorem PH.next {B : Nat} {ops : Array Oper} {ms2 : List Nat} {k : Nat} {l : List Oper} {K : List Pe → Env → Fam → Prop} {Ωs2 Ωt2 : List Pe} (bs : List Nat) [hs : Split Ω bs Ωs2 Ωt2] (h : TRw P B Ωs2 ops n ms2 k l Γ (Fam.one Ωt2) (K Ωs2)) :
    ∃ Ωs2 Ωt2, Less Ω (Ωs2 ++ Ωt2) ∧ TRw P B Ωs2 ops n ms2 k l Γ (Fam.one Ωt2) (K Ωs2) := ⟨Ωs2, Ωt2, Less.perm hs.perm, h⟩
end tc
end Go.Proofs.Ytfdmajkeihdhnaa.Tr
