/- The laws of the cache, in plain Lean: the first. Conditions: none. -/
import Derived.Test.YtjnlpphnaldjeaaCacheQ
namespace Go.Proofs.Ytjnlpphnaldjeaa.Tr
open Go
set_option linter.unusedVariables false
set_option linter.unusedSimpArgs false

theorem kw_of {k : Kept} (w : Dat.wf k) (h : k.Items.length ≤ 100) : KW k.Items :=
  ⟨h, fun x hx => (w.2.2 x hx).2.1⟩
theorem cacheRight_loop (k : Kept) (h : k.Items.length ≤ 100) : loopO (fun s => bywaylaw13_CacheRight_l1 k (k.Items.map (·.Id)) s) (0 : Int) = some (.inl ()) := by
  obtain ⟨e, he, hQ⟩ := loopO_inv (f := fun s => bywaylaw13_CacheRight_l1 k (k.Items.map (·.Id)) s) (I := fun s => ∃ i : Nat, s = i ∧ i ≤ k.Items.length) (μ := fun s => (k.Items.length - s).toNat) (R := fun e => e = .inl ()) (by
    rintro x ⟨i, rfl, hil⟩
    unfold bywaylaw13_CacheRight_l1
    by_cases hx : i < k.Items.length
    · rw [show decide ((i : Int) < ((k.Items.map (·.Id)).length : Int)) = true by simpa using hx, cond_t, idx_nat (show i < (k.Items.map (·.Id)).length by simpa using hx), bind_s, idx_nat hx, bind_s, addI_nat (by omega), bind_s]
      left
      refine ⟨_, by rw [show decide ((k.Items.map (·.Id))[i]'(by simpa using hx) ≠ k.Items[i].Id) = false by simp, cond_f], ⟨i + 1, rfl, by omega⟩, by omega⟩
    · rw [show decide ((i : Int) < ((k.Items.map (·.Id)).length : Int)) = false by simp; omega, cond_f]
      exact .inr ⟨_, rfl, rfl⟩) (s := (0 : Int)) ⟨0, rfl, by omega⟩ (by omega)
  rw [he, hQ]
theorem cacheRight_plain {k : Kept} {id m : Int} {x : Item} (w0 : Dat.wf k) (w1 : Dat.wf id) (w2 : Dat.wf m) (w3 : Dat.wf x) : bywaylaw13_CacheRight k id m x = some true := by
  unfold bywaylaw13_CacheRight
  rw [cache_awake_eq, bind_s, Bool.not_true, cond_f]
  cases hc : ((decide ((k.Items.length : Int) > (80 : Int))) || (decide ((x.Body.length : Int) > (50 : Int)))) with
  | true => rw [cond_t]
  | false =>
    have h80 : k.Items.length ≤ 80 := by simp at hc; omega
    have h50 : x.Body.length ≤ 50 := by simp at hc; omega
    have hw := kw_of w0 (by omega)
    rw [cond_f, ref13_right_eq, bind_s]
    obtain ⟨N, hN, hN2, hN1, hN3⟩ : ∃ N : Kept × Int, cache_New m = some N ∧ decide (N.2 = (0 : Int)) = (decide (m ≥ 1) && decide (m ≤ 64)) ∧ (decide (N.2 = (0 : Int)) && decide (N.1.Most ≠ m)) = false ∧ N.1.Items = [] := by
      refine ⟨_, new_eq m, ?_⟩
      by_cases hm : 1 ≤ m ∧ m ≤ 64
      · rw [if_pos hm]; simp [hm.1, hm.2]
      · rw [if_neg hm]
        have : (decide (m ≥ 1) && decide (m ≤ 64)) = false := by simp; omega
        rw [this]; simp
    by_cases hr : KR k
    · obtain ⟨r5, e5, q5⟩ := look_right hr hw id
      obtain ⟨r18, e18, q18⟩ := ref_look_eq k id h80
      obtain rfl := LookR.uniq hr.2 q5 q18
      have hf := (forget_eq hw id (fun h => by have := h.1; omega)).1 hr
      have hi := (ids_eq k).1 hr
      have hl5 : r5.1.Items.length ≤ 1000 := by
        rcases q5 with ⟨i, hi, _, rfl⟩ | ⟨_, rfl⟩
        · have := without_len (l := k.Items) (id := id); simp; omega
        · show k.Items.length ≤ 1000; omega
      have hlw : (without k.Items id).length ≤ 1000 := by have := without_len (l := k.Items) (id := id); omega
      have hlp := cacheRight_loop k (by omega)
      by_cases hx : x.Id < 0
      · have hk := keep_wrong (x := x) hw (.inr hx)
        simp only [e5, hk, hf, hi, hN, right_eq, bind_s, decide_eq_true hr, hN2, hN3]
        rw [hN2] at hN1
        rw [hN1]
        simp only [e18, bind_s, ref_same_eq _ _ hl5, decide_true, Bool.not_true, ref_without_eq k id (show k.Items.length ≤ 100 by omega), ref_same_eq ⟨k.Most, without k.Items id⟩ _ hlw, hlp, elS_inl, decide_eq_true hx, cond_t, ref_same_eq k k (show k.Items.length ≤ 1000 by omega), gb_true]
        simp [gb]
      · have hk := keep_right (x := x) hw (show x.Body.length ≤ 140737488351232 by omega) hr (show 0 ≤ x.Id by omega)
        have hks : (keepS k x).Items.length ≤ 1000 := by
          have := without_len (l := k.Items) (id := x.Id)
          unfold keepS
          split <;> simp <;> omega
        simp only [e5, hk, hf, hi, hN, right_eq, bind_s, decide_eq_true hr, hN2, hN3]
        rw [hN2] at hN1
        rw [hN1]
        simp only [e18, bind_s, ref_same_eq _ _ hl5, decide_true, Bool.not_true, ref_without_eq k id (show k.Items.length ≤ 100 by omega), ref_same_eq ⟨k.Most, without k.Items id⟩ _ hlw, hlp, elS_inl, decide_eq_false hx, cond_f, ref_keep_eq k x h80 hr.1.1, ref_same_eq (keepS k x) _ hks, gb_true]
        simp [gb]
    · have e5 := look_wrong hr hw id
      have hk := keep_wrong (x := x) hw (.inl hr)
      have hf := (forget_eq hw id (fun h => absurd h hr)).2 hr
      have hi := (ids_eq k).2 hr
      simp only [e5, hk, hf, hi, hN, right_eq, bind_s, decide_eq_false hr, hN2, hN3]
      rw [hN2] at hN1
      rw [hN1]
      simp only [bind_s, Bool.not_false, ref_same_eq k k (show k.Items.length ≤ 1000 by omega), decide_true]
      simp [gb]
end Go.Proofs.Ytjnlpphnaldjeaa.Tr
