/- What the proof leans on. Conditions: none. -/
import Derived.Test.YtefmfhbkihplgaaZC5
set_option linter.all false
set_option linter.unusedSimpArgs false
set_option linter.unusedVariables false
set_option linter.unusedSectionVars false
namespace Go.Proofs.Ytefmfhbkihplgaa.Tr
open Go
set_option maxHeartbeats 1000000
theorem part_get {l : List UInt64} {a b : Int} (h0 : 0 ≤ a) (hab : a < b) (hb : b ≤ l.length) (hl : (l.length : Int) ≤ 281474976710656) (pre : ∀ k, 0 < a → a ≤ k → k < b → lt64 (nth l k) (nth l (a - 1)) = false) : Gets (slices_partialInsertionSortOrdered_uint64 l a b) (fun r => Same l r.2 a b ∧ (r.1 = true → Srt lt64 r.2 a b)) := by
  unfold slices_partialInsertionSortOrdered_uint64; (simp (disch := first | omega | (simp only [List.length_set, sw_len]; omega)) only [idx_nth, addI_ok, subI_ok, mulI_ok, quoI_ok, bind_s, gb_true, gb_false, cond_t, cond_f, dt_, df_, Bool.true_and, Bool.false_and, Bool.not_true, Bool.not_false, el2, el3, el4, elS_inl, elS_inr, less64, sw_fold, lenI_ok])
  refine Gets.b (Gets.loop (I := fun s => a < s.1 ∧ s.1 ≤ b ∧ 0 ≤ s.2.1 ∧ s.2.1 ≤ 5 ∧ Same l s.2.2 a b ∧ Srt lt64 s.2.2 a s.1) (μ := fun s => (5 - s.2.1).toNat) (R := Sum.elim (fun d => Same l d a b) (fun r => Same l r.2 a b ∧ (r.1 = true → Srt lt64 r.2 a b))) (fun s hs => ?_) ⟨by dsimp only; omega, by dsimp only; omega, by dsimp only; omega, by dsimp only; omega, .rf, fun p q h1 h2 h3 => by dsimp only at h3; omega⟩ (by dsimp only; omega)) (fun v hv => ?_)
  · obtain ⟨i, j, d⟩ := s
    obtain ⟨h1, h2, h3, h4, h5, h6⟩ := hs
    dsimp only at *
    have hL := h5.len
    unfold slices_partialInsertionSortOrdered_uint64_l1
    refine Gets.c (fun e => ?_) (fun e => .r (show Same l d a b from h5))
    have e := of_decide_eq_true e
    refine Gets.b (P := Sum.elim (fun s => a < s.1 ∧ s.1 ≤ b ∧ Same l s.2 a b ∧ Srt lt64 s.2 a s.1) (fun r => Same l r.2 a b ∧ (r.1 = true → Srt lt64 r.2 a b))) ?_ (fun o ho => ?_)
    · refine Gets.b (Gets.loop (I := fun i' => a < i' ∧ i' ≤ b ∧ Srt lt64 d a i') (μ := fun i' => (b - i').toNat) (R := fun i' => a < i' ∧ i' ≤ b ∧ Srt lt64 d a i') (fun i' hi => ?_) ⟨h1, h2, h6⟩ (by omega)) (fun i hi => ?_)
      · obtain ⟨g1, g2, g3⟩ := hi
        unfold slices_partialInsertionSortOrdered_uint64_l2
        by_cases c : i' < b
        · (simp (disch := first | omega | (simp only [List.length_set, sw_len]; omega)) only [idx_nth, addI_ok, subI_ok, mulI_ok, quoI_ok, bind_s, gb_true, gb_false, cond_t, cond_f, dt_, df_, Bool.true_and, Bool.false_and, Bool.not_true, Bool.not_false, el2, el3, el4, elS_inl, elS_inr, less64, sw_fold, lenI_ok])
          refine Gets.c (fun e => ?_) (fun e => ?_)
          · have e : lt64 (nth d i') (nth d (i' - 1)) = false := by simpa using e
            exact .l ⟨by omega, by omega, But.done weak64 (But.of g3) (by omega) (Int.le_refl _) (.inr e)⟩ (by omega)
          · exact .r ⟨g1, g2, g3⟩
        · (simp (disch := first | omega | (simp only [List.length_set, sw_len]; omega)) only [idx_nth, addI_ok, subI_ok, mulI_ok, quoI_ok, bind_s, gb_true, gb_false, cond_t, cond_f, dt_, df_, Bool.true_and, Bool.false_and, Bool.not_true, Bool.not_false, el2, el3, el4, elS_inl, elS_inr, less64, sw_fold, lenI_ok])
          exact .r ⟨g1, g2, g3⟩
      obtain ⟨g1, g2, g3⟩ := hi
      refine Gets.c (fun e => ?_) (fun e => ?_)
      · have e := of_decide_eq_true e
        subst e
        exact .s (show _ ∧ _ from ⟨h5, fun _ => g3⟩)
      have e := of_decide_eq_false e
      simp (disch := omega) only [subI_ok, bind_s]
      refine Gets.c (fun e => .s (show _ ∧ _ from ⟨h5, fun h => by cases h⟩)) (fun e50 => ?_)
      (simp (disch := first | omega | (simp only [List.length_set, sw_len]; omega)) only [idx_nth, addI_ok, subI_ok, mulI_ok, quoI_ok, bind_s, gb_true, gb_false, cond_t, cond_f, dt_, df_, Bool.true_and, Bool.false_and, Bool.not_true, Bool.not_false, el2, el3, el4, elS_inl, elS_inr, less64, sw_fold, lenI_ok])
      have hW : Same d (sw d (i - 1) i) (i - 1) (i + 1) := .sw (by omega) (by omega) (by omega) (by omega) (by omega) (by omega)
      have hW2 : Same l (sw d (i - 1) i) a b := h5.tr (hW.up h0 (by omega) (by omega))
      have hL2 := hW2.len
      revert hW hW2 hL2
      generalize sw d (i - 1) i = d2
      intro hW hW2 hL2
      refine Gets.b (P := fun d3 => Same l d3 a b ∧ Srt lt64 d3 a i) ?_ (fun d3 hd3 => ?_)
      · refine Gets.c (fun e2 => ?_) (fun e2 => ?_)
        · have e2 := of_decide_eq_true e2
          have hB : But lt64 d2 a (i - 1) (i - 1) := But.of (fun p q k1 k2 k3 => by
            rw [hW.out p (by omega) (by omega), hW.out q (by omega) (by omega)]; exact g3 p q k1 k2 (by omega))
          refine Gets.loop (I := fun s => a ≤ s.1 ∧ s.1 ≤ i - 1 ∧ Same l s.2 a b ∧ But lt64 s.2 a (i - 1) s.1) (μ := fun s => s.1.toNat) (fun s hs => ?_) ⟨by dsimp only; omega, by dsimp only; omega, hW2, hB⟩ (by dsimp only; omega)
          obtain ⟨j2, d4⟩ := s
          obtain ⟨k1, k2, k3, k4⟩ := hs
          dsimp only at *
          have hL4 := k3.len
          unfold slices_partialInsertionSortOrdered_uint64_l3
          have fin : (j2 ≤ a ∨ lt64 (nth d4 j2) (nth d4 (j2 - 1)) = false) → Srt lt64 d4 a i := fun h => by
            have := k4.done weak64 k1 k2 h
            rwa [show i - 1 + 1 = i by omega] at this
          by_cases c : j2 ≥ 1
          · (simp (disch := first | omega | (simp only [List.length_set, sw_len]; omega)) only [idx_nth, addI_ok, subI_ok, mulI_ok, quoI_ok, bind_s, gb_true, gb_false, cond_t, cond_f, dt_, df_, Bool.true_and, Bool.false_and, Bool.not_true, Bool.not_false, el2, el3, el4, elS_inl, elS_inr, less64, sw_fold, lenI_ok])
            refine Gets.c (fun e => ?_) (fun e => ?_)
            · have e : lt64 (nth d4 j2) (nth d4 (j2 - 1)) = false := by simpa using e
              exact .r ⟨k3, fin (.inr e)⟩
            · have e : lt64 (nth d4 j2) (nth d4 (j2 - 1)) = true := by simpa using e
              have hj : a < j2 := by
                by_cases hj : a < j2
                · exact hj
                · have : j2 = a := by omega
                  subst this
                  obtain ⟨m, m1, m2, m3⟩ := k3.src j2 (Int.le_refl _) hab
                  rw [m3, k3.out (j2 - 1) (by omega) (by omega), pre m (by omega) m1 m2] at e
                  cases e
              exact .l ⟨by dsimp only; omega, by dsimp only; omega, k3.tr (.sw h0 (by omega) (by omega) (by omega) (by omega) (by omega)), k4.step weak64 h0 (by omega) hj k2 e⟩ (by dsimp only; omega)
          · (simp (disch := first | omega | (simp only [List.length_set, sw_len]; omega)) only [idx_nth, addI_ok, subI_ok, mulI_ok, quoI_ok, bind_s, gb_true, gb_false, cond_t, cond_f, dt_, df_, Bool.true_and, Bool.false_and, Bool.not_true, Bool.not_false, el2, el3, el4, elS_inl, elS_inr, less64, sw_fold, lenI_ok])
            exact .r ⟨k3, fin (.inl (by omega))⟩
        · have e2 := of_decide_eq_false e2
          exact .s ⟨hW2, fun p q k1 k2 k3 => by omega⟩
      obtain ⟨m1, m2⟩ := hd3
      refine Gets.c (fun e2 => ?_) (fun e2 => .s (show _ ∧ _ from ⟨g1, g2, m1, m2⟩))
      have e2 := of_decide_eq_true e2
      refine Gets.b (Gets.loop (I := fun s => i < s.1 ∧ s.1 ≤ b ∧ Same l s.2 a b ∧ Srt lt64 s.2 a i) (μ := fun s => (b - s.1).toNat) (R := fun d => Same l d a b ∧ Srt lt64 d a i) (fun s hs => ?_) ⟨by dsimp only; omega, by dsimp only; omega, m1, m2⟩ (by dsimp only; omega)) (fun d hd => .s (show _ ∧ _ from ⟨g1, g2, hd.1, hd.2⟩))
      obtain ⟨j2, d4⟩ := s
      obtain ⟨k1, k2, k3, k4⟩ := hs
      dsimp only at *
      have hL4 := k3.len
      unfold slices_partialInsertionSortOrdered_uint64_l4
      by_cases c : j2 < b
      · (simp (disch := first | omega | (simp only [List.length_set, sw_len]; omega)) only [idx_nth, addI_ok, subI_ok, mulI_ok, quoI_ok, bind_s, gb_true, gb_false, cond_t, cond_f, dt_, df_, Bool.true_and, Bool.false_and, Bool.not_true, Bool.not_false, el2, el3, el4, elS_inl, elS_inr, less64, sw_fold, lenI_ok])
        refine Gets.c (fun e => .r ⟨k3, k4⟩) (fun e => ?_)
        have hV : Same d4 (sw d4 (j2 - 1) j2) i b := .sw (by omega) (by omega) (by omega) (by omega) (by omega) (by omega)
        exact .l ⟨by dsimp only; omega, by dsimp only; omega, k3.tr (hV.up h0 (by omega) (by omega)), k4.same hV h0 (.inl (Int.le_refl _))⟩ (by dsimp only; omega)
      · (simp (disch := first | omega | (simp only [List.length_set, sw_len]; omega)) only [idx_nth, addI_ok, subI_ok, mulI_ok, quoI_ok, bind_s, gb_true, gb_false, cond_t, cond_f, dt_, df_, Bool.true_and, Bool.false_and, Bool.not_true, Bool.not_false, el2, el3, el4, elS_inl, elS_inr, less64, sw_fold, lenI_ok])
        exact .r ⟨k3, k4⟩
    · rcases o with ⟨i', d'⟩ | r
      · rw [elS_inl]; simp only [el2]
        obtain ⟨g1, g2, g3, g4⟩ := ho
        (simp (disch := first | omega | (simp only [List.length_set, sw_len]; omega)) only [idx_nth, addI_ok, subI_ok, mulI_ok, quoI_ok, bind_s, gb_true, gb_false, cond_t, cond_f, dt_, df_, Bool.true_and, Bool.false_and, Bool.not_true, Bool.not_false, el2, el3, el4, elS_inl, elS_inr, less64, sw_fold, lenI_ok])
        exact .l ⟨g1, g2, by dsimp only; omega, by dsimp only; omega, g3, g4⟩ (by dsimp only; omega)
      · rw [elS_inr]
        exact .r (show _ ∧ _ from ho)
  · rcases v with v | v
    · exact .elSl (.s ⟨hv, fun h => by cases h⟩)
    · exact .elSr (.s hv)
theorem pteq_get {l : List UInt64} {a b pv : Int} (h0 : 0 ≤ a) (hp : a ≤ pv) (hp2 : pv < b) (hb : b ≤ l.length) (hl : (l.length : Int) ≤ 281474976710656) (hmin : ∀ k, a ≤ k → k < b → lt64 (nth l k) (nth l pv) = false) : Gets (slices_partitionEqualOrdered_uint64 l a b pv) (fun r => a < r.1 ∧ r.1 ≤ b ∧ Same l r.2 a b ∧ ∀ p q, a ≤ p → p < q → q < b → p < r.1 → lt64 (nth r.2 q) (nth r.2 p) = false) := by
  unfold slices_partitionEqualOrdered_uint64; (simp (disch := first | omega | (simp only [List.length_set, sw_len]; omega)) only [idx_nth, addI_ok, subI_ok, mulI_ok, quoI_ok, bind_s, gb_true, gb_false, cond_t, cond_f, dt_, df_, Bool.true_and, Bool.false_and, Bool.not_true, Bool.not_false, el2, el3, el4, elS_inl, elS_inr, less64, sw_fold, lenI_ok])
  have hW : Same l (sw l pv a) a b := .sw h0 hb (by omega) (by omega) (by omega) (by omega)
  have hA : nth (sw l pv a) a = nth l pv := by
    rw [nth_sw (by omega) (by omega) (by omega) (by omega) h0]
    split
    · rename_i e; rw [e]
    · rw [if_pos rfl]
  refine Gets.b (Gets.loop (I := fun s => a < s.1 ∧ s.2.1 < b ∧ s.1 ≤ s.2.1 + 1 ∧ Same l s.2.2 a b ∧ nth s.2.2 a = nth l pv ∧ ∀ k, a ≤ k → k < s.1 → lt64 (nth l pv) (nth s.2.2 k) = false) (μ := fun s => (b - s.1).toNat) (R := fun r => a < r.1 ∧ r.1 ≤ b ∧ Same l r.2 a b ∧ ∀ p q, a ≤ p → p < q → q < b → p < r.1 → lt64 (nth r.2 q) (nth r.2 p) = false) (fun s hs => ?_) ⟨by dsimp only; omega, by dsimp only; omega, by dsimp only; omega, hW, hA, fun k k1 k2 => by
      dsimp only at *
      have : k = a := by omega
      subst this; rw [hA]; exact weak64.rf _⟩ (by dsimp only; omega)) (fun o ho => ?_)
  · obtain ⟨i, j, d⟩ := s
    obtain ⟨h1, h2, h3, h4, h5, h6⟩ := hs
    dsimp only at *
    have hL := h4.len
    unfold slices_partitionEqualOrdered_uint64_l1
    refine Gets.b (Gets.loop (I := fun i' => i ≤ i' ∧ i' ≤ j + 1 ∧ ∀ k, a ≤ k → k < i' → lt64 (nth l pv) (nth d k) = false) (μ := fun i' => (b - i').toNat) (R := fun i' => i ≤ i' ∧ i' ≤ j + 1 ∧ (∀ k, a ≤ k → k < i' → lt64 (nth l pv) (nth d k) = false) ∧ (i' ≤ j → lt64 (nth l pv) (nth d i') = true)) (fun i' hi => ?_) ⟨Int.le_refl _, h3, h6⟩ (by omega)) (fun i' hi => ?_)
    · obtain ⟨g1, g2, g3⟩ := hi
      unfold slices_partitionEqualOrdered_uint64_l2
      by_cases c : i' ≤ j
      · (simp (disch := first | omega | (simp only [List.length_set, sw_len]; omega)) only [idx_nth, addI_ok, subI_ok, mulI_ok, quoI_ok, bind_s, gb_true, gb_false, cond_t, cond_f, dt_, df_, Bool.true_and, Bool.false_and, Bool.not_true, Bool.not_false, el2, el3, el4, elS_inl, elS_inr, less64, sw_fold, lenI_ok])
        rw [h5]
        refine Gets.c (fun e => ?_) (fun e => ?_)
        · have e : lt64 (nth l pv) (nth d i') = false := by simpa using e
          refine .l ⟨by omega, by omega, fun k k1 k2 => ?_⟩ (by omega)
          by_cases e2 : k = i'
          · subst e2; exact e
          · exact g3 k k1 (by omega)
        · have e : lt64 (nth l pv) (nth d i') = true := by simpa using e
          exact .r ⟨g1, g2, g3, fun _ => e⟩
      · (simp (disch := first | omega | (simp only [List.length_set, sw_len]; omega)) only [idx_nth, addI_ok, subI_ok, mulI_ok, quoI_ok, bind_s, gb_true, gb_false, cond_t, cond_f, dt_, df_, Bool.true_and, Bool.false_and, Bool.not_true, Bool.not_false, el2, el3, el4, elS_inl, elS_inr, less64, sw_fold, lenI_ok])
        exact .r ⟨g1, g2, g3, fun h => absurd h c⟩
    obtain ⟨g1, g2, g3, g4⟩ := hi
    refine Gets.b (Gets.loop (I := fun j' => i' ≤ j' + 1 ∧ j' ≤ j) (μ := fun j' => (j' - a).toNat) (R := fun j' => i' ≤ j' + 1 ∧ j' ≤ j ∧ (i' ≤ j' → lt64 (nth l pv) (nth d j') = false)) (fun j' hj => ?_) ⟨by omega, Int.le_refl _⟩ (by omega)) (fun j' hj => ?_)
    · obtain ⟨k1, k2⟩ := hj
      unfold slices_partitionEqualOrdered_uint64_l3
      by_cases c : i' ≤ j'
      · (simp (disch := first | omega | (simp only [List.length_set, sw_len]; omega)) only [idx_nth, addI_ok, subI_ok, mulI_ok, quoI_ok, bind_s, gb_true, gb_false, cond_t, cond_f, dt_, df_, Bool.true_and, Bool.false_and, Bool.not_true, Bool.not_false, el2, el3, el4, elS_inl, elS_inr, less64, sw_fold, lenI_ok])
        rw [h5]
        refine Gets.c (fun e => ?_) (fun e => ?_)
        · exact .l ⟨by omega, by omega⟩ (by omega)
        · exact .r ⟨k1, k2, fun _ => e⟩
      · (simp (disch := first | omega | (simp only [List.length_set, sw_len]; omega)) only [idx_nth, addI_ok, subI_ok, mulI_ok, quoI_ok, bind_s, gb_true, gb_false, cond_t, cond_f, dt_, df_, Bool.true_and, Bool.false_and, Bool.not_true, Bool.not_false, el2, el3, el4, elS_inl, elS_inr, less64, sw_fold, lenI_ok])
        exact .r ⟨k1, k2, fun h => absurd h c⟩
    obtain ⟨k1, k2, k3⟩ := hj
    by_cases c : i' > j'
    · (simp (disch := first | omega | (simp only [List.length_set, sw_len]; omega)) only [idx_nth, addI_ok, subI_ok, mulI_ok, quoI_ok, bind_s, gb_true, gb_false, cond_t, cond_f, dt_, df_, Bool.true_and, Bool.false_and, Bool.not_true, Bool.not_false, el2, el3, el4, elS_inl, elS_inr, less64, sw_fold, lenI_ok])
      refine .r ⟨by dsimp only; omega, by dsimp only; omega, h4, fun p q m1 m2 m3 m4 => ?_⟩
      dsimp only at *
      obtain ⟨k, n1, n2, n3⟩ := h4.src q (by omega) m3
      rw [n3]
      exact weak64.tr _ _ _ (g3 p m1 m4) (hmin k n1 n2)
    · have hne : i' ≠ j' := fun h => by
        have e1 := g4 (by omega)
        have e2 := k3 (by omega)
        rw [h, e2] at e1; cases e1
      (simp (disch := first | omega | (simp only [List.length_set, sw_len]; omega)) only [idx_nth, addI_ok, subI_ok, mulI_ok, quoI_ok, bind_s, gb_true, gb_false, cond_t, cond_f, dt_, df_, Bool.true_and, Bool.false_and, Bool.not_true, Bool.not_false, el2, el3, el4, elS_inl, elS_inr, less64, sw_fold, lenI_ok])
      have hs : ∀ k, 0 ≤ k → nth (sw d j' i') k = if k = j' then nth d i' else if k = i' then nth d j' else nth d k := fun k hk => nth_sw (by omega) (by omega) (by omega) (by omega) hk
      refine .l ⟨by dsimp only; omega, by dsimp only; omega, by dsimp only; omega, h4.tr (.sw h0 (by omega) (by omega) (by omega) (by omega) (by omega)), ?_, fun k m1 m2 => ?_⟩ (by dsimp only; omega)
      · dsimp only
        rw [hs a h0, if_neg (by omega), if_neg (by omega), h5]
      · dsimp only at *
        rw [hs k (by omega), if_neg (by omega)]
        by_cases e : k = i'
        · rw [if_pos e]; exact k3 (by omega)
        · rw [if_neg e]; exact g3 k m1 (by omega)
  · obtain ⟨i, d⟩ := o
    show Gets (some (i, d)) _
    exact .s ho
theorem ptn_fin {l d : List UInt64} {a b j : Int} (h0 : 0 ≤ a) (hb : b ≤ l.length) (h1 : a ≤ j) (h2 : j < b) (hS : Same l d a b) (hlo : ∀ k, a < k → k ≤ j → lt64 (nth d a) (nth d k) = false) (hhi : ∀ k, j < k → k < b → lt64 (nth d k) (nth d a) = false) : a ≤ j ∧ j < b ∧ Same l (sw d a j) a b ∧ (∀ k, a ≤ k → k < j → lt64 (nth (sw d a j) j) (nth (sw d a j) k) = false) ∧ (∀ k, j < k → k < b → lt64 (nth (sw d a j) k) (nth (sw d a j) j) = false) := by
  have hL := hS.len
  have hs : ∀ k, 0 ≤ k → nth (sw d a j) k = if k = a then nth d j else if k = j then nth d a else nth d k := fun k hk => nth_sw (by omega) (by omega) (by omega) (by omega) hk
  have hj : nth (sw d a j) j = nth d a := by
    rw [hs j (by omega)]
    split
    · rename_i e; rw [e]
    · rw [if_pos rfl]
  refine ⟨h1, h2, hS.tr (.sw h0 (by omega) (by omega) (by omega) (by omega) (by omega)), fun k k1 k2 => ?_, fun k k1 k2 => ?_⟩
  · rw [hj, hs k (by omega)]
    by_cases e : k = a
    · rw [if_pos e]; exact hlo j (by omega) (Int.le_refl _)
    · rw [if_neg e, if_neg (by omega)]; exact hlo k (by omega) (by omega)
  · rw [hj, hs k (by omega), if_neg (by omega), if_neg (by omega)]
    exact hhi k k1 k2
end Go.Proofs.Ytefmfhbkihplgaa.Tr
namespace Go.Proofs.Ytefmfhbkihplgaa.Tr
open Go
set_option maxHeartbeats 1000000
theorem ptn_get {l : List UInt64} {a b pv : Int} (h0 : 0 ≤ a) (hp : a ≤ pv) (hp2 : pv < b) (hb : b ≤ l.length) (hl : (l.length : Int) ≤ 281474976710656) : Gets (slices_partitionOrdered_uint64 l a b pv) (fun r => a ≤ r.1 ∧ r.1 < b ∧ Same l r.2.2 a b ∧ (∀ k, a ≤ k → k < r.1 → lt64 (nth r.2.2 r.1) (nth r.2.2 k) = false) ∧ (∀ k, r.1 < k → k < b → lt64 (nth r.2.2 k) (nth r.2.2 r.1) = false)) := by
  unfold slices_partitionOrdered_uint64
  simp (disch := first | omega | (simp only [List.length_set, sw_len]; omega)) only [idx_nth, addI_ok, subI_ok, bind_s, sw_fold]
  have hW : Same l (sw l pv a) a b := .sw h0 hb (by omega) (by omega) (by omega) (by omega)
  have hL := hW.len
  revert hW hL
  generalize sw l pv a = d
  intro hW hL
  refine Gets.b (Gets.loop (I := fun i' => a < i' ∧ i' ≤ b - 1 + 1 ∧ ∀ k, a < k → k < i' → lt64 (nth d a) (nth d k) = false) (μ := fun i' => (b - i').toNat) (R := fun i' => a < i' ∧ i' ≤ b - 1 + 1 ∧ (∀ k, a < k → k < i' → lt64 (nth d a) (nth d k) = false) ∧ (i' ≤ b - 1 → lt64 (nth d i') (nth d a) = false)) (fun i' hi => ?_) ⟨by omega, by omega, fun k k1 k2 => by omega⟩ (by omega)) (fun i hi => ?_)
  · obtain ⟨g1, g2, g3⟩ := hi
    unfold slices_partitionOrdered_uint64_l1
    by_cases c : i' ≤ b - 1
    · (simp (disch := first | omega | (simp only [List.length_set, sw_len]; omega)) only [idx_nth, addI_ok, subI_ok, mulI_ok, quoI_ok, bind_s, gb_true, gb_false, cond_t, cond_f, dt_, df_, Bool.true_and, Bool.false_and, Bool.not_true, Bool.not_false, el2, el3, el4, elS_inl, elS_inr, less64, sw_fold, lenI_ok])
      refine Gets.c (fun e => ?_) (fun e => .r ⟨g1, g2, g3, fun _ => e⟩)
      refine .l ⟨by omega, by omega, fun k k1 k2 => ?_⟩ (by omega)
      by_cases e2 : k = i'
      · subst e2; exact weak64.asym _ _ e
      · exact g3 k k1 (by omega)
    · (simp (disch := first | omega | (simp only [List.length_set, sw_len]; omega)) only [idx_nth, addI_ok, subI_ok, mulI_ok, quoI_ok, bind_s, gb_true, gb_false, cond_t, cond_f, dt_, df_, Bool.true_and, Bool.false_and, Bool.not_true, Bool.not_false, el2, el3, el4, elS_inl, elS_inr, less64, sw_fold, lenI_ok])
      exact .r ⟨g1, g2, g3, fun h => absurd h c⟩
  obtain ⟨g1, g2, g3, g4⟩ := hi
  refine Gets.b (Gets.loop (I := fun j' => i ≤ j' + 1 ∧ j' ≤ b - 1 ∧ ∀ k, j' < k → k < b → lt64 (nth d k) (nth d a) = false) (μ := fun j' => (j' - a).toNat) (R := fun j' => i ≤ j' + 1 ∧ j' ≤ b - 1 ∧ (∀ k, j' < k → k < b → lt64 (nth d k) (nth d a) = false) ∧ (i ≤ j' → lt64 (nth d j') (nth d a) = true)) (fun j' hj => ?_) ⟨by omega, by omega, fun k k1 k2 => by omega⟩ (by omega)) (fun j hj => ?_)
  · obtain ⟨k1, k2, k3⟩ := hj
    unfold slices_partitionOrdered_uint64_l2
    by_cases c : i ≤ j'
    · (simp (disch := first | omega | (simp only [List.length_set, sw_len]; omega)) only [idx_nth, addI_ok, subI_ok, mulI_ok, quoI_ok, bind_s, gb_true, gb_false, cond_t, cond_f, dt_, df_, Bool.true_and, Bool.false_and, Bool.not_true, Bool.not_false, el2, el3, el4, elS_inl, elS_inr, less64, sw_fold, lenI_ok])
      refine Gets.c (fun e => ?_) (fun e => ?_)
      · have e : lt64 (nth d j') (nth d a) = false := by simpa using e
        refine .l ⟨by omega, by omega, fun k m1 m2 => ?_⟩ (by omega)
        by_cases e2 : k = j'
        · subst e2; exact e
        · exact k3 k (by omega) m2
      · have e : lt64 (nth d j') (nth d a) = true := by simpa using e
        exact .r ⟨k1, k2, k3, fun _ => e⟩
    · (simp (disch := first | omega | (simp only [List.length_set, sw_len]; omega)) only [idx_nth, addI_ok, subI_ok, mulI_ok, quoI_ok, bind_s, gb_true, gb_false, cond_t, cond_f, dt_, df_, Bool.true_and, Bool.false_and, Bool.not_true, Bool.not_false, el2, el3, el4, elS_inl, elS_inr, less64, sw_fold, lenI_ok])
      exact .r ⟨k1, k2, k3, fun h => absurd h c⟩
  obtain ⟨k1, k2, k3, k4⟩ := hj
  by_cases c : i > j
  · (simp (disch := first | omega | (simp only [List.length_set, sw_len]; omega)) only [idx_nth, addI_ok, subI_ok, mulI_ok, quoI_ok, bind_s, gb_true, gb_false, cond_t, cond_f, dt_, df_, Bool.true_and, Bool.false_and, Bool.not_true, Bool.not_false, el2, el3, el4, elS_inl, elS_inr, less64, sw_fold, lenI_ok])
    exact .s (ptn_fin h0 hb (by omega) (by omega) hW (fun k m1 m2 => g3 k m1 (by omega)) k3)
  simp (disch := first | omega | (simp only [List.length_set, sw_len]; omega)) only [idx_nth, addI_ok, subI_ok, bind_s, sw_fold, df_, cond_f]
  have stepS : ∀ {d : List UInt64} {i j : Int}, Same l d a b → a < i → j < b → i ≤ j → (∀ k, a < k → k < i → lt64 (nth d a) (nth d k) = false) → (∀ k, j < k → k < b → lt64 (nth d k) (nth d a) = false) → lt64 (nth d i) (nth d a) = false → lt64 (nth d j) (nth d a) = true → a < i + 1 ∧ j - 1 < b ∧ i + 1 ≤ j - 1 + 1 ∧ Same l (sw d j i) a b ∧ (∀ k, a < k → k < i + 1 → lt64 (nth (sw d j i) a) (nth (sw d j i) k) = false) ∧ (∀ k, j - 1 < k → k < b → lt64 (nth (sw d j i) k) (nth (sw d j i) a) = false) := by
    intro d i j hW h1 h2 h3 g3 k3 e1 e2
    have hL := hW.len
    have hs : ∀ k, 0 ≤ k → nth (sw d j i) k = if k = j then nth d i else if k = i then nth d j else nth d k := fun k hk => nth_sw (by omega) (by omega) (by omega) (by omega) hk
    have hne : i ≠ j := fun h => by rw [h, e2] at e1; cases e1
    refine ⟨by omega, by omega, by omega, hW.tr (.sw h0 (by omega) (by omega) (by omega) (by omega) (by omega)), fun k m1 m2 => ?_, fun k m1 m2 => ?_⟩
    · rw [hs a h0, if_neg (by omega), if_neg (by omega), hs k (by omega), if_neg (by omega)]
      by_cases e : k = i
      · rw [if_pos e]; exact weak64.asym _ _ e2
      · rw [if_neg e]; exact g3 k m1 (by omega)
    · rw [hs a h0, if_neg (by omega), if_neg (by omega), hs k (by omega)]
      by_cases e : k = j
      · rw [if_pos e]; exact e1
      · rw [if_neg e, if_neg (by omega)]; exact k3 k (by omega) m2
  refine Gets.b (Gets.loop (I := fun s => a < s.1 ∧ s.2.1 < b ∧ s.1 ≤ s.2.1 + 1 ∧ Same l s.2.2 a b ∧ (∀ k, a < k → k < s.1 → lt64 (nth s.2.2 a) (nth s.2.2 k) = false) ∧ (∀ k, s.2.1 < k → k < b → lt64 (nth s.2.2 k) (nth s.2.2 a) = false)) (μ := fun s => (b - s.1).toNat) (R := fun r => a ≤ r.1 ∧ r.1 < b ∧ Same l r.2 a b ∧ (∀ k, a < k → k ≤ r.1 → lt64 (nth r.2 a) (nth r.2 k) = false) ∧ (∀ k, r.1 < k → k < b → lt64 (nth r.2 k) (nth r.2 a) = false)) (fun s hs => ?_) (stepS hW g1 (by omega) (by omega) g3 k3 (g4 (by omega)) (k4 (by omega))) (by dsimp only; omega)) (fun o ho => ?_)
  · clear g1 g2 g3 g4 k1 k2 k3 k4 c hW hL
    obtain ⟨i, j, d⟩ := s
    obtain ⟨h1, h2, h3, h4, h5, h6⟩ := hs
    dsimp only at *
    have hL := h4.len
    unfold slices_partitionOrdered_uint64_l3
    refine Gets.b (Gets.loop (I := fun i' => i ≤ i' ∧ i' ≤ j + 1 ∧ ∀ k, a < k → k < i' → lt64 (nth d a) (nth d k) = false) (μ := fun i' => (b - i').toNat) (R := fun i' => i ≤ i' ∧ i' ≤ j + 1 ∧ (∀ k, a < k → k < i' → lt64 (nth d a) (nth d k) = false) ∧ (i' ≤ j → lt64 (nth d i') (nth d a) = false)) (fun i' hi => ?_) ⟨Int.le_refl _, h3, h5⟩ (by omega)) (fun i' hi => ?_)
    · obtain ⟨g1, g2, g3⟩ := hi
      unfold slices_partitionOrdered_uint64_l4
      by_cases c : i' ≤ j
      · (simp (disch := first | omega | (simp only [List.length_set, sw_len]; omega)) only [idx_nth, addI_ok, subI_ok, mulI_ok, quoI_ok, bind_s, gb_true, gb_false, cond_t, cond_f, dt_, df_, Bool.true_and, Bool.false_and, Bool.not_true, Bool.not_false, el2, el3, el4, elS_inl, elS_inr, less64, sw_fold, lenI_ok])
        refine Gets.c (fun e => ?_) (fun e => .r ⟨g1, g2, g3, fun _ => e⟩)
        refine .l ⟨by omega, by omega, fun k k1 k2 => ?_⟩ (by omega)
        by_cases e2 : k = i'
        · subst e2; exact weak64.asym _ _ e
        · exact g3 k k1 (by omega)
      · (simp (disch := first | omega | (simp only [List.length_set, sw_len]; omega)) only [idx_nth, addI_ok, subI_ok, mulI_ok, quoI_ok, bind_s, gb_true, gb_false, cond_t, cond_f, dt_, df_, Bool.true_and, Bool.false_and, Bool.not_true, Bool.not_false, el2, el3, el4, elS_inl, elS_inr, less64, sw_fold, lenI_ok])
        exact .r ⟨g1, g2, g3, fun h => absurd h c⟩
    obtain ⟨g1, g2, g3, g4⟩ := hi
    refine Gets.b (Gets.loop (I := fun j' => i' ≤ j' + 1 ∧ j' ≤ j ∧ ∀ k, j' < k → k < b → lt64 (nth d k) (nth d a) = false) (μ := fun j' => (j' - a).toNat) (R := fun j' => i' ≤ j' + 1 ∧ j' ≤ j ∧ (∀ k, j' < k → k < b → lt64 (nth d k) (nth d a) = false) ∧ (i' ≤ j' → lt64 (nth d j') (nth d a) = true)) (fun j' hj => ?_) ⟨by omega, Int.le_refl _, h6⟩ (by omega)) (fun j' hj => ?_)
    · obtain ⟨k1, k2, k3⟩ := hj
      unfold slices_partitionOrdered_uint64_l5
      by_cases c : i' ≤ j'
      · (simp (disch := first | omega | (simp only [List.length_set, sw_len]; omega)) only [idx_nth, addI_ok, subI_ok, mulI_ok, quoI_ok, bind_s, gb_true, gb_false, cond_t, cond_f, dt_, df_, Bool.true_and, Bool.false_and, Bool.not_true, Bool.not_false, el2, el3, el4, elS_inl, elS_inr, less64, sw_fold, lenI_ok])
        refine Gets.c (fun e => ?_) (fun e => ?_)
        · have e : lt64 (nth d j') (nth d a) = false := by simpa using e
          refine .l ⟨by omega, by omega, fun k m1 m2 => ?_⟩ (by omega)
          by_cases e2 : k = j'
          · subst e2; exact e
          · exact k3 k (by omega) m2
        · have e : lt64 (nth d j') (nth d a) = true := by simpa using e
          exact .r ⟨k1, k2, k3, fun _ => e⟩
      · (simp (disch := first | omega | (simp only [List.length_set, sw_len]; omega)) only [idx_nth, addI_ok, subI_ok, mulI_ok, quoI_ok, bind_s, gb_true, gb_false, cond_t, cond_f, dt_, df_, Bool.true_and, Bool.false_and, Bool.not_true, Bool.not_false, el2, el3, el4, elS_inl, elS_inr, less64, sw_fold, lenI_ok])
        exact .r ⟨k1, k2, k3, fun h => absurd h c⟩
    obtain ⟨k1, k2, k3, k4⟩ := hj
    by_cases c : i' > j'
    · (simp (disch := first | omega | (simp only [List.length_set, sw_len]; omega)) only [idx_nth, addI_ok, subI_ok, mulI_ok, quoI_ok, bind_s, gb_true, gb_false, cond_t, cond_f, dt_, df_, Bool.true_and, Bool.false_and, Bool.not_true, Bool.not_false, el2, el3, el4, elS_inl, elS_inr, less64, sw_fold, lenI_ok])
      exact .r ⟨by dsimp only; omega, by dsimp only; omega, h4, fun k m1 m2 => g3 k m1 (by dsimp only at m2; omega), k3⟩
    · (simp (disch := first | omega | (simp only [List.length_set, sw_len]; omega)) only [idx_nth, addI_ok, subI_ok, mulI_ok, quoI_ok, bind_s, gb_true, gb_false, cond_t, cond_f, dt_, df_, Bool.true_and, Bool.false_and, Bool.not_true, Bool.not_false, el2, el3, el4, elS_inl, elS_inr, less64, sw_fold, lenI_ok])
      exact .l (stepS h4 (by omega) (by omega) (by omega) g3 k3 (g4 (by omega)) (k4 (by omega))) (by dsimp only; omega)
  · obtain ⟨j', d'⟩ := o
    obtain ⟨q1, q2, q3, q4, q5⟩ := ho
    have hL' := q3.len
    dsimp only at *
    (simp (disch := first | omega | (simp only [List.length_set, sw_len]; omega)) only [idx_nth, addI_ok, subI_ok, mulI_ok, quoI_ok, bind_s, gb_true, gb_false, cond_t, cond_f, dt_, df_, Bool.true_and, Bool.false_and, Bool.not_true, Bool.not_false, el2, el3, el4, elS_inl, elS_inr, less64, sw_fold, lenI_ok])
    exact .s (ptn_fin h0 hb q1 q2 q3 q4 q5)
def Fr (l : List UInt64) (a0 a b b0 : Int) : Prop := ∀ p q, a0 ≤ p → p < q → q < b0 → (p < a ∨ b ≤ q) → lt64 (nth l q) (nth l p) = false
theorem Fr.same {l l' : List UInt64} {a0 a b b0 : Int} (h : Fr l a0 a b b0) (g : Same l l' a b) (h0 : 0 ≤ a0) (h1 : a0 ≤ a) (h2 : b ≤ b0) : Fr l' a0 a b b0 := fun p q g1 g2 g3 g4 => by
  by_cases e : a ≤ p ∧ p < b
  · obtain ⟨k, k1, k2, k3⟩ := g.src p e.1 e.2
    rw [k3, g.out q (by omega) (by omega)]
    exact h k q (by omega) (by omega) g3 (by omega)
  · rw [g.out p (by omega) (by omega)]
    by_cases e2 : a ≤ q ∧ q < b
    · obtain ⟨k, k1, k2, k3⟩ := g.src q e2.1 e2.2
      rw [k3]
      exact h p k g1 (by omega) (by omega) (by omega)
    · rw [g.out q (by omega) (by omega)]
      exact h p q g1 g2 g3 g4
theorem Fr.srt {l : List UInt64} {a0 a b b0 : Int} (h : Fr l a0 a b b0) (g : Srt lt64 l a b) : Srt lt64 l a0 b0 := fun p q h1 h2 h3 => by
  by_cases e : p < a ∨ b ≤ q
  · exact h p q h1 h2 h3 e
  · exact g p q (by omega) h2 (by omega)
def Pre (l : List UInt64) (a b : Int) : Prop := ∀ k, 0 < a → a ≤ k → k < b → lt64 (nth l k) (nth l (a - 1)) = false
theorem Pre.same {l l' : List UInt64} {a b : Int} (h : Pre l a b) (g : Same l l' a b) : Pre l' a b := fun k h1 h2 h3 => by
  obtain ⟨j, j1, j2, j3⟩ := g.src k h2 h3
  rw [j3, g.out (a - 1) (by omega) (by omega)]
  exact h j h1 j1 j2
theorem pdq_get : ∀ (n : Nat) {l : List UInt64} {a b lim : Int}, (b - a).toNat < n → 0 ≤ a → a ≤ b → b ≤ l.length → (l.length : Int) ≤ 281474976710656 → 0 ≤ lim → lim ≤ 64 → Pre l a b → Gets (slices_pdqsortOrdered_uint64_n n l a b lim) (fun l' => Same l l' a b ∧ Srt lt64 l' a b) := by
  intro n
  induction n with
  | zero => intro l a b lim h; omega
  | succ n ih =>
    intro l a b lim hn h0 hab hb hl hm0 hm1 hpre
    unfold slices_pdqsortOrdered_uint64_n slices_pdqsortOrdered_uint64_s
    refine Gets.loop (I := fun s => a ≤ s.1 ∧ s.1 ≤ s.2.1 ∧ s.2.1 ≤ b ∧ 0 ≤ s.2.2.1 ∧ s.2.2.1 ≤ 64 ∧ Same l s.2.2.2.2.2 a b ∧ Fr s.2.2.2.2.2 a s.1 s.2.1 b ∧ Pre s.2.2.2.2.2 s.1 s.2.1) (μ := fun s => (s.2.1 - s.1).toNat) (fun s hs => ?_) ⟨by dsimp only; omega, by dsimp only; omega, by dsimp only; omega, hm0, hm1, .rf, fun p q h1 h2 h3 h4 => by dsimp only at h4; omega, hpre⟩ (by dsimp only; omega)
    obtain ⟨a', b', lim, wb, wp, d⟩ := s
    obtain ⟨h1, h2, h3, h4, h5, h6, h7, h8⟩ := hs
    dsimp only at *
    have hL := h6.len
    unfold slices_pdqsortOrdered_uint64_l1
    have fin : ∀ {d' : List UInt64}, Same d d' a' b' → Srt lt64 d' a' b' → Same l d' a b ∧ Srt lt64 d' a b := fun g1 g2 => ⟨h6.tr (g1.up h0 h1 h3), (h7.same g1 h0 h1 h3).srt g2⟩
    rw [subI_ok (by omega) (by omega), bind_s]
    refine Gets.c (fun e => ?_) (fun e => ?_)
    · refine Gets.b (ins_get (by omega) h2 (by omega) (by omega)) (fun d' hd => ?_)
      rw [lenI_ok hd.1.len, bind_s]
      exact .r (fin hd.1 hd.2)
    have e := of_decide_eq_false e
    refine Gets.c (fun e0 => ?_) (fun e0 => ?_)
    · refine Gets.b (heap_get (by omega) (by omega) (by omega) (by omega)) (fun d' hd => ?_)
      rw [lenI_ok hd.1.len, bind_s]
      exact .r (fin hd.1 hd.2)
    have e0 := of_decide_eq_false e0
    refine Gets.b (P := fun o => 0 ≤ o.1 ∧ o.1 ≤ 64 ∧ Same d o.2 a' b') ?_ (fun o ho => ?_)
    · refine Gets.c (fun _ => ?_) (fun _ => .s ⟨h4, h5, .rf⟩)
      refine Gets.b (brk_get (by omega) h2 (by omega) (by omega)) (fun d' hd => ?_)
      rw [lenI_ok hd.len, bind_s, subI_ok (by omega) (by omega), bind_s]
      exact .s ⟨by dsimp only; omega, by dsimp only; omega, hd⟩
    obtain ⟨lim2, d1⟩ := o
    obtain ⟨m1, m2, m3⟩ := ho
    simp only [el2]
    have hL1 := m3.len
    dsimp only at m1 m2 m3 hL1
    refine Gets.b (piv_get (by omega) (by omega) (by omega) (by omega)) (fun r hr => ?_)
    refine Gets.b (P := fun o => a' ≤ o.1 ∧ o.1 < b' ∧ Same d o.2.2 a' b') ?_ (fun o ho => ?_)
    · refine Gets.c (fun _ => ?_) (fun _ => .s ⟨hr.1, hr.2, m3⟩)
      refine Gets.b (rev_get (by omega) h2 (by omega) (by omega)) (fun d' hd => ?_)
      rw [lenI_ok hd.len, bind_s]
      (simp (disch := first | omega | (simp only [List.length_set, sw_len]; omega)) only [idx_nth, addI_ok, subI_ok, mulI_ok, quoI_ok, bind_s, gb_true, gb_false, cond_t, cond_f, dt_, df_, Bool.true_and, Bool.false_and, Bool.not_true, Bool.not_false, el2, el3, el4, elS_inl, elS_inr, less64, sw_fold, lenI_ok])
      exact .s ⟨by dsimp only; omega, by dsimp only; omega, m3.tr hd⟩
    obtain ⟨pv, hint, d2⟩ := o
    obtain ⟨p1, p2, p3⟩ := ho
    simp only [el3]
    have hL2 := p3.len
    dsimp only at p1 p2 p3 hL2
    refine Gets.b (P := Sum.elim (fun d3 => Same d d3 a' b') (fun d3 => Same d d3 a' b' ∧ Srt lt64 d3 a' b')) ?_ (fun o ho => ?_)
    · refine Gets.c (fun _ => ?_) (fun _ => .s (show Same d d2 a' b' from p3))
      refine Gets.b (part_get (by omega) (by omega) (by omega) (by omega) (h8.same p3)) (fun r hr => ?_)
      rw [lenI_ok hr.1.len, bind_s]
      refine Gets.c (fun e => .s (show _ ∧ _ from ⟨p3.tr hr.1, hr.2 e⟩)) (fun e => .s (show Same _ _ _ _ from p3.tr hr.1))
    rcases o with d3 | d3
    · rw [elS_inl]
      have ho : Same d d3 a' b' := ho
      have hL3 := ho.len
      have hF3 := h7.same ho h0 h1 h3
      have hP3 := h8.same ho
      have hS3 : Same l d3 a b := h6.tr (ho.up h0 h1 h3)
      have gt : decide (a' > 0) = true → 0 < a' := fun h => of_decide_eq_true h
      refine Gets.b (Gets.g (P := fun v => v = a' - 1) (fun c => .e (subI_ok (by omega) (by omega)))) (fun x39 h39 => ?_)
      refine Gets.b (Gets.g (P := fun v => v = nth d3 (a' - 1)) (fun c => by rw [h39 c, idx_nth (by have := gt c; omega) (by omega)]; exact .s rfl)) (fun x40 h40 => ?_)
      refine Gets.b (Gets.g (P := fun v => v = nth d3 pv) (fun c => by rw [idx_nth (by omega) (by omega)]; exact .s rfl)) (fun x41 h41 => ?_)
      refine Gets.b (Gets.g (P := fun v => v = lt64 x40 x41) (fun c => by rw [less64]; exact .s rfl)) (fun x42 h42 => ?_)
      refine Gets.c (fun ec => ?_) (fun _ => ?_)
      · rw [Bool.and_eq_true] at ec
        obtain ⟨c, ec⟩ := ec
        have ex : lt64 (nth d3 (a' - 1)) (nth d3 pv) = false := by
          rw [← h40 c, ← h41 c, ← h42 c]; simpa using ec
        have c0 := gt c
        refine Gets.b (pteq_get (by omega) p1 p2 (by omega) (by omega) (fun k k1 k2 => weak64.tr _ _ _ ex (hP3 k c0 k1 k2))) (fun r hr => ?_)
        obtain ⟨r1, r2, r3, r4⟩ := hr
        rw [lenI_ok r3.len, bind_s]
        have hF4 := hF3.same r3 h0 h1 h3
        refine .l ⟨by dsimp only; omega, r2, h3, m1, m2, hS3.tr (r3.up h0 h1 h3), fun p q g1 g2 g3 g4 => ?_, fun k k1 k2 k3 => ?_⟩ (by dsimp only; omega)
        · dsimp only at *
          by_cases e : p < a' ∨ b' ≤ q
          · exact hF4 p q g1 g2 g3 e
          · exact r4 p q (by omega) g2 (by omega) (by omega)
        · dsimp only at *
          exact r4 (r.1 - 1) k (by omega) (by omega) k3 (by omega)
      · refine Gets.b (ptn_get (by omega) p1 p2 (by omega) (by omega)) (fun x hx => ?_)
        obtain ⟨mid, wq, d4⟩ := x
        obtain ⟨r1, r2, r3, r4, r5⟩ := hx
        dsimp only at *
        have hL4 := r3.len
        rw [lenI_ok r3.len, bind_s, subI_ok (by omega) (by omega), bind_s, subI_ok (by omega) (by omega), bind_s, quoI_ok (by omega) (by omega), bind_s]
        have hF4 := hF3.same r3 h0 h1 h3
        have hP4 := hP3.same r3
        have hS4 := hS3.tr (r3.up h0 h1 h3)
        have hge : ∀ k, mid ≤ k → k < b' → lt64 (nth d4 k) (nth d4 mid) = false := fun k k1 k2 => by
          by_cases e : k = mid
          · subst e; exact weak64.rf _
          · exact r5 k (by omega) k2
        refine Gets.c (fun _ => ?_) (fun _ => ?_)
        · refine Gets.b (ih (by omega) (by omega) r1 (by omega) (by omega) m1 m2 (fun k k1 k2 k3 => hP4 k k1 k2 (by omega))) (fun d5 hd => ?_)
          obtain ⟨s1, s2⟩ := hd
          rw [lenI_ok s1.len, bind_s, addI_ok (by omega) (by omega), bind_s]
          have s3 : Same d4 d5 a' b' := s1.up (by omega) (Int.le_refl _) (by omega)
          refine .l ⟨by dsimp only; omega, by dsimp only; omega, h3, m1, m2, hS4.tr (s3.up h0 h1 h3), fun p q g1 g2 g3 g4 => ?_, fun k k1 k2 k3 => ?_⟩ (by dsimp only; omega)
          · dsimp only at *
            by_cases e : p < a' ∨ b' ≤ q
            · exact (hF4.same s3 h0 h1 h3) p q g1 g2 g3 e
            · by_cases e2 : q < mid
              · exact s2 p q (by omega) g2 e2
              · rw [s1.out q (by omega) (by omega)]
                have t := hge q (by omega) (by omega)
                by_cases e3 : p < mid
                · obtain ⟨k, k1, k2, k3⟩ := s1.src p (by omega) e3
                  rw [k3]
                  exact weak64.tr _ _ _ (r4 k k1 k2) t
                · rw [s1.out p (by omega) (by omega)]
                  have : p = mid := by omega
                  subst this; exact t
          · dsimp only at *
            rw [s1.out k (by omega) (by omega), s1.out (mid + 1 - 1) (by omega) (by omega), show mid + 1 - 1 = mid by omega]
            exact hge k (by omega) k3
        · rw [addI_ok (by omega) (by omega), bind_s]
          refine Gets.b (ih (by omega) (by omega) (by omega) (by omega) (by omega) m1 m2 (fun k k1 k2 k3 => by rw [show mid + 1 - 1 = mid by omega]; exact hge k (by omega) k3)) (fun d5 hd => ?_)
          obtain ⟨s1, s2⟩ := hd
          rw [lenI_ok s1.len, bind_s]
          have s3 : Same d4 d5 a' b' := s1.up (by omega) (by omega) (Int.le_refl _)
          refine .l ⟨h1, r1, by dsimp only; omega, m1, m2, hS4.tr (s3.up h0 h1 h3), fun p q g1 g2 g3 g4 => ?_, fun k k1 k2 k3 => (hP4.same s3) k k1 k2 (by dsimp only at k3; omega)⟩ (by dsimp only; omega)
          dsimp only at *
          by_cases e : p < a' ∨ b' ≤ q
          · exact (hF4.same s3 h0 h1 h3) p q g1 g2 g3 e
          · by_cases e2 : mid < p
            · exact s2 p q (by omega) g2 (by omega)
            · rw [s1.out p (by omega) (by omega)]
              by_cases e3 : q = mid
              · rw [e3, s1.out mid (by omega) (by omega)]
                exact r4 p (by omega) (by omega)
              · obtain ⟨k, k1, k2, k3⟩ := s1.src q (by omega) (by omega)
                rw [k3]
                have t := hge k (by omega) k2
                by_cases e4 : p = mid
                · rw [e4]; exact t
                · exact weak64.tr _ _ _ (r4 p (by omega) (by omega)) t
    · rw [elS_inr]
      exact .r (fin ho.1 ho.2)
theorem sort_get {l : List UInt64} (hl : l.length ≤ 281474976710656) : Gets (slices_Sort_uint64 l) (fun l' => l'.Perm l ∧ l'.Pairwise (fun x y => x ≤ y)) := by
  unfold slices_Sort_uint64
  refine Gets.b (len_get _) (fun k hk => ?_)
  unfold slices_pdqsortOrdered_uint64
  refine Gets.b (pdq_get 18446744073709551616 (by omega) (by omega) (by omega) (Int.le_refl _) (by omega) hk.1 hk.2.1 (fun k h => by omega)) (fun l' h => ?_)
  rw [lenI_ok h.1.len, bind_s]
  refine .s ⟨h.1.perm, ?_⟩
  rw [List.pairwise_iff_getElem]
  intro i j hi hj hij
  have e := h.2 (i : Int) (j : Int) (by omega) (by omega) (by have := h.1.len; omega)
  rw [nth_get hi, nth_get hj] at e
  have e := of_decide_eq_false e
  rw [UInt64.le_iff_toNat_le]
  rw [UInt64.lt_iff_toNat_lt] at e
  omega
end Go.Proofs.Ytefmfhbkihplgaa.Tr
namespace Go.Proofs.Ytefmfhbkihplgaa.Tr
open Go
set_option maxHeartbeats 1000000
theorem nth_view {α : Type} [Inhabited α] {l : List α} {a j : Int} {m : Nat} (ha : 0 ≤ a) (hj : 0 ≤ j) (hm : j < m) : nth ((l.drop (Int.toNat a)).take m) j = nth l (a + j) := by
  unfold nth
  rw [List.getElem?_take, if_pos (by omega), List.getElem?_drop, show (a + j).toNat = a.toNat + j.toNat by omega]
theorem nth_mem {l : List UInt64} {k : Int} (h0 : 0 ≤ k) (h : k < l.length) : nth l k ∈ l := by
  have h2 : k.toNat < l.length := by omega
  unfold nth
  rw [List.getElem?_eq_getElem h2]; exact List.getElem_mem h2
def Dup (l l' : List UInt64) : Prop := l'.Pairwise (fun x y => x < y) ∧ (∀ x, x ∈ l' ↔ x ∈ l) ∧ l'.length ≤ l.length
theorem Dup.of {l l' : List UInt64} (h1 : ∀ p q, 0 ≤ p → p < q → q < (l'.length : Int) → nth l' p < nth l' q) (h2 : ∀ p, 0 ≤ p → p < (l'.length : Int) → ∃ i, 0 ≤ i ∧ i < (l.length : Int) ∧ nth l' p = nth l i) (h3 : ∀ i, 0 ≤ i → i < (l.length : Int) → ∃ p, 0 ≤ p ∧ p < (l'.length : Int) ∧ nth l' p = nth l i) (h4 : l'.length ≤ l.length) : Dup l l' := by
  refine ⟨?_, fun x => ⟨fun h => ?_, fun h => ?_⟩, h4⟩
  · rw [List.pairwise_iff_getElem]
    intro i j hi hj hij
    have := h1 i j (by omega) (by omega) (by omega)
    rwa [nth_get hi, nth_get hj] at this
  · obtain ⟨i, hi, rfl⟩ := List.getElem_of_mem h
    obtain ⟨j, j1, j2, j3⟩ := h2 i (by omega) (by omega)
    rw [nth_get hi] at j3
    rw [j3]; exact nth_mem j1 j2
  · obtain ⟨i, hi, rfl⟩ := List.getElem_of_mem h
    obtain ⟨j, j1, j2, j3⟩ := h3 i (by omega) (by omega)
    rw [nth_get hi] at j3
    rw [← j3]; exact nth_mem j1 j2
theorem comp_get {l : List UInt64} (hl : (l.length : Int) ≤ 281474976710656) (hs : l.Pairwise (fun x y => x ≤ y)) : Gets (slices_Compact_uint64 l) (Dup l) := by
  have hle : ∀ p q, 0 ≤ p → p < q → q < (l.length : Int) → nth l p ≤ nth l q := fun p q h1 h2 h3 => by
    have := (List.pairwise_iff_getElem.1 hs) p.toNat q.toNat (by omega) (by omega) (by omega)
    rw [← nth_get, ← nth_get, show (p.toNat : Int) = p by omega, show (q.toNat : Int) = q by omega] at this
    exact this
  have lt_of : ∀ {x y : UInt64}, x ≤ y → x ≠ y → x < y := fun h h2 => by
    rw [UInt64.le_iff_toNat_le] at h
    rw [UInt64.lt_iff_toNat_lt]
    have : ¬ _ = _ := fun e => h2 (UInt64.toNat_inj.1 e)
    omega
  have lt_tr : ∀ {x y z : UInt64}, x ≤ y → y < z → x < z := fun h h2 => by
    rw [UInt64.le_iff_toNat_le] at h
    rw [UInt64.lt_iff_toNat_lt] at *
    omega
  have lt_le : ∀ {x y : UInt64}, x < y → x ≤ y := fun h => by
    rw [UInt64.le_iff_toNat_le]
    rw [UInt64.lt_iff_toNat_lt] at *
    omega
  unfold slices_Compact_uint64
  refine Gets.c (fun e => ?_) (fun e => ?_)
  · have e := of_decide_eq_true e
    exact .s (.of (fun p q h1 h2 h3 => by omega) (fun p h1 h2 => ⟨p, h1, h2, rfl⟩) (fun p h1 h2 => ⟨p, h1, h2, rfl⟩) (Nat.le_refl _))
  have e := of_decide_eq_false e
  refine Gets.b (Gets.loop (I := fun k => 1 ≤ k ∧ k ≤ (l.length : Int) ∧ ∀ p q, 0 ≤ p → p < q → q < k → nth l p < nth l q) (μ := fun k => ((l.length : Int) - k).toNat) (R := Sum.elim (fun _ => Dup l l) (fun l' => Dup l l')) (fun k hk => ?_) ⟨by omega, by omega, fun p q h1 h2 h3 => by omega⟩ (by omega)) (fun o ho => ?_)
  · obtain ⟨h1, h2, h3⟩ := hk
    unfold slices_Compact_uint64_l1
    refine Gets.c (fun e => ?_) (fun e => ?_)
    · have e := of_decide_eq_true e
      rw [idx_nth (by omega) (by omega), bind_s, subI_ok (by omega) (by omega), bind_s, idx_nth (by omega) (by omega), bind_s]
      refine Gets.c (fun e2 => ?_) (fun e2 => ?_)
      · have e2 := of_decide_eq_true e2
        rw [cut_ok (by omega) (by omega) (by omega), bind_s]
        refine Gets.b (Gets.loop (I := fun s => k ≤ s.1 ∧ 1 ≤ s.2.1 ∧ s.1 ≤ k + s.2.1 - 1 ∧ k + s.2.1 ≤ (l.length : Int) ∧ s.2.2.length = l.length ∧ (∀ p q, 0 ≤ p → p < q → q < s.1 → nth s.2.2 p < nth s.2.2 q) ∧ (∀ p, 0 ≤ p → p < s.1 → ∃ i, 0 ≤ i ∧ i < (l.length : Int) ∧ nth s.2.2 p = nth l i) ∧ (∀ i, 0 ≤ i → i < k + s.2.1 → ∃ p, 0 ≤ p ∧ p < s.1 ∧ nth s.2.2 p = nth l i) ∧ (∀ i, s.1 ≤ i → nth s.2.2 i = nth l i) ∧ nth s.2.2 (s.1 - 1) = nth l (k + s.2.1 - 1)) (μ := fun s => ((l.length : Int) - s.2.1).toNat) (R := fun s => k ≤ s.1 ∧ s.1 ≤ (l.length : Int) ∧ s.2.length = l.length ∧ (∀ p q, 0 ≤ p → p < q → q < s.1 → nth s.2 p < nth s.2 q) ∧ (∀ p, 0 ≤ p → p < s.1 → ∃ i, 0 ≤ i ∧ i < (l.length : Int) ∧ nth s.2 p = nth l i) ∧ (∀ i, 0 ≤ i → i < (l.length : Int) → ∃ p, 0 ≤ p ∧ p < s.1 ∧ nth s.2 p = nth l i)) (fun s hs => ?_) ⟨Int.le_refl _, Int.le_refl _, by dsimp only; omega, by dsimp only; omega, rfl, h3, fun p g1 g2 => ⟨p, g1, by dsimp only at g2; omega, rfl⟩, fun i g1 g2 => ?_, fun i g => rfl, ?_⟩ (by dsimp only; omega)) (fun o ho => ?_)
        · obtain ⟨k', k2, s⟩ := s
          obtain ⟨g1, g2, g3, g4, g5, g6, g7, g8, g9, g10⟩ := hs
          dsimp only at *
          have hv : ((((l.length : Nat) - k : Int).toNat : Nat) : Int) = l.length - k := by omega
          unfold slices_Compact_uint64_l2
          refine Gets.c (fun e3 => ?_) (fun e3 => ?_)
          · have e3 := of_decide_eq_true e3
            rw [hv] at e3
            have hw : (((s.drop (Int.toNat k)).take (((l.length : Nat) - k : Int).toNat)).length : Int) = l.length - k := by
              simp only [List.length_take, List.length_drop]; omega
            have hcut : cut s.length ((Int.toNat k) : Int) (((Int.toNat k) + ((l.length : Nat) - k : Int).toNat : Nat) : Int) = some () := cut_ok (by omega) (by omega) (by omega)
            have hi1 : idx ((s.drop (Int.toNat k)).take (((l.length : Nat) - k : Int).toNat)) k2 = some (nth l (k + k2)) := by
              rw [idx_nth (by omega) (by omega), nth_view (by omega) (by omega) (by omega), g9 _ (by omega)]
            have hi2 : idx ((s.drop (Int.toNat k)).take (((l.length : Nat) - k : Int).toNat)) (k2 - 1) = some (nth l (k + k2 - 1)) := by
              rw [idx_nth (by omega) (by omega), nth_view (by omega) (by omega) (by omega), g9 _ (by omega), show k + (k2 - 1) = k + k2 - 1 by omega]
            have hle2 : nth l (k + k2 - 1) ≤ nth l (k + k2) := hle _ _ (by omega) (by omega) (by omega)
            rw [hcut, bind_s, hi1, bind_s, subI_ok (by omega) (by omega), bind_s, hi2, bind_s]
            refine Gets.b (P := fun s' => k ≤ s'.1 ∧ s'.1 ≤ k + k2 ∧ s'.2.length = l.length ∧ (∀ p q, 0 ≤ p → p < q → q < s'.1 → nth s'.2 p < nth s'.2 q) ∧ (∀ p, 0 ≤ p → p < s'.1 → ∃ i, 0 ≤ i ∧ i < (l.length : Int) ∧ nth s'.2 p = nth l i) ∧ (∀ i, 0 ≤ i → i < k + k2 + 1 → ∃ p, 0 ≤ p ∧ p < s'.1 ∧ nth s'.2 p = nth l i) ∧ (∀ i, s'.1 ≤ i → nth s'.2 i = nth l i) ∧ nth s'.2 (s'.1 - 1) = nth l (k + k2)) ?_ (fun s' hs' => ?_)
            · refine Gets.c (fun e4 => ?_) (fun e4 => ?_)
              · have e4 := of_decide_eq_true e4
                have hlt := lt_of hle2 (fun h => e4 h.symm)
                rw [bind_s, bind_s, idx_nth (by omega) (by omega), bind_s, bind_s, addI_ok (by omega) (by omega), bind_s]
                have hn : ∀ i, 0 ≤ i → nth (s.set (Int.toNat k') (nth l (k + k2))) i = if i = k' then nth l (k + k2) else nth s i := fun i hi => nth_set (by omega) (by omega) hi
                refine .s ⟨by dsimp only; omega, by dsimp only; omega, by dsimp only; rw [List.length_set]; exact g5, fun p q m1 m2 m3 => ?_, fun p m1 m2 => ?_, fun i m1 m2 => ?_, fun i m1 => ?_, ?_⟩
                · dsimp only at *
                  rw [hn p m1, hn q (by omega), if_neg (by omega)]
                  by_cases e5 : q = k'
                  · rw [if_pos e5]
                    by_cases e6 : p = k' - 1
                    · rw [e6, g10]; exact hlt
                    · have t := g6 p (k' - 1) m1 (by omega) (by omega)
                      rw [g10] at t
                      exact lt_tr (lt_le t) hlt
                  · rw [if_neg e5]; exact g6 p q m1 m2 (by omega)
                · dsimp only at *
                  rw [hn p m1]
                  by_cases e5 : p = k'
                  · rw [if_pos e5]; exact ⟨k + k2, by omega, by omega, rfl⟩
                  · rw [if_neg e5]; exact g7 p m1 (by omega)
                · dsimp only at *
                  by_cases e5 : i = k + k2
                  · exact ⟨k', by omega, by omega, by rw [hn k' (by omega), if_pos rfl, e5]⟩
                  · obtain ⟨p, p1, p2, p3⟩ := g8 i m1 (by omega)
                    exact ⟨p, p1, by omega, by rw [hn p p1, if_neg (by omega)]; exact p3⟩
                · dsimp only at *
                  rw [hn i (by omega), if_neg (by omega)]; exact g9 i (by omega)
                · dsimp only
                  rw [hn _ (by omega), if_pos (by omega)]
              · have e4 := of_decide_eq_false e4
                have e4 : nth l (k + k2) = nth l (k + k2 - 1) := Classical.not_not.1 e4
                refine .s ⟨g1, by dsimp only; omega, g5, g6, g7, fun i m1 m2 => ?_, g9, by dsimp only; rw [g10, e4]⟩
                dsimp only at *
                by_cases e5 : i = k + k2
                · rw [e5, e4]; exact g8 _ (by omega) (by omega)
                · exact g8 i m1 (by omega)
            · obtain ⟨k3, s3⟩ := s'
              simp only [el2]
              obtain ⟨m1, m2, m3, m4, m5, m6, m7, m8⟩ := hs'
              dsimp only at *
              rw [addI_ok (by omega) (by omega), bind_s]
              refine .l ⟨m1, by dsimp only; omega, by dsimp only; omega, by dsimp only; omega, m3, m4, m5, fun i n1 n2 => m6 i n1 (by dsimp only at n2; omega), m7, by dsimp only; rw [m8]; congr 1; omega⟩ (by dsimp only; omega)
          · have e3 := of_decide_eq_false e3
            rw [hv] at e3
            exact .r ⟨g1, by dsimp only; omega, g5, g6, g7, fun i m1 m2 => g8 i m1 (by omega)⟩
        · dsimp only at *
          by_cases e5 : i = k
          · exact ⟨k - 1, by omega, by omega, by rw [e5, e2]⟩
          · exact ⟨i, g1, by omega, rfl⟩
        · dsimp only
          rw [show k + 1 - 1 = k by omega, e2]
        · obtain ⟨k', s⟩ := o
          obtain ⟨g1, g2, g5, g6, g7, g8⟩ := ho
          dsimp only at *
          simp only [el2]
          rw [cut_ok (by omega) (by omega) (by omega), bind_s, bind_s]
          have ht : (splice s (Int.toNat k') (List.replicate (((s.length : Nat) - k' : Int).toNat) (Dat.z : UInt64))).take (Int.toNat k') = s.take (Int.toNat k') := by
            unfold splice
            rw [List.append_assoc, List.take_append_of_le_length (by rw [List.length_take]; omega), List.take_take, Nat.min_self]
          rw [cut_ok (by omega) (by omega) (by unfold splice; simp only [List.length_append, List.length_take, List.length_replicate]; omega), bind_s, bind_s, ht]
          have hlen : ((s.take (Int.toNat k')).length : Int) = k' := by rw [List.length_take]; omega
          have hn : ∀ p, 0 ≤ p → p < k' → nth (s.take (Int.toNat k')) p = nth s p := fun p p1 p2 => by
            unfold nth; rw [List.getElem?_take, if_pos (by omega)]
          refine .r (show Dup _ _ from .of (fun p q m1 m2 m3 => ?_) (fun p m1 m2 => ?_) (fun i m1 m2 => ?_) (by omega))
          · rw [hn p m1 (by omega), hn q (by omega) (by omega)]; exact g6 p q m1 m2 (by omega)
          · rw [hn p m1 (by omega)]; exact g7 p m1 (by omega)
          · obtain ⟨p, p1, p2, p3⟩ := g8 i m1 m2
            exact ⟨p, p1, by omega, by rw [hn p p1 p2]; exact p3⟩
      · have e2 := of_decide_eq_false e2
        rw [addI_ok (by omega) (by omega), bind_s]
        refine .l ⟨by omega, by omega, fun p q g1 g2 g3 => ?_⟩ (by omega)
        by_cases e3 : q = k
        · subst e3
          have t := lt_of (hle (q - 1) q (by omega) (by omega) (by omega)) (fun h => e2 h.symm)
          by_cases e4 : p = q - 1
          · rw [e4]; exact t
          · exact lt_tr (lt_le (h3 p (q - 1) g1 (by omega) (by omega))) t
        · exact h3 p q g1 g2 (by omega)
    · have e := of_decide_eq_false e
      exact .r (show Dup l l from .of (fun p q m1 m2 m3 => h3 p q m1 m2 (by omega)) (fun p h1 h2 => ⟨p, h1, h2, rfl⟩) (fun p h1 h2 => ⟨p, h1, h2, rfl⟩) (Nat.le_refl _))
  · rcases o with _ | l'
    · exact .elSl (.s ho)
    · exact .elSr (.s ho)
end Go.Proofs.Ytefmfhbkihplgaa.Tr
namespace Go.Proofs.Ytefmfhbkihplgaa.Tr
open Go
set_option maxHeartbeats 1000000
theorem find_get {l : List Int} {v : Int} {ε : Type} {f : Int → Option (Int ⊕ (Unit ⊕ ε))} (hl : l.length ≤ 1000000) {y : Int → ε}
    (hf : ∀ i : Nat, f (i : Int) = if h : i < l.length then (if l[i] = v then some (.inr (.inr (y i))) else some (.inl ((i + 1 : Nat) : Int))) else some (.inr (.inl ()))) :
    Gets (loopO f 0) (fun o => (v ∈ l ∧ ∃ i : Nat, o = .inr (y i)) ∨ (v ∉ l ∧ o = .inl ())) := by
  refine Gets.loop (fun s => ∃ i : Nat, s = (i : Int) ∧ i ≤ l.length ∧ v ∉ l.take i) (fun s => l.length - s.toNat) ?_ ⟨0, rfl, Nat.zero_le _, by simp⟩ (by omega)
  rintro s ⟨i, rfl, hi, hm⟩
  rw [hf i]
  by_cases h : i < l.length
  · rw [dif_pos h]
    by_cases h2 : l[i] = v
    · rw [if_pos h2]
      exact .r (.inl ⟨by rw [← h2]; exact List.getElem_mem h, i, rfl⟩)
    · rw [if_neg h2]
      refine .l ⟨i + 1, rfl, h, fun h3 => ?_⟩ (by omega)
      rw [List.take_succ_eq_append_getElem h, List.mem_append] at h3
      rcases h3 with h3 | h3
      · exact hm h3
      · exact h2 (List.mem_singleton.1 h3).symm
  · rw [dif_neg h]
    refine .r (.inr ⟨?_, rfl⟩)
    rw [List.take_of_length_le (by omega)] at hm
    exact hm
theorem contains_eq {l : List Int} (v : Int) (hl : l.length ≤ 1000000) : slices_Contains_int l v = some (decide (v ∈ l)) := by
  unfold slices_Contains_int slices_Index_int
  obtain ⟨o, e, ho⟩ := find_get (f := fun s => slices_Index_int_l1 l v s) (y := fun i => i) (v := v) hl (fun i => by
    show slices_Index_int_l1 l v i = _
    unfold slices_Index_int_l1
    by_cases h : i < l.length
    · rw [lt_t h, cond_t, idx_nat h, bind_s, dif_pos h]
      by_cases h2 : l[i] = v
      · rw [decide_eq_true h2.symm, cond_t, if_pos h2]
      · rw [decide_eq_false (fun h => h2 h.symm), cond_f, if_neg h2, addI_ok (by omega) (by omega), bind_s]; rfl
    · rw [show decide ((i : Int) < (l.length : Int)) = false from decide_eq_false (by omega), cond_f, dif_neg h])
  rw [e]
  rcases ho with ⟨h1, i, rfl⟩ | ⟨h1, rfl⟩
  · rw [bind_s, elS_inr, bind_s, decide_eq_true h1, decide_eq_true (show (i : Int) ≥ 0 by omega)]
  · rw [bind_s, elS_inl, bind_s, decide_eq_false h1]; rfl
theorem has_eq8 {l : List Int} (v : Int) (hl : l.length ≤ 1000000) : bywayref08_Has l v = some (decide (v ∈ l)) := by
  unfold bywayref08_Has
  obtain ⟨o, e, ho⟩ := find_get (f := fun s => bywayref08_Has_l1 l v s) (y := fun i => true) (v := v) hl (fun i => by
    show bywayref08_Has_l1 l v i = _
    unfold bywayref08_Has_l1
    by_cases h : i < l.length
    · rw [lt_t h, cond_t, idx_nat h, bind_s, dif_pos h]
      by_cases h2 : l[i] = v
      · rw [decide_eq_true h2, cond_t, if_pos h2]
      · rw [decide_eq_false h2, cond_f, if_neg h2, addI_ok (by omega) (by omega), bind_s]; rfl
    · rw [show decide ((i : Int) < (l.length : Int)) = false from decide_eq_false (by omega), cond_f, dif_neg h])
  rw [e]
  rcases ho with ⟨h1, i, rfl⟩ | ⟨h1, rfl⟩
  · rw [bind_s, elS_inr, decide_eq_true h1]
  · rw [bind_s, elS_inl, decide_eq_false h1]
def nwg (id : Int) (n : Nat) (s : Int × UInt64) (v : image_sheet) : Int × UInt64 :=
  if v.kind = 3 ∧ v.id = id ∧ s.2 ≤ v.gen then (((n + 1 : Nat) : Int), v.gen) else s
def nwOf (id : Int) (l : List image_sheet) : Int × UInt64 := foldG (nwg id) 0 (0, UInt64.ofNat 0) l
theorem newest_eq {c : Chip} (hc : cRight c = true) (id : Int) : image_Newest c id = some (if (nwOf id (sheetsOf c)).1 = 0 then (0, 6) else ((nwOf id (sheetsOf c)).1, 0)) := by
  unfold image_Newest
  rw [chip_Right_eq, bind_s, hc, Bool.not_true, cond_f]
  unfold image_sheets
  rw [bind_s]
  have hl := sheets_count hc
  obtain ⟨e1, -⟩ := foldS_inv (ε := Empty) (f := fun (s : Int × UInt64) n_10 v_11 => image_Newest_l1 id s.1 s.2 n_10 v_11) (nwg id) (fun _ _ => True) (fun n s v hn h => by
    refine ⟨?_, trivial⟩
    obtain ⟨a, g⟩ := s
    unfold image_Newest_l1 nwg
    by_cases h1 : v.kind = 3
    · by_cases h2 : v.id = id
      · by_cases h3 : g ≤ v.gen
        · rw [decide_eq_true h1, decide_eq_true h2, decide_eq_true h3, if_pos ⟨h1, h2, h3⟩]; rfl
        · rw [decide_eq_false h3, Bool.and_false, cond_f, if_neg (fun h => h3 h.2.2)]
      · rw [decide_eq_false h2, Bool.and_false, Bool.false_and, cond_f, if_neg (fun h => h2 h.2.1)]
    · rw [decide_eq_false h1, Bool.false_and, Bool.false_and, cond_f, if_neg (fun h => h1 h.1)]) (sheetsOf c) 0 ((0 : Int), UInt64.ofNat 0) trivial (by omega)
  rw [sheets_eq hc _ e1, bind_s, elS_inl]
  simp only [el2]
  show (bif decide ((nwOf id (sheetsOf c)).1 = 0) then _ else _) = _
  by_cases h : (nwOf id (sheetsOf c)).1 = 0
  · rw [decide_eq_true h, cond_t, if_pos h]
  · rw [decide_eq_false h, cond_f, if_neg h]; rfl
def stl (at0 : List Int) : Nat → List image_sheet → List Int
  | _, [] => []
  | n, v :: vs => if v.kind = 3 ∧ ((n + 1 : Nat) : Int) ∉ at0 then ((n + 1 : Nat) : Int) :: stl at0 (n + 1) vs else stl at0 (n + 1) vs
def stg (at0 : List Int) (n : Nat) (l : List Int) (v : image_sheet) : List Int := if v.kind = 3 ∧ ((n + 1 : Nat) : Int) ∉ at0 then l ++ [((n + 1 : Nat) : Int)] else l
theorem stg_fold (at0 : List Int) : ∀ (xs : List image_sheet) (n : Nat) (l : List Int), foldG (stg at0) n l xs = l ++ stl at0 n xs
  | [], n, l => by rw [stl, List.append_nil]; rfl
  | v :: xs, n, l => by
    rw [foldG, stg_fold at0 xs, stl]
    unfold stg
    split
    · rw [List.append_assoc]; rfl
    · rfl
theorem stale_eq {c : Chip} (hc : cRight c = true) {at0 : List Int} (ha : at0.length ≤ 1000000) : image_Stale c at0 = some (stl at0 0 (sheetsOf c)) := by
  unfold image_Stale
  rw [chip_Right_eq, bind_s, hc, Bool.not_true, cond_f, bind_s, bind_s]
  unfold image_sheets
  rw [bind_s]
  have hl := sheets_count hc
  obtain ⟨e1, -⟩ := foldS_inv (ε := Empty) (f := fun (s : List Int) n_11 v_12 => image_Stale_l1 at0 s n_11 v_12) (stg at0) (fun n l => l.length ≤ n) (fun n l v hn h => by
    unfold image_Stale_l1 stg
    by_cases h1 : v.kind = 3
    · rw [decide_eq_true h1, gb_true, contains_eq _ ha, bind_s, Bool.true_and]
      by_cases h2 : ((n + 1 : Nat) : Int) ∈ at0
      · rw [decide_eq_true h2, Bool.not_true, cond_f, if_neg (fun h => h.2 h2)]
        exact ⟨rfl, by omega⟩
      · rw [decide_eq_false h2, Bool.not_false, cond_t, if_pos ⟨h1, h2⟩, room_ok (by omega) (by simp only [List.length_singleton]; omega) (by simp only [List.length_singleton]; omega), bind_s, bind_s]
        exact ⟨rfl, by simp only [List.length_append, List.length_singleton]; omega⟩
    · rw [decide_eq_false h1, gb_false, bind_s, Bool.false_and, cond_f, if_neg (fun h => h1 h.1)]
      exact ⟨rfl, by omega⟩) (sheetsOf c) 0 [] (Nat.le_refl _) (by omega)
  rw [stg_fold, List.nil_append] at e1
  rw [sheets_eq hc _ e1, bind_s, elS_inl]
def gensOf (l : List image_sheet) : List UInt64 := (l.filter fun v => decide (v.kind = 2)).map (·.gen)
theorem gens_fold : ∀ (xs : List image_sheet) (n : Nat) (l : List UInt64), foldG (fun _ l v => if v.kind = 2 then l ++ [v.gen] else l) n l xs = l ++ gensOf xs
  | [], n, l => by simp [foldG, gensOf]
  | v :: xs, n, l => by
    rw [foldG, gens_fold xs]
    unfold gensOf
    by_cases h : v.kind = 2
    · simp [h]
    · simp [h]
theorem Dup.perm {l l' m : List UInt64} (h : Dup l m) (p : l.Perm l') : Dup l' m := ⟨h.1, fun x => (h.2.1 x).trans p.mem_iff, by rw [← p.length_eq]; exact h.2.2⟩
theorem gensOf_length (l : List image_sheet) : (gensOf l).length = l.countP fun v => decide (v.kind = 2) := by
  unfold gensOf; rw [List.length_map, List.countP_eq_length_filter]
theorem gens_get {c : Chip} (hc : cRight c = true) : Gets (image_Gens c) (Dup (gensOf (sheetsOf c))) := by
  unfold image_Gens
  rw [chip_Right_eq, bind_s, hc, Bool.not_true, cond_f, bind_s, bind_s]
  unfold image_sheets
  rw [bind_s]
  have hl := sheets_count hc
  obtain ⟨e1, -⟩ := foldS_inv (ε := Empty) (f := fun (s : List UInt64) n_10 v_11 => image_Gens_l1 s n_10 v_11) (fun _ l v => if v.kind = 2 then l ++ [v.gen] else l) (fun n l => l.length ≤ n) (fun n l v hn h => by
    unfold image_Gens_l1
    by_cases h1 : v.kind = 2
    · rw [decide_eq_true h1, cond_t, if_pos h1, room_ok (by omega) (by simp only [List.length_singleton]; omega) (by simp only [List.length_singleton]; omega), bind_s, bind_s]
      exact ⟨rfl, by simp only [List.length_append, List.length_singleton]; omega⟩
    · rw [decide_eq_false h1, cond_f, if_neg h1]
      exact ⟨rfl, by omega⟩) (sheetsOf c) 0 [] (Nat.le_refl _) (by omega)
  rw [gens_fold, List.nil_append] at e1
  rw [sheets_eq hc _ e1, bind_s, elS_inl]
  have hg : (gensOf (sheetsOf c)).length ≤ 512 := by rw [gensOf_length]; exact Nat.le_trans List.countP_le_length hl
  refine Gets.b (sort_get (by omega)) (fun x hx => ?_)
  have hxl := hx.1.length_eq
  rw [lenI_ok hxl, bind_s]
  refine Gets.b (comp_get (by omega) hx.2) (fun y hy => .s (hy.perm hx.1))
end Go.Proofs.Ytefmfhbkihplgaa.Tr
namespace Go.Proofs.Ytefmfhbkihplgaa.Tr
open Go
set_option maxHeartbeats 1000000
theorem image_awake_eq2 : bywaylaw21_awake = some true := by decide +kernel
theorem tally_sum (l : List image_sheet) : (tallyOf l).Blank + (tallyOf l).Data + (tallyOf l).Roots + (tallyOf l).Torn + (tallyOf l).Lost = (l.length : Int) := by
  unfold tallyOf
  dsimp only
  induction l with
  | nil => rfl
  | cons v l ih =>
    simp only [List.countP_cons, List.length_cons]
    by_cases h0 : v.kind = 0
    · simp [h0]; omega
    · by_cases h1 : v.kind = 1
      · simp [h1]; omega
      · by_cases h2 : v.kind = 2
        · simp [h2]; omega
        · by_cases h3 : v.kind = 3
          · simp [h3]; omega
          · simp [h0, h1, h2, h3]; omega
theorem look_kind (b : List UInt8) (u : Bool) : (lookV b u).kind = 0 ∨ (lookV b u).kind = 1 ∨ (lookV b u).kind = 2 ∨ (lookV b u).kind = 3 ∨ (lookV b u).kind = 4 := by
  unfold lookV
  split
  · cases u
    · exact .inl rfl
    · exact .inr (.inl rfl)
  · split
    · exact .inr (.inr (.inl rfl))
    · split
      · exact .inr (.inr (.inr (.inl rfl)))
      · exact .inr (.inr (.inr (.inr rfl)))
theorem sound_none {c : Chip} (h : soundB c = true) : (tallyOf (sheetsOf c)).Torn = 0 ∧ (tallyOf (sheetsOf c)).Lost = 0 := by
  unfold soundB at h
  rw [List.all_eq_true] at h
  have hk : ∀ v ∈ sheetsOf c, v.kind ≠ 4 ∧ v.kind ≠ 1 ∧ (v.kind = 0 ∨ v.kind = 1 ∨ v.kind = 2 ∨ v.kind = 3 ∨ v.kind = 4) := fun v hv => by
    obtain ⟨q, hq, rfl⟩ := List.mem_map.1 hv
    have := h q hq
    unfold badP at this
    simp only [Bool.not_eq_true', Bool.or_eq_false_iff, decide_eq_false_iff_not] at this
    exact ⟨this.1.1, this.1.2, look_kind _ _⟩
  unfold tallyOf
  dsimp only
  refine ⟨?_, ?_⟩
  · rw [List.countP_eq_zero.2]; rfl
    intro v hv
    obtain ⟨h1, h2, h3⟩ := hk v hv
    rcases h3 with h3 | h3 | h3 | h3 | h3
    · simp [h3]
    · exact absurd h3 h2
    · simp [h3]
    · simp [h3]
    · exact absurd h3 h1
  · rw [List.countP_eq_zero.2]; rfl
    intro v hv
    obtain ⟨h1, h2, h3⟩ := hk v hv
    simp [h2]
theorem stl_length : ∀ (l : List image_sheet) (n : Nat), (stl [] n l).length = l.countP fun v => decide (v.kind = 3)
  | [], n => rfl
  | v :: l, n => by
    rw [stl, List.countP_cons]
    by_cases h : v.kind = 3
    · simp [h, stl_length l]
    · simp [h, stl_length l]
theorem stl_gt : ∀ (l : List image_sheet) (n : Nat) (x : Int), x ∈ stl [] n l → (n : Int) < x
  | [], n, x, h => by cases h
  | v :: l, n, x, h => by
    rw [stl] at h
    split at h
    · rcases List.mem_cons.1 h with rfl | h
      · omega
      · have := stl_gt l (n + 1) x h; omega
    · have := stl_gt l (n + 1) x h; omega
theorem stl_one (m : Int) : ∀ (l : List image_sheet) (n : Nat), (stl [m] n l).length + (if m ∈ stl [] n l then 1 else 0) = (stl [] n l).length
  | [], n => by simp [stl]
  | v :: l, n => by
    have ih := stl_one m l (n + 1)
    rw [stl, stl]
    by_cases h : v.kind = 3
    · rw [if_pos (show v.kind = 3 ∧ ((n + 1 : Nat) : Int) ∉ ([] : List Int) from ⟨h, by simp⟩)]
      by_cases h2 : ((n + 1 : Nat) : Int) = m
      · have h3 : m ∉ stl [] (n + 1) l := fun h3 => by have := stl_gt l _ _ h3; omega
        rw [if_neg h3] at ih
        rw [if_neg (fun h => h.2 (by rw [h2]; exact List.mem_singleton_self _)), if_pos (by rw [h2]; exact List.mem_cons_self ..), List.length_cons]
        omega
      · rw [if_pos ⟨h, fun h3 => h2 (List.mem_singleton.1 h3)⟩]
        have h3 : (m ∈ ((n + 1 : Nat) : Int) :: stl [] (n + 1) l) ↔ m ∈ stl [] (n + 1) l := by
          rw [List.mem_cons]; exact ⟨fun h => h.resolve_left (fun h => h2 h.symm), .inr⟩
        simp only [h3, List.length_cons]
        omega
    · simp only [h, false_and, if_false]; exact ih
theorem nw_mem (id : Int) : ∀ (l : List image_sheet) (n : Nat) (s : Int × UInt64), (foldG (nwg id) n s l).1 = s.1 ∨ (foldG (nwg id) n s l).1 ∈ stl [] n l
  | [], n, s => .inl rfl
  | v :: l, n, s => by
    rw [foldG, stl]
    have ih := nw_mem id l (n + 1) (nwg id n s v)
    by_cases h : v.kind = 3
    · rw [if_pos ⟨h, by simp⟩]
      rcases ih with ih | ih
      · rw [ih]
        unfold nwg
        split
        · exact .inr (List.mem_cons_self ..)
        · exact .inl rfl
      · exact .inr (List.mem_cons_of_mem _ ih)
    · rw [if_neg (fun h2 => h h2.1)]
      rcases ih with ih | ih
      · rw [ih]
        unfold nwg
        rw [if_neg (fun h2 => h h2.1)]
        exact .inl rfl
      · exact .inr ih
theorem imageCounts_plain (c0 : Chip) (id0 : Int) : bywaylaw21_ImageCounts c0 id0 = some true := by
  unfold bywaylaw21_ImageCounts
  obtain ⟨r, hr⟩ := refShort_some c0
  rw [image_awake_eq2, bind_s, Bool.not_true, cond_f, hr, bind_s]
  cases r with
  | false => rw [show (!(!false)) = false from rfl, gb_false, bind_s]; rfl
  | true =>
  rw [show (!(!true)) = true from rfl, gb_true, chip_Right_eq, bind_s]
  cases hc : cRight c0 with
  | false => rfl
  | true =>
  rw [show ((!true) || (!true)) = false from rfl, cond_f, count_eq hc, bind_s]
  have hl := sheets_count hc
  have hsum := tally_sum (sheetsOf c0)
  have hsn := @sound_none c0
  obtain ⟨g, eg, hg⟩ := gens_get hc
  have hD : (tallyOf (sheetsOf c0)).Data = ((stl [] 0 (sheetsOf c0)).length : Int) := by rw [stl_length]; rfl
  have hR : (tallyOf (sheetsOf c0)).Roots = ((gensOf (sheetsOf c0)).length : Int) := by rw [gensOf_length]; rfl
  have hB0 : 0 ≤ (tallyOf (sheetsOf c0)).Blank := Int.natCast_nonneg _
  have hT0 : 0 ≤ (tallyOf (sheetsOf c0)).Torn := Int.natCast_nonneg _
  have hL0 : 0 ≤ (tallyOf (sheetsOf c0)).Lost := Int.natCast_nonneg _
  obtain ⟨p, hp, hp0, hp16, hb, hlen, h512⟩ := pages_of hc
  have hmul : (c0.Blocks.length : Int) * c0.Pages = ((sheetsOf c0).length : Int) := by
    rw [hp]; unfold sheetsOf; rw [List.length_map, hlen]; rfl
  have hgr : (g.length = 0) ↔ (gensOf (sheetsOf c0)).length = 0 := by
    rw [List.length_eq_zero_iff, List.length_eq_zero_iff]
    constructor
    · intro h
      rw [List.eq_nil_iff_forall_not_mem]
      intro x hx
      have := (hg.2.1 x).2 hx
      rw [h] at this; cases this
    · intro h
      rw [List.eq_nil_iff_forall_not_mem]
      intro x hx
      have := (hg.2.1 x).1 hx
      rw [h] at this; cases this
  have hgl := hg.2.2
  generalize tallyOf (sheetsOf c0) = t at *
  dsimp only
  have hstl : (stl [] 0 (sheetsOf c0)).length ≤ (sheetsOf c0).length := by rw [stl_length]; exact List.countP_le_length
  rw [show (!(decide ((0 : Int) ≠ 0))) = true by decide, gb_true, addI_ok (by omega) (by omega), bind_s, gb_true, addI_ok (by omega) (by omega), bind_s, gb_true, addI_ok (by omega) (by omega), bind_s, gb_true, addI_ok (by omega) (by omega), bind_s, gb_true, mulI_ok (by omega) (by omega), bind_s, hmul, hsum]
  rw [show (!((decide ((0 : Int) ≠ 0)) || (decide (((sheetsOf c0).length : Int) ≠ ((sheetsOf c0).length : Int))))) = true by simp, gb_true, sound_eq hc, bind_s, Bool.true_and]
  revert hsn
  generalize soundB c0 = s
  intro hs
  have e13 : (gb s (addI t.Torn t.Lost)) = some (bif s then t.Torn + t.Lost else default) := by
    cases s
    · rw [gb_false]; rfl
    · rw [gb_true, addI_ok (by omega) (by omega)]; rfl
  rw [e13, bind_s]
  have e14 : (((decide ((0 : Int) ≠ 0)) || (decide (((sheetsOf c0).length : Int) ≠ ((sheetsOf c0).length : Int)))) || (s && (decide ((bif s then t.Torn + t.Lost else default) > (0 : Int))))) = false := by
    cases s
    · simp
    · have := hs rfl
      simp [this.1, this.2]
  rw [e14, cond_f, stale_eq hc (by simp), bind_s, hD]
  rw [show (!(decide (((stl [] 0 (sheetsOf c0)).length : Int) ≠ ((stl [] 0 (sheetsOf c0)).length : Int)))) = true by simp, gb_true, eg, bind_s]
  rw [show (!((decide (((stl [] 0 (sheetsOf c0)).length : Int) ≠ ((stl [] 0 (sheetsOf c0)).length : Int))) || (decide ((g.length : Int) > t.Roots)))) = true by
    rw [decide_eq_false (by simp), decide_eq_false (show ¬ (g.length : Int) > t.Roots by omega)]; rfl, gb_true, bind_s]
  rw [show (((decide (((stl [] 0 (sheetsOf c0)).length : Int) ≠ ((stl [] 0 (sheetsOf c0)).length : Int))) || (decide ((g.length : Int) > t.Roots))) || (decide ((decide ((g.length : Int) = (0 : Int))) ≠ (decide (t.Roots = (0 : Int)))))) = false by
    rw [decide_eq_false (by simp), decide_eq_false (show ¬ (g.length : Int) > t.Roots by omega), Bool.false_or, Bool.false_or]
    refine decide_eq_false (fun h => h ?_)
    rw [decide_eq_decide]; omega, cond_f, newest_eq hc, bind_s]
  by_cases h0 : (nwOf id0 (sheetsOf c0)).1 = 0
  · rw [if_pos h0]; rfl
  · rw [if_neg h0]
    dsimp only
    have hm : (nwOf id0 (sheetsOf c0)).1 ∈ stl [] 0 (sheetsOf c0) := (nw_mem id0 (sheetsOf c0) 0 ((0 : Int), UInt64.ofNat 0)).resolve_left h0
    have h1 := stl_one (nwOf id0 (sheetsOf c0)).1 (sheetsOf c0) 0
    rw [if_pos hm] at h1
    rw [show decide ((0 : Int) ≠ 0) = false by decide, cond_f, has_eq8 _ (by omega), bind_s, decide_eq_true hm, gb_true, stale_eq hc (by simp), bind_s, gb_true, subI_ok (by omega) (by omega), bind_s, Bool.true_and]
    congr 1
    exact decide_eq_true (by omega)
end Go.Proofs.Ytefmfhbkihplgaa.Tr
namespace Go.Proofs.Ytefmfhbkihplgaa.Tr
open Go Go.RowKit Go.ChangeShapes Go.WideShapes Go.ChangeAt
set_option synthInstance.maxHeartbeats 400000
set_option synthInstance.maxSize 4096
theorem law_own : ownKnob Try.prog.godebug = none := by kernel_rfl
theorem law_laid : laidOutB Try.prog = true := by kernel_rfl
instance : TOpen Try.prog 3 Int inferInstance := topen_i64 (by kernel_rfl)
instance : TOpen Try.prog 5 UInt8 inferInstance := topen_u8 (by kernel_rfl)
instance : TOpen Try.prog 42 (List UInt8) inferInstance := topen_list (e := 5) (by kernel_rfl) (by kernel_rfl) (by decide +kernel)
instance : TOpen Try.prog 38 (List (List UInt8)) inferInstance := topen_list (e := 42) (by kernel_rfl) (by kernel_rfl) (by decide +kernel)
instance : TOpen Try.prog 4 Bool inferInstance := topen_bool (by kernel_rfl)
instance : TOpen Try.prog 40 Block inferInstance := topen_struct (i := Block_dat) Block_to Block_of (fun _ => rfl) rfl Try.underlying40 rfl (by kernel_rfl) (topf_cons (o := 0) (inferInstance : TOpen Try.prog 38 (List (List UInt8)) inferInstance) (by kernel_rfl) (by rfl) (by rfl) (by rfl) (topf_cons (o := 1) (inferInstance : TOpen Try.prog 3 Int inferInstance) (by kernel_rfl) (by rfl) (by rfl) (by rfl) (topf_cons (o := 2) (inferInstance : TOpen Try.prog 3 Int inferInstance) (by kernel_rfl) (by rfl) (by rfl) (by rfl) (topf_one (inferInstance : TOpen Try.prog 4 Bool inferInstance) (by kernel_rfl) (by rfl) (by rfl)))))
instance : TOpen Try.prog 25 (List Block) inferInstance := topen_list (e := 40) (by kernel_rfl) (by kernel_rfl) (by decide +kernel)
instance : TOpen Try.prog 106 Fault inferInstance := topen_struct (i := Fault_dat) Fault_to Fault_of (fun _ => rfl) rfl Try.underlying106 rfl (by kernel_rfl) (topf_cons (o := 0) (inferInstance : TOpen Try.prog 3 Int inferInstance) (by kernel_rfl) (by rfl) (by rfl) (by rfl) (topf_cons (o := 1) (inferInstance : TOpen Try.prog 4 Bool inferInstance) (by kernel_rfl) (by rfl) (by rfl) (by rfl) (topf_cons (o := 2) (inferInstance : TOpen Try.prog 4 Bool inferInstance) (by kernel_rfl) (by rfl) (by rfl) (by rfl) (topf_one (inferInstance : TOpen Try.prog 5 UInt8 inferInstance) (by kernel_rfl) (by rfl) (by rfl)))))
instance : TOpen Try.prog 22 (List Fault) inferInstance := topen_list (e := 106) (by kernel_rfl) (by kernel_rfl) (by decide +kernel)
instance : TOpen Try.prog 27 Chip inferInstance := topen_struct (i := Chip_dat) Chip_to Chip_of (fun _ => rfl) rfl Try.underlying27 rfl (by kernel_rfl) (topf_cons (o := 0) (inferInstance : TOpen Try.prog 3 Int inferInstance) (by kernel_rfl) (by rfl) (by rfl) (by rfl) (topf_cons (o := 1) (inferInstance : TOpen Try.prog 3 Int inferInstance) (by kernel_rfl) (by rfl) (by rfl) (by rfl) (topf_cons (o := 2) (inferInstance : TOpen Try.prog 25 (List Block) inferInstance) (by kernel_rfl) (by rfl) (by rfl) (by rfl) (topf_cons (o := 3) (inferInstance : TOpen Try.prog 3 Int inferInstance) (by kernel_rfl) (by rfl) (by rfl) (by rfl) (topf_cons (o := 4) (inferInstance : TOpen Try.prog 4 Bool inferInstance) (by kernel_rfl) (by rfl) (by rfl) (by rfl) (topf_one (inferInstance : TOpen Try.prog 22 (List Fault) inferInstance) (by kernel_rfl) (by rfl) (by rfl)))))))
set_option maxRecDepth 100000 in
theorem imageCounts_lifted (os : Os) (started : os.Started) (H : Type) (enc : TypeId × Value → H) :
    ReturnsInHanded {} Try.checked os 12 .any (Rows.imageCountsSpec.pre6 enc Try.prog Try.f12 Rows.imageCountsRow.domain false) (Rows.imageCountsSpec.post enc Try.prog Try.f12 false true false false) := by
  refine returnsInHanded_of_change_sized (C := Try.checked) law_own started (by kernel_rfl) Try.func12
    (ChangeSpec.witness6 (enc := enc) (C := Try.checked) false ⟨#[], #[.agg #[.int .i64 0, .int .i64 0, .slice none 0 0, .int .i64 0, .bool false, .slice none 0 0], .int .i64 0], []⟩ 8 (by kernel_rfl) (by kernel_rfl) (by kernel_rfl) (by kernel_rfl)) ?_
  intro W base args ds gs before hval0 hW hcnd hsz0 _
  have hval : ∀ (j : Nat) t v, Try.f12.params[j]? = some t → args[j]? = some v → Value.okWide Try.prog W .any base t v := hval0
  have hW' := hW
  obtain ⟨p, q, hA0, hV, rfl, hfz, hnd⟩ := hW
  have hA : DataW.TrodAll enc Try.prog W 0 (fun _ => true) true Try.f12.params.toList args.toList ds p := hA0
  have hsz : ∀ n ∈ DataW.weightsEach Try.prog Try.f12.params.toList ds, n ≤ reachBytes := fun n hn => by
    obtain ⟨rfl, -⟩ := trodVars_none hV
    have := List.all_eq_true.1 hsz0 n (by
      show n ∈ DataW.weightsEach Try.prog (Try.f12.params.toList ++ []) (ds ++ [])
      rw [List.append_nil, List.append_nil]; exact hn)
    simpa using this
  rw [Try.params12] at hA hval hsz
  obtain ⟨v0, vs0, d0, ds0, p0, q0, hargs, rfl, rfl, h0, r0⟩ := trodAll_cons hA
  obtain ⟨v1, vs1, d1, ds1, p1, q1, rfl, rfl, rfl, h1, r1⟩ := trodAll_cons r0
  obtain ⟨rfl, rfl, rfl⟩ := trodAll_nil r1
  obtain rfl : args = #[v0, v1] := by cases args; simp_all
  obtain ⟨x0, y0⟩ := top_open h0 (hval 0 _ v0 rfl rfl) (fun n hn => hsz n (DataW.weights_mem_each (j := 0) rfl rfl n hn))
  obtain ⟨x1, y1⟩ := top_open h1 (hval 1 _ v1 rfl rfl) (fun n hn => hsz n (DataW.weights_mem_each (j := 1) rfl rfl n hn))
  refine (bywaylaw21_ImageCounts_c W v0 v1 (fun _ _ => trivial) y0 y1 (imageCounts_plain _ _)).mono fun e W1 h => ?_; refine law_post (tb := 4) law_laid (by kernel_rfl) (by kernel_rfl) rfl (by rw [Try.params12]; decide +kernel) rfl hW' h
end Go.Proofs.Ytefmfhbkihplgaa.Tr
namespace Go.Proofs.Ytefmfhbkihplgaa
open Go Go.RowKit Go.ChangeShapes Go.WideShapes Go.ChangeAt
theorem imageCounts_holds : Rows.ImageCountsSaid :=
  OpenClaim.holds_of_wide 12 Try.f12 rfl rfl rfl rfl rfl rfl rfl ⟨rfl, rfl, rfl, rfl, rfl⟩ rfl rfl rfl rfl rfl (by kernel_rfl) Try.func12 (by kernel_rfl)
    (of_decide_eq_true (by kernel_rfl)) (by unfold Func.isWrapper; first | (rw [if_pos (by decide +kernel)]; kernel_rfl) | (rw [if_neg (by decide +kernel)]; exact ⟨rfl, rfl⟩))
    (fun os started H enc _ => Tr.imageCounts_lifted os started H enc)
#print axioms imageCounts_holds
end Go.Proofs.Ytefmfhbkihplgaa
