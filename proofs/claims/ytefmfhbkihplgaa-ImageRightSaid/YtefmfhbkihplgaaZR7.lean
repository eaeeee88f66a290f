/- What the proof leans on. Conditions: none. -/
import Derived.Test.YtefmfhbkihplgaaZR6
set_option linter.all false
set_option linter.unusedSimpArgs false
set_option linter.unusedVariables false
set_option linter.unusedSectionVars false
namespace Go.Proofs.Ytefmfhbkihplgaa.Tr
open Go
set_option maxHeartbeats 1000000
theorem ptn_get {l : List UInt64} {a b pv : Int} (h0 : 0 ≤ a) (hp : a ≤ pv) (hp2 : pv < b) (hb : b ≤ l.length) (hl : (l.length : Int) ≤ 281474976710656) : Gets (slices_partitionOrdered_uint64 l a b pv) (fun r => a ≤ r.1 ∧ r.1 < b ∧ Same l r.2.2 a b ∧ (∀ k, a ≤ k → k < r.1 → lt64 (nth r.2.2 r.1) (nth r.2.2 k) = false) ∧ (∀ k, r.1 < k → k < b → lt64 (nth r.2.2 k) (nth r.2.2 r.1) = false)) := by
  unfold slices_partitionOrdered_uint64
  simp (disch := first | omega | (simp only [List.length_set, sw_len]; omega)) only [idx_nth, addI_ok, subI_ok, bind_s, sw_fold]
  have hW : Same l (sw l pv a) a b := .sw h0 hb (by omega) (by omega) (by omega) (by omega)
  have hL := hW.len
  revert hW hL
  generalize sw l pv a = d
  intro hW hL
  refine Gets.b (Gets.loop (I := fun i' => a < i' ∧ i' ≤ b - 1 + 1 ∧ ∀ k, a < k → k < i' → lt64 (nth d a) (nth d k) = false) (μ := fun i' => (b - i').toNat) (R := fun i' => a < i' ∧ i' ≤ b - 1 + 1 ∧ (∀ k, a < k → k < i' → lt64 (nth d a) (nth d k) = false) ∧ (i' ≤ b - 1 → lt64 (nth d i') (nth d a) = false)) (fun i' hi => ?_) ⟨by omega, by omega, fun k k1 k2 => by omega⟩ (by omega)) (fun i hi => ?_)
  · obtain ⟨g1, g2, g3⟩ := hi
    unfold slices_partitionOrdered_uint64_l1
    by_cases c : i' ≤ b - 1
    · (simp (disch := first | omega | (simp only [List.length_set, sw_len]; omega)) only [idx_nth, addI_ok, subI_ok, mulI_ok, quoI_ok, bind_s, gb_true, gb_false, cond_t, cond_f, dt_, df_, Bool.true_and, Bool.false_and, Bool.not_true, Bool.not_false, el2, el3, el4, elS_inl, elS_inr, less64, sw_fold, lenI_ok])
      refine Gets.c (fun e => ?_) (fun e => .r ⟨g1, g2, g3, fun _ => e⟩)
      refine .l ⟨by omega, by omega, fun k k1 k2 => ?_⟩ (by omega)
      by_cases e2 : k = i'
      · subst e2; exact weak64.asym _ _ e
      · exact g3 k k1 (by omega)
    · (simp (disch := first | omega | (simp only [List.length_set, sw_len]; omega)) only [idx_nth, addI_ok, subI_ok, mulI_ok, quoI_ok, bind_s, gb_true, gb_false, cond_t, cond_f, dt_, df_, Bool.true_and, Bool.false_and, Bool.not_true, Bool.not_false, el2, el3, el4, elS_inl, elS_inr, less64, sw_fold, lenI_ok])
      exact .r ⟨g1, g2, g3, fun h => absurd h c⟩
  obtain ⟨g1, g2, g3, g4⟩ := hi
  refine Gets.b (Gets.loop (I := fun j' => i ≤ j' + 1 ∧ j' ≤ b - 1 ∧ ∀ k, j' < k → k < b → lt64 (nth d k) (nth d a) = false) (μ := fun j' => (j' - a).toNat) (R := fun j' => i ≤ j' + 1 ∧ j' ≤ b - 1 ∧ (∀ k, j' < k → k < b → lt64 (nth d k) (nth d a) = false) ∧ (i ≤ j' → lt64 (nth d j') (nth d a) = true)) (fun j' hj => ?_) ⟨by omega, by omega, fun k k1 k2 => by omega⟩ (by omega)) (fun j hj => ?_)
  · obtain ⟨k1, k2, k3⟩ := hj
    unfold slices_partitionOrdered_uint64_l2
    by_cases c : i ≤ j'
    · (simp (disch := first | omega | (simp only [List.length_set, sw_len]; omega)) only [idx_nth, addI_ok, subI_ok, mulI_ok, quoI_ok, bind_s, gb_true, gb_false, cond_t, cond_f, dt_, df_, Bool.true_and, Bool.false_and, Bool.not_true, Bool.not_false, el2, el3, el4, elS_inl, elS_inr, less64, sw_fold, lenI_ok])
      refine Gets.c (fun e => ?_) (fun e => ?_)
      · have e : lt64 (nth d j') (nth d a) = false := by simpa using e
        refine .l ⟨by omega, by omega, fun k m1 m2 => ?_⟩ (by omega)
        by_cases e2 : k = j'
        · subst e2; exact e
        · exact k3 k (by omega) m2
      · have e : lt64 (nth d j') (nth d a) = true := by simpa using e
        exact .r ⟨k1, k2, k3, fun _ => e⟩
    · (simp (disch := first | omega | (simp only [List.length_set, sw_len]; omega)) only [idx_nth, addI_ok, subI_ok, mulI_ok, quoI_ok, bind_s, gb_true, gb_false, cond_t, cond_f, dt_, df_, Bool.true_and, Bool.false_and, Bool.not_true, Bool.not_false, el2, el3, el4, elS_inl, elS_inr, less64, sw_fold, lenI_ok])
      exact .r ⟨k1, k2, k3, fun h => absurd h c⟩
  obtain ⟨k1, k2, k3, k4⟩ := hj
  by_cases c : i > j
  · (simp (disch := first | omega | (simp only [List.length_set, sw_len]; omega)) only [idx_nth, addI_ok, subI_ok, mulI_ok, quoI_ok, bind_s, gb_true, gb_false, cond_t, cond_f, dt_, df_, Bool.true_and, Bool.false_and, Bool.not_true, Bool.not_false, el2, el3, el4, elS_inl, elS_inr, less64, sw_fold, lenI_ok])
    exact .s (ptn_fin h0 hb (by omega) (by omega) hW (fun k m1 m2 => g3 k m1 (by omega)) k3)
  simp (disch := first | omega | (simp only [List.length_set, sw_len]; omega)) only [idx_nth, addI_ok, subI_ok, bind_s, sw_fold, df_, cond_f]
  have stepS : ∀ {d : List UInt64} {i j : Int}, Same l d a b → a < i → j < b → i ≤ j → (∀ k, a < k → k < i → lt64 (nth d a) (nth d k) = false) → (∀ k, j < k → k < b → lt64 (nth d k) (nth d a) = false) → lt64 (nth d i) (nth d a) = false → lt64 (nth d j) (nth d a) = true → a < i + 1 ∧ j - 1 < b ∧ i + 1 ≤ j - 1 + 1 ∧ Same l (sw d j i) a b ∧ (∀ k, a < k → k < i + 1 → lt64 (nth (sw d j i) a) (nth (sw d j i) k) = false) ∧ (∀ k, j - 1 < k → k < b → lt64 (nth (sw d j i) k) (nth (sw d j i) a) = false) := by
    intro d i j hW h1 h2 h3 g3 k3 e1 e2
    have hL := hW.len
    have hs : ∀ k, 0 ≤ k → nth (sw d j i) k = if k = j then nth d i else if k = i then nth d j else nth d k := fun k hk => nth_sw (by omega) (by omega) (by omega) (by omega) hk
    have hne : i ≠ j := fun h => by rw [h, e2] at e1; cases e1
    refine ⟨by omega, by omega, by omega, hW.tr (.sw h0 (by omega) (by omega) (by omega) (by omega) (by omega)), fun k m1 m2 => ?_, fun k m1 m2 => ?_⟩
    · rw [hs a h0, if_neg (by omega), if_neg (by omega), hs k (by omega), if_neg (by omega)]
      by_cases e : k = i
      · rw [if_pos e]; exact weak64.asym _ _ e2
      · rw [if_neg e]; exact g3 k m1 (by omega)
    · rw [hs a h0, if_neg (by omega), if_neg (by omega), hs k (by omega)]
      by_cases e : k = j
      · rw [if_pos e]; exact e1
      · rw [if_neg e, if_neg (by omega)]; exact k3 k (by omega) m2
  refine Gets.b (Gets.loop (I := fun s => a < s.1 ∧ s.2.1 < b ∧ s.1 ≤ s.2.1 + 1 ∧ Same l s.2.2 a b ∧ (∀ k, a < k → k < s.1 → lt64 (nth s.2.2 a) (nth s.2.2 k) = false) ∧ (∀ k, s.2.1 < k → k < b → lt64 (nth s.2.2 k) (nth s.2.2 a) = false)) (μ := fun s => (b - s.1).toNat) (R := fun r => a ≤ r.1 ∧ r.1 < b ∧ Same l r.2 a b ∧ (∀ k, a < k → k ≤ r.1 → lt64 (nth r.2 a) (nth r.2 k) = false) ∧ (∀ k, r.1 < k → k < b → lt64 (nth r.2 k) (nth r.2 a) = false)) (fun s hs => ?_) (stepS hW g1 (by omega) (by omega) g3 k3 (g4 (by omega)) (k4 (by omega))) (by dsimp only; omega)) (fun o ho => ?_)
  · clear g1 g2 g3 g4 k1 k2 k3 k4 c hW hL
    obtain ⟨i, j, d⟩ := s
    obtain ⟨h1, h2, h3, h4, h5, h6⟩ := hs
    dsimp only at *
    have hL := h4.len
    unfold slices_partitionOrdered_uint64_l3
    refine Gets.b (Gets.loop (I := fun i' => i ≤ i' ∧ i' ≤ j + 1 ∧ ∀ k, a < k → k < i' → lt64 (nth d a) (nth d k) = false) (μ := fun i' => (b - i').toNat) (R := fun i' => i ≤ i' ∧ i' ≤ j + 1 ∧ (∀ k, a < k → k < i' → lt64 (nth d a) (nth d k) = false) ∧ (i' ≤ j → lt64 (nth d i') (nth d a) = false)) (fun i' hi => ?_) ⟨Int.le_refl _, h3, h5⟩ (by omega)) (fun i' hi => ?_)
    · obtain ⟨g1, g2, g3⟩ := hi
      unfold slices_partitionOrdered_uint64_l4
      by_cases c : i' ≤ j
      · (simp (disch := first | omega | (simp only [List.length_set, sw_len]; omega)) only [idx_nth, addI_ok, subI_ok, mulI_ok, quoI_ok, bind_s, gb_true, gb_false, cond_t, cond_f, dt_, df_, Bool.true_and, Bool.false_and, Bool.not_true, Bool.not_false, el2, el3, el4, elS_inl, elS_inr, less64, sw_fold, lenI_ok])
        refine Gets.c (fun e => ?_) (fun e => .r ⟨g1, g2, g3, fun _ => e⟩)
        refine .l ⟨by omega, by omega, fun k k1 k2 => ?_⟩ (by omega)
        by_cases e2 : k = i'
        · subst e2; exact weak64.asym _ _ e
        · exact g3 k k1 (by omega)
      · (simp (disch := first | omega | (simp only [List.length_set, sw_len]; omega)) only [idx_nth, addI_ok, subI_ok, mulI_ok, quoI_ok, bind_s, gb_true, gb_false, cond_t, cond_f, dt_, df_, Bool.true_and, Bool.false_and, Bool.not_true, Bool.not_false, el2, el3, el4, elS_inl, elS_inr, less64, sw_fold, lenI_ok])
        exact .r ⟨g1, g2, g3, fun h => absurd h c⟩
    obtain ⟨g1, g2, g3, g4⟩ := hi
    refine Gets.b (Gets.loop (I := fun j' => i' ≤ j' + 1 ∧ j' ≤ j ∧ ∀ k, j' < k → k < b → lt64 (nth d k) (nth d a) = false) (μ := fun j' => (j' - a).toNat) (R := fun j' => i' ≤ j' + 1 ∧ j' ≤ j ∧ (∀ k, j' < k → k < b → lt64 (nth d k) (nth d a) = false) ∧ (i' ≤ j' → lt64 (nth d j') (nth d a) = true)) (fun j' hj => ?_) ⟨by omega, Int.le_refl _, h6⟩ (by omega)) (fun j' hj => ?_)
    · obtain ⟨k1, k2, k3⟩ := hj
      unfold slices_partitionOrdered_uint64_l5
      by_cases c : i' ≤ j'
      · (simp (disch := first | omega | (simp only [List.length_set, sw_len]; omega)) only [idx_nth, addI_ok, subI_ok, mulI_ok, quoI_ok, bind_s, gb_true, gb_false, cond_t, cond_f, dt_, df_, Bool.true_and, Bool.false_and, Bool.not_true, Bool.not_false, el2, el3, el4, elS_inl, elS_inr, less64, sw_fold, lenI_ok])
        refine Gets.c (fun e => ?_) (fun e => ?_)
        · have e : lt64 (nth d j') (nth d a) = false := by simpa using e
          refine .l ⟨by omega, by omega, fun k m1 m2 => ?_⟩ (by omega)
          by_cases e2 : k = j'
          · subst e2; exact e
          · exact k3 k (by omega) m2
        · have e : lt64 (nth d j') (nth d a) = true := by simpa using e
          exact .r ⟨k1, k2, k3, fun _ => e⟩
      · (simp (disch := first | omega | (simp only [List.length_set, sw_len]; omega)) only [idx_nth, addI_ok, subI_ok, mulI_ok, quoI_ok, bind_s, gb_true, gb_false, cond_t, cond_f, dt_, df_, Bool.true_and, Bool.false_and, Bool.not_true, Bool.not_false, el2, el3, el4, elS_inl, elS_inr, less64, sw_fold, lenI_ok])
        exact .r ⟨k1, k2, k3, fun h => absurd h c⟩
    obtain ⟨k1, k2, k3, k4⟩ := hj
    by_cases c : i' > j'
    · (simp (disch := first | omega | (simp only [List.length_set, sw_len]; omega)) only [idx_nth, addI_ok, subI_ok, mulI_ok, quoI_ok, bind_s, gb_true, gb_false, cond_t, cond_f, dt_, df_, Bool.true_and, Bool.false_and, Bool.not_true, Bool.not_false, el2, el3, el4, elS_inl, elS_inr, less64, sw_fold, lenI_ok])
      exact .r ⟨by dsimp only; omega, by dsimp only; omega, h4, fun k m1 m2 => g3 k m1 (by dsimp only at m2; omega), k3⟩
    · (simp (disch := first | omega | (simp only [List.length_set, sw_len]; omega)) only [idx_nth, addI_ok, subI_ok, mulI_ok, quoI_ok, bind_s, gb_true, gb_false, cond_t, cond_f, dt_, df_, Bool.true_and, Bool.false_and, Bool.not_true, Bool.not_false, el2, el3, el4, elS_inl, elS_inr, less64, sw_fold, lenI_ok])
      exact .l (stepS h4 (by omega) (by omega) (by omega) g3 k3 (g4 (by omega)) (k4 (by omega))) (by dsimp only; omega)
  · obtain ⟨j', d'⟩ := o
    obtain ⟨q1, q2, q3, q4, q5⟩ := ho
    have hL' := q3.len
    dsimp only at *
    (simp (disch := first | omega | (simp only [List.length_set, sw_len]; omega)) only [idx_nth, addI_ok, subI_ok, mulI_ok, quoI_ok, bind_s, gb_true, gb_false, cond_t, cond_f, dt_, df_, Bool.true_and, Bool.false_and, Bool.not_true, Bool.not_false, el2, el3, el4, elS_inl, elS_inr, less64, sw_fold, lenI_ok])
    exact .s (ptn_fin h0 hb q1 q2 q3 q4 q5)
def Fr (l : List UInt64) (a0 a b b0 : Int) : Prop := ∀ p q, a0 ≤ p → p < q → q < b0 → (p < a ∨ b ≤ q) → lt64 (nth l q) (nth l p) = false
theorem Fr.same {l l' : List UInt64} {a0 a b b0 : Int} (h : Fr l a0 a b b0) (g : Same l l' a b) (h0 : 0 ≤ a0) (h1 : a0 ≤ a) (h2 : b ≤ b0) : Fr l' a0 a b b0 := fun p q g1 g2 g3 g4 => by
  by_cases e : a ≤ p ∧ p < b
  · obtain ⟨k, k1, k2, k3⟩ := g.src p e.1 e.2
    rw [k3, g.out q (by omega) (by omega)]
    exact h k q (by omega) (by omega) g3 (by omega)
  · rw [g.out p (by omega) (by omega)]
    by_cases e2 : a ≤ q ∧ q < b
    · obtain ⟨k, k1, k2, k3⟩ := g.src q e2.1 e2.2
      rw [k3]
      exact h p k g1 (by omega) (by omega) (by omega)
    · rw [g.out q (by omega) (by omega)]
      exact h p q g1 g2 g3 g4
theorem Fr.srt {l : List UInt64} {a0 a b b0 : Int} (h : Fr l a0 a b b0) (g : Srt lt64 l a b) : Srt lt64 l a0 b0 := fun p q h1 h2 h3 => by
  by_cases e : p < a ∨ b ≤ q
  · exact h p q h1 h2 h3 e
  · exact g p q (by omega) h2 (by omega)
def Pre (l : List UInt64) (a b : Int) : Prop := ∀ k, 0 < a → a ≤ k → k < b → lt64 (nth l k) (nth l (a - 1)) = false
theorem Pre.same {l l' : List UInt64} {a b : Int} (h : Pre l a b) (g : Same l l' a b) : Pre l' a b := fun k h1 h2 h3 => by
  obtain ⟨j, j1, j2, j3⟩ := g.src k h2 h3
  rw [j3, g.out (a - 1) (by omega) (by omega)]
  exact h j h1 j1 j2
theorem pdq_get : ∀ (n : Nat) {l : List UInt64} {a b lim : Int}, (b - a).toNat < n → 0 ≤ a → a ≤ b → b ≤ l.length → (l.length : Int) ≤ 281474976710656 → 0 ≤ lim → lim ≤ 64 → Pre l a b → Gets (slices_pdqsortOrdered_uint64_n n l a b lim) (fun l' => Same l l' a b ∧ Srt lt64 l' a b) := by
  intro n
  induction n with
  | zero => intro l a b lim h; omega
  | succ n ih =>
    intro l a b lim hn h0 hab hb hl hm0 hm1 hpre
    unfold slices_pdqsortOrdered_uint64_n slices_pdqsortOrdered_uint64_s
    refine Gets.loop (I := fun s => a ≤ s.1 ∧ s.1 ≤ s.2.1 ∧ s.2.1 ≤ b ∧ 0 ≤ s.2.2.1 ∧ s.2.2.1 ≤ 64 ∧ Same l s.2.2.2.2.2 a b ∧ Fr s.2.2.2.2.2 a s.1 s.2.1 b ∧ Pre s.2.2.2.2.2 s.1 s.2.1) (μ := fun s => (s.2.1 - s.1).toNat) (fun s hs => ?_) ⟨by dsimp only; omega, by dsimp only; omega, by dsimp only; omega, hm0, hm1, .rf, fun p q h1 h2 h3 h4 => by dsimp only at h4; omega, hpre⟩ (by dsimp only; omega)
    obtain ⟨a', b', lim, wb, wp, d⟩ := s
    obtain ⟨h1, h2, h3, h4, h5, h6, h7, h8⟩ := hs
    dsimp only at *
    have hL := h6.len
    unfold slices_pdqsortOrdered_uint64_l1
    have fin : ∀ {d' : List UInt64}, Same d d' a' b' → Srt lt64 d' a' b' → Same l d' a b ∧ Srt lt64 d' a b := fun g1 g2 => ⟨h6.tr (g1.up h0 h1 h3), (h7.same g1 h0 h1 h3).srt g2⟩
    rw [subI_ok (by omega) (by omega), bind_s]
    refine Gets.c (fun e => ?_) (fun e => ?_)
    · refine Gets.b (ins_get (by omega) h2 (by omega) (by omega)) (fun d' hd => ?_)
      rw [lenI_ok hd.1.len, bind_s]
      exact .r (fin hd.1 hd.2)
    have e := of_decide_eq_false e
    refine Gets.c (fun e0 => ?_) (fun e0 => ?_)
    · refine Gets.b (heap_get (by omega) (by omega) (by omega) (by omega)) (fun d' hd => ?_)
      rw [lenI_ok hd.1.len, bind_s]
      exact .r (fin hd.1 hd.2)
    have e0 := of_decide_eq_false e0
    refine Gets.b (P := fun o => 0 ≤ o.1 ∧ o.1 ≤ 64 ∧ Same d o.2 a' b') ?_ (fun o ho => ?_)
    · refine Gets.c (fun _ => ?_) (fun _ => .s ⟨h4, h5, .rf⟩)
      refine Gets.b (brk_get (by omega) h2 (by omega) (by omega)) (fun d' hd => ?_)
      rw [lenI_ok hd.len, bind_s, subI_ok (by omega) (by omega), bind_s]
      exact .s ⟨by dsimp only; omega, by dsimp only; omega, hd⟩
    obtain ⟨lim2, d1⟩ := o
    obtain ⟨m1, m2, m3⟩ := ho
    simp only [el2]
    have hL1 := m3.len
    dsimp only at m1 m2 m3 hL1
    refine Gets.b (piv_get (by omega) (by omega) (by omega) (by omega)) (fun r hr => ?_)
    refine Gets.b (P := fun o => a' ≤ o.1 ∧ o.1 < b' ∧ Same d o.2.2 a' b') ?_ (fun o ho => ?_)
    · refine Gets.c (fun _ => ?_) (fun _ => .s ⟨hr.1, hr.2, m3⟩)
      refine Gets.b (rev_get (by omega) h2 (by omega) (by omega)) (fun d' hd => ?_)
      rw [lenI_ok hd.len, bind_s]
      (simp (disch := first | omega | (simp only [List.length_set, sw_len]; omega)) only [idx_nth, addI_ok, subI_ok, mulI_ok, quoI_ok, bind_s, gb_true, gb_false, cond_t, cond_f, dt_, df_, Bool.true_and, Bool.false_and, Bool.not_true, Bool.not_false, el2, el3, el4, elS_inl, elS_inr, less64, sw_fold, lenI_ok])
      exact .s ⟨by dsimp only; omega, by dsimp only; omega, m3.tr hd⟩
    obtain ⟨pv, hint, d2⟩ := o
    obtain ⟨p1, p2, p3⟩ := ho
    simp only [el3]
    have hL2 := p3.len
    dsimp only at p1 p2 p3 hL2
    refine Gets.b (P := Sum.elim (fun d3 => Same d d3 a' b') (fun d3 => Same d d3 a' b' ∧ Srt lt64 d3 a' b')) ?_ (fun o ho => ?_)
    · refine Gets.c (fun _ => ?_) (fun _ => .s (show Same d d2 a' b' from p3))
      refine Gets.b (part_get (by omega) (by omega) (by omega) (by omega) (h8.same p3)) (fun r hr => ?_)
      rw [lenI_ok hr.1.len, bind_s]
      refine Gets.c (fun e => .s (show _ ∧ _ from ⟨p3.tr hr.1, hr.2 e⟩)) (fun e => .s (show Same _ _ _ _ from p3.tr hr.1))
    rcases o with d3 | d3
    · rw [elS_inl]
      have ho : Same d d3 a' b' := ho
      have hL3 := ho.len
      have hF3 := h7.same ho h0 h1 h3
      have hP3 := h8.same ho
      have hS3 : Same l d3 a b := h6.tr (ho.up h0 h1 h3)
      have gt : decide (a' > 0) = true → 0 < a' := fun h => of_decide_eq_true h
      refine Gets.b (Gets.g (P := fun v => v = a' - 1) (fun c => .e (subI_ok (by omega) (by omega)))) (fun x39 h39 => ?_)
      refine Gets.b (Gets.g (P := fun v => v = nth d3 (a' - 1)) (fun c => by rw [h39 c, idx_nth (by have := gt c; omega) (by omega)]; exact .s rfl)) (fun x40 h40 => ?_)
      refine Gets.b (Gets.g (P := fun v => v = nth d3 pv) (fun c => by rw [idx_nth (by omega) (by omega)]; exact .s rfl)) (fun x41 h41 => ?_)
      refine Gets.b (Gets.g (P := fun v => v = lt64 x40 x41) (fun c => by rw [less64]; exact .s rfl)) (fun x42 h42 => ?_)
      refine Gets.c (fun ec => ?_) (fun _ => ?_)
      · rw [Bool.and_eq_true] at ec
        obtain ⟨c, ec⟩ := ec
        have ex : lt64 (nth d3 (a' - 1)) (nth d3 pv) = false := by
          rw [← h40 c, ← h41 c, ← h42 c]; simpa using ec
        have c0 := gt c
        refine Gets.b (pteq_get (by omega) p1 p2 (by omega) (by omega) (fun k k1 k2 => weak64.tr _ _ _ ex (hP3 k c0 k1 k2))) (fun r hr => ?_)
        obtain ⟨r1, r2, r3, r4⟩ := hr
        rw [lenI_ok r3.len, bind_s]
        have hF4 := hF3.same r3 h0 h1 h3
        refine .l ⟨by dsimp only; omega, r2, h3, m1, m2, hS3.tr (r3.up h0 h1 h3), fun p q g1 g2 g3 g4 => ?_, fun k k1 k2 k3 => ?_⟩ (by dsimp only; omega)
        · dsimp only at *
          by_cases e : p < a' ∨ b' ≤ q
          · exact hF4 p q g1 g2 g3 e
          · exact r4 p q (by omega) g2 (by omega) (by omega)
        · dsimp only at *
          exact r4 (r.1 - 1) k (by omega) (by omega) k3 (by omega)
      · refine Gets.b (ptn_get (by omega) p1 p2 (by omega) (by omega)) (fun x hx => ?_)
        obtain ⟨mid, wq, d4⟩ := x
        obtain ⟨r1, r2, r3, r4, r5⟩ := hx
        dsimp only at *
        have hL4 := r3.len
        rw [lenI_ok r3.len, bind_s, subI_ok (by omega) (by omega), bind_s, subI_ok (by omega) (by omega), bind_s, quoI_ok (by omega) (by omega), bind_s]
        have hF4 := hF3.same r3 h0 h1 h3
        have hP4 := hP3.same r3
        have hS4 := hS3.tr (r3.up h0 h1 h3)
        have hge : ∀ k, mid ≤ k → k < b' → lt64 (nth d4 k) (nth d4 mid) = false := fun k k1 k2 => by
          by_cases e : k = mid
          · subst e; exact weak64.rf _
          · exact r5 k (by omega) k2
        refine Gets.c (fun _ => ?_) (fun _ => ?_)
        · refine Gets.b (ih (by omega) (by omega) r1 (by omega) (by omega) m1 m2 (fun k k1 k2 k3 => hP4 k k1 k2 (by omega))) (fun d5 hd => ?_)
          obtain ⟨s1, s2⟩ := hd
          rw [lenI_ok s1.len, bind_s, addI_ok (by omega) (by omega), bind_s]
          have s3 : Same d4 d5 a' b' := s1.up (by omega) (Int.le_refl _) (by omega)
          refine .l ⟨by dsimp only; omega, by dsimp only; omega, h3, m1, m2, hS4.tr (s3.up h0 h1 h3), fun p q g1 g2 g3 g4 => ?_, fun k k1 k2 k3 => ?_⟩ (by dsimp only; omega)
          · dsimp only at *
            by_cases e : p < a' ∨ b' ≤ q
            · exact (hF4.same s3 h0 h1 h3) p q g1 g2 g3 e
            · by_cases e2 : q < mid
              · exact s2 p q (by omega) g2 e2
              · rw [s1.out q (by omega) (by omega)]
                have t := hge q (by omega) (by omega)
                by_cases e3 : p < mid
                · obtain ⟨k, k1, k2, k3⟩ := s1.src p (by omega) e3
                  rw [k3]
                  exact weak64.tr _ _ _ (r4 k k1 k2) t
                · rw [s1.out p (by omega) (by omega)]
                  have : p = mid := by omega
                  subst this; exact t
          · dsimp only at *
            rw [s1.out k (by omega) (by omega), s1.out (mid + 1 - 1) (by omega) (by omega), show mid + 1 - 1 = mid by omega]
            exact hge k (by omega) k3
        · rw [addI_ok (by omega) (by omega), bind_s]
          refine Gets.b (ih (by omega) (by omega) (by omega) (by omega) (by omega) m1 m2 (fun k k1 k2 k3 => by rw [show mid + 1 - 1 = mid by omega]; exact hge k (by omega) k3)) (fun d5 hd => ?_)
          obtain ⟨s1, s2⟩ := hd
          rw [lenI_ok s1.len, bind_s]
          have s3 : Same d4 d5 a' b' := s1.up (by omega) (by omega) (Int.le_refl _)
          refine .l ⟨h1, r1, by dsimp only; omega, m1, m2, hS4.tr (s3.up h0 h1 h3), fun p q g1 g2 g3 g4 => ?_, fun k k1 k2 k3 => (hP4.same s3) k k1 k2 (by dsimp only at k3; omega)⟩ (by dsimp only; omega)
          dsimp only at *
          by_cases e : p < a' ∨ b' ≤ q
          · exact (hF4.same s3 h0 h1 h3) p q g1 g2 g3 e
          · by_cases e2 : mid < p
            · exact s2 p q (by omega) g2 (by omega)
            · rw [s1.out p (by omega) (by omega)]
              by_cases e3 : q = mid
              · rw [e3, s1.out mid (by omega) (by omega)]
                exact r4 p (by omega) (by omega)
              · obtain ⟨k, k1, k2, k3⟩ := s1.src q (by omega) (by omega)
                rw [k3]
                have t := hge k (by omega) k2
                by_cases e4 : p = mid
                · rw [e4]; exact t
                · exact weak64.tr _ _ _ (r4 p (by omega) (by omega)) t
    · rw [elS_inr]
      exact .r (fin ho.1 ho.2)
theorem sort_get {l : List UInt64} (hl : l.length ≤ 281474976710656) : Gets (slices_Sort_uint64 l) (fun l' => l'.Perm l ∧ l'.Pairwise (fun x y => x ≤ y)) := by
  unfold slices_Sort_uint64
  refine Gets.b (len_get _) (fun k hk => ?_)
  unfold slices_pdqsortOrdered_uint64
  refine Gets.b (pdq_get 18446744073709551616 (by omega) (by omega) (by omega) (Int.le_refl _) (by omega) hk.1 hk.2.1 (fun k h => by omega)) (fun l' h => ?_)
  rw [lenI_ok h.1.len, bind_s]
  refine .s ⟨h.1.perm, ?_⟩
  rw [List.pairwise_iff_getElem]
  intro i j hi hj hij
  have e := h.2 (i : Int) (j : Int) (by omega) (by omega) (by have := h.1.len; omega)
  rw [nth_get hi, nth_get hj] at e
  have e := of_decide_eq_false e
  rw [UInt64.le_iff_toNat_le]
  rw [UInt64.lt_iff_toNat_lt] at e
  omega
end Go.Proofs.Ytefmfhbkihplgaa.Tr
namespace Go.Proofs.Ytefmfhbkihplgaa.Tr
open Go
set_option maxHeartbeats 1000000
theorem nth_view {α : Type} [Inhabited α] {l : List α} {a j : Int} {m : Nat} (ha : 0 ≤ a) (hj : 0 ≤ j) (hm : j < m) : nth ((l.drop (Int.toNat a)).take m) j = nth l (a + j) := by
  unfold nth
  rw [List.getElem?_take, if_pos (by omega), List.getElem?_drop, show (a + j).toNat = a.toNat + j.toNat by omega]
theorem nth_mem {l : List UInt64} {k : Int} (h0 : 0 ≤ k) (h : k < l.length) : nth l k ∈ l := by
  have h2 : k.toNat < l.length := by omega
  unfold nth
  rw [List.getElem?_eq_getElem h2]; exact List.getElem_mem h2
def Dup (l l' : List UInt64) : Prop := l'.Pairwise (fun x y => x < y) ∧ (∀ x, x ∈ l' ↔ x ∈ l) ∧ l'.length ≤ l.length
theorem Dup.of {l l' : List UInt64} (h1 : ∀ p q, 0 ≤ p → p < q → q < (l'.length : Int) → nth l' p < nth l' q) (h2 : ∀ p, 0 ≤ p → p < (l'.length : Int) → ∃ i, 0 ≤ i ∧ i < (l.length : Int) ∧ nth l' p = nth l i) (h3 : ∀ i, 0 ≤ i → i < (l.length : Int) → ∃ p, 0 ≤ p ∧ p < (l'.length : Int) ∧ nth l' p = nth l i) (h4 : l'.length ≤ l.length) : Dup l l' := by
  refine ⟨?_, fun x => ⟨fun h => ?_, fun h => ?_⟩, h4⟩
  · rw [List.pairwise_iff_getElem]
    intro i j hi hj hij
    have := h1 i j (by omega) (by omega) (by omega)
    rwa [nth_get hi, nth_get hj] at this
  · obtain ⟨i, hi, rfl⟩ := List.getElem_of_mem h
    obtain ⟨j, j1, j2, j3⟩ := h2 i (by omega) (by omega)
    rw [nth_get hi] at j3
    rw [j3]; exact nth_mem j1 j2
  · obtain ⟨i, hi, rfl⟩ := List.getElem_of_mem h
    obtain ⟨j, j1, j2, j3⟩ := h3 i (by omega) (by omega)
    rw [nth_get hi] at j3
    rw [← j3]; exact nth_mem j1 j2
theorem comp_get {l : List UInt64} (hl : (l.length : Int) ≤ 281474976710656) (hs : l.Pairwise (fun x y => x ≤ y)) : Gets (slices_Compact_uint64 l) (Dup l) := by
  have hle : ∀ p q, 0 ≤ p → p < q → q < (l.length : Int) → nth l p ≤ nth l q := fun p q h1 h2 h3 => by
    have := (List.pairwise_iff_getElem.1 hs) p.toNat q.toNat (by omega) (by omega) (by omega)
    rw [← nth_get, ← nth_get, show (p.toNat : Int) = p by omega, show (q.toNat : Int) = q by omega] at this
    exact this
  have lt_of : ∀ {x y : UInt64}, x ≤ y → x ≠ y → x < y := fun h h2 => by
    rw [UInt64.le_iff_toNat_le] at h
    rw [UInt64.lt_iff_toNat_lt]
    have : ¬ _ = _ := fun e => h2 (UInt64.toNat_inj.1 e)
    omega
  have lt_tr : ∀ {x y z : UInt64}, x ≤ y → y < z → x < z := fun h h2 => by
    rw [UInt64.le_iff_toNat_le] at h
    rw [UInt64.lt_iff_toNat_lt] at *
    omega
  have lt_le : ∀ {x y : UInt64}, x < y → x ≤ y := fun h => by
    rw [UInt64.le_iff_toNat_le]
    rw [UInt64.lt_iff_toNat_lt] at *
    omega
  unfold slices_Compact_uint64
  refine Gets.c (fun e => ?_) (fun e => ?_)
  · have e := of_decide_eq_true e
    exact .s (.of (fun p q h1 h2 h3 => by omega) (fun p h1 h2 => ⟨p, h1, h2, rfl⟩) (fun p h1 h2 => ⟨p, h1, h2, rfl⟩) (Nat.le_refl _))
  have e := of_decide_eq_false e
  refine Gets.b (Gets.loop (I := fun k => 1 ≤ k ∧ k ≤ (l.length : Int) ∧ ∀ p q, 0 ≤ p → p < q → q < k → nth l p < nth l q) (μ := fun k => ((l.length : Int) - k).toNat) (R := Sum.elim (fun _ => Dup l l) (fun l' => Dup l l')) (fun k hk => ?_) ⟨by omega, by omega, fun p q h1 h2 h3 => by omega⟩ (by omega)) (fun o ho => ?_)
  · obtain ⟨h1, h2, h3⟩ := hk
    unfold slices_Compact_uint64_l1
    refine Gets.c (fun e => ?_) (fun e => ?_)
    · have e := of_decide_eq_true e
      rw [idx_nth (by omega) (by omega), bind_s, subI_ok (by omega) (by omega), bind_s, idx_nth (by omega) (by omega), bind_s]
      refine Gets.c (fun e2 => ?_) (fun e2 => ?_)
      · have e2 := of_decide_eq_true e2
        rw [cut_ok (by omega) (by omega) (by omega), bind_s]
        refine Gets.b (Gets.loop (I := fun s => k ≤ s.1 ∧ 1 ≤ s.2.1 ∧ s.1 ≤ k + s.2.1 - 1 ∧ k + s.2.1 ≤ (l.length : Int) ∧ s.2.2.length = l.length ∧ (∀ p q, 0 ≤ p → p < q → q < s.1 → nth s.2.2 p < nth s.2.2 q) ∧ (∀ p, 0 ≤ p → p < s.1 → ∃ i, 0 ≤ i ∧ i < (l.length : Int) ∧ nth s.2.2 p = nth l i) ∧ (∀ i, 0 ≤ i → i < k + s.2.1 → ∃ p, 0 ≤ p ∧ p < s.1 ∧ nth s.2.2 p = nth l i) ∧ (∀ i, s.1 ≤ i → nth s.2.2 i = nth l i) ∧ nth s.2.2 (s.1 - 1) = nth l (k + s.2.1 - 1)) (μ := fun s => ((l.length : Int) - s.2.1).toNat) (R := fun s => k ≤ s.1 ∧ s.1 ≤ (l.length : Int) ∧ s.2.length = l.length ∧ (∀ p q, 0 ≤ p → p < q → q < s.1 → nth s.2 p < nth s.2 q) ∧ (∀ p, 0 ≤ p → p < s.1 → ∃ i, 0 ≤ i ∧ i < (l.length : Int) ∧ nth s.2 p = nth l i) ∧ (∀ i, 0 ≤ i → i < (l.length : Int) → ∃ p, 0 ≤ p ∧ p < s.1 ∧ nth s.2 p = nth l i)) (fun s hs => ?_) ⟨Int.le_refl _, Int.le_refl _, by dsimp only; omega, by dsimp only; omega, rfl, h3, fun p g1 g2 => ⟨p, g1, by dsimp only at g2; omega, rfl⟩, fun i g1 g2 => ?_, fun i g => rfl, ?_⟩ (by dsimp only; omega)) (fun o ho => ?_)
        · obtain ⟨k', k2, s⟩ := s
          obtain ⟨g1, g2, g3, g4, g5, g6, g7, g8, g9, g10⟩ := hs
          dsimp only at *
          have hv : ((((l.length : Nat) - k : Int).toNat : Nat) : Int) = l.length - k := by omega
          unfold slices_Compact_uint64_l2
          refine Gets.c (fun e3 => ?_) (fun e3 => ?_)
          · have e3 := of_decide_eq_true e3
            rw [hv] at e3
            have hw : (((s.drop (Int.toNat k)).take (((l.length : Nat) - k : Int).toNat)).length : Int) = l.length - k := by
              simp only [List.length_take, List.length_drop]; omega
            have hcut : cut s.length ((Int.toNat k) : Int) (((Int.toNat k) + ((l.length : Nat) - k : Int).toNat : Nat) : Int) = some () := cut_ok (by omega) (by omega) (by omega)
            have hi1 : idx ((s.drop (Int.toNat k)).take (((l.length : Nat) - k : Int).toNat)) k2 = some (nth l (k + k2)) := by
              rw [idx_nth (by omega) (by omega), nth_view (by omega) (by omega) (by omega), g9 _ (by omega)]
            have hi2 : idx ((s.drop (Int.toNat k)).take (((l.length : Nat) - k : Int).toNat)) (k2 - 1) = some (nth l (k + k2 - 1)) := by
              rw [idx_nth (by omega) (by omega), nth_view (by omega) (by omega) (by omega), g9 _ (by omega), show k + (k2 - 1) = k + k2 - 1 by omega]
            have hle2 : nth l (k + k2 - 1) ≤ nth l (k + k2) := hle _ _ (by omega) (by omega) (by omega)
            rw [hcut, bind_s, hi1, bind_s, subI_ok (by omega) (by omega), bind_s, hi2, bind_s]
            refine Gets.b (P := fun s' => k ≤ s'.1 ∧ s'.1 ≤ k + k2 ∧ s'.2.length = l.length ∧ (∀ p q, 0 ≤ p → p < q → q < s'.1 → nth s'.2 p < nth s'.2 q) ∧ (∀ p, 0 ≤ p → p < s'.1 → ∃ i, 0 ≤ i ∧ i < (l.length : Int) ∧ nth s'.2 p = nth l i) ∧ (∀ i, 0 ≤ i → i < k + k2 + 1 → ∃ p, 0 ≤ p ∧ p < s'.1 ∧ nth s'.2 p = nth l i) ∧ (∀ i, s'.1 ≤ i → nth s'.2 i = nth l i) ∧ nth s'.2 (s'.1 - 1) = nth l (k + k2)) ?_ (fun s' hs' => ?_)
            · refine Gets.c (fun e4 => ?_) (fun e4 => ?_)
              · have e4 := of_decide_eq_true e4
                have hlt := lt_of hle2 (fun h => e4 h.symm)
                rw [bind_s, bind_s, idx_nth (by omega) (by omega), bind_s, bind_s, addI_ok (by omega) (by omega), bind_s]
                have hn : ∀ i, 0 ≤ i → nth (s.set (Int.toNat k') (nth l (k + k2))) i = if i = k' then nth l (k + k2) else nth s i := fun i hi => nth_set (by omega) (by omega) hi
                refine .s ⟨by dsimp only; omega, by dsimp only; omega, by dsimp only; rw [List.length_set]; exact g5, fun p q m1 m2 m3 => ?_, fun p m1 m2 => ?_, fun i m1 m2 => ?_, fun i m1 => ?_, ?_⟩
                · dsimp only at *
                  rw [hn p m1, hn q (by omega), if_neg (by omega)]
                  by_cases e5 : q = k'
                  · rw [if_pos e5]
                    by_cases e6 : p = k' - 1
                    · rw [e6, g10]; exact hlt
                    · have t := g6 p (k' - 1) m1 (by omega) (by omega)
                      rw [g10] at t
                      exact lt_tr (lt_le t) hlt
                  · rw [if_neg e5]; exact g6 p q m1 m2 (by omega)
                · dsimp only at *
                  rw [hn p m1]
                  by_cases e5 : p = k'
                  · rw [if_pos e5]; exact ⟨k + k2, by omega, by omega, rfl⟩
                  · rw [if_neg e5]; exact g7 p m1 (by omega)
                · dsimp only at *
                  by_cases e5 : i = k + k2
                  · exact ⟨k', by omega, by omega, by rw [hn k' (by omega), if_pos rfl, e5]⟩
                  · obtain ⟨p, p1, p2, p3⟩ := g8 i m1 (by omega)
                    exact ⟨p, p1, by omega, by rw [hn p p1, if_neg (by omega)]; exact p3⟩
                · dsimp only at *
                  rw [hn i (by omega), if_neg (by omega)]; exact g9 i (by omega)
                · dsimp only
                  rw [hn _ (by omega), if_pos (by omega)]
              · have e4 := of_decide_eq_false e4
                have e4 : nth l (k + k2) = nth l (k + k2 - 1) := Classical.not_not.1 e4
                refine .s ⟨g1, by dsimp only; omega, g5, g6, g7, fun i m1 m2 => ?_, g9, by dsimp only; rw [g10, e4]⟩
                dsimp only at *
                by_cases e5 : i = k + k2
                · rw [e5, e4]; exact g8 _ (by omega) (by omega)
                · exact g8 i m1 (by omega)
            · obtain ⟨k3, s3⟩ := s'
              simp only [el2]
              obtain ⟨m1, m2, m3, m4, m5, m6, m7, m8⟩ := hs'
              dsimp only at *
              rw [addI_ok (by omega) (by omega), bind_s]
              refine .l ⟨m1, by dsimp only; omega, by dsimp only; omega, by dsimp only; omega, m3, m4, m5, fun i n1 n2 => m6 i n1 (by dsimp only at n2; omega), m7, by dsimp only; rw [m8]; congr 1; omega⟩ (by dsimp only; omega)
          · have e3 := of_decide_eq_false e3
            rw [hv] at e3
            exact .r ⟨g1, by dsimp only; omega, g5, g6, g7, fun i m1 m2 => g8 i m1 (by omega)⟩
        · dsimp only at *
          by_cases e5 : i = k
          · exact ⟨k - 1, by omega, by omega, by rw [e5, e2]⟩
          · exact ⟨i, g1, by omega, rfl⟩
        · dsimp only
          rw [show k + 1 - 1 = k by omega, e2]
        · obtain ⟨k', s⟩ := o
          obtain ⟨g1, g2, g5, g6, g7, g8⟩ := ho
          dsimp only at *
          simp only [el2]
          rw [cut_ok (by omega) (by omega) (by omega), bind_s, bind_s]
          have ht : (splice s (Int.toNat k') (List.replicate (((s.length : Nat) - k' : Int).toNat) (Dat.z : UInt64))).take (Int.toNat k') = s.take (Int.toNat k') := by
            unfold splice
            rw [List.append_assoc, List.take_append_of_le_length (by rw [List.length_take]; omega), List.take_take, Nat.min_self]
          rw [cut_ok (by omega) (by omega) (by unfold splice; simp only [List.length_append, List.length_take, List.length_replicate]; omega), bind_s, bind_s, ht]
          have hlen : ((s.take (Int.toNat k')).length : Int) = k' := by rw [List.length_take]; omega
          have hn : ∀ p, 0 ≤ p → p < k' → nth (s.take (Int.toNat k')) p = nth s p := fun p p1 p2 => by
            unfold nth; rw [List.getElem?_take, if_pos (by omega)]
          refine .r (show Dup _ _ from .of (fun p q m1 m2 m3 => ?_) (fun p m1 m2 => ?_) (fun i m1 m2 => ?_) (by omega))
          · rw [hn p m1 (by omega), hn q (by omega) (by omega)]; exact g6 p q m1 m2 (by omega)
          · rw [hn p m1 (by omega)]; exact g7 p m1 (by omega)
          · obtain ⟨p, p1, p2, p3⟩ := g8 i m1 m2
            exact ⟨p, p1, by omega, by rw [hn p p1 p2]; exact p3⟩
      · have e2 := of_decide_eq_false e2
        rw [addI_ok (by omega) (by omega), bind_s]
        refine .l ⟨by omega, by omega, fun p q g1 g2 g3 => ?_⟩ (by omega)
        by_cases e3 : q = k
        · subst e3
          have t := lt_of (hle (q - 1) q (by omega) (by omega) (by omega)) (fun h => e2 h.symm)
          by_cases e4 : p = q - 1
          · rw [e4]; exact t
          · exact lt_tr (lt_le (h3 p (q - 1) g1 (by omega) (by omega))) t
        · exact h3 p q g1 g2 (by omega)
    · have e := of_decide_eq_false e
      exact .r (show Dup l l from .of (fun p q m1 m2 m3 => h3 p q m1 m2 (by omega)) (fun p h1 h2 => ⟨p, h1, h2, rfl⟩) (fun p h1 h2 => ⟨p, h1, h2, rfl⟩) (Nat.le_refl _))
  · rcases o with _ | l'
    · exact .elSl (.s ho)
    · exact .elSr (.s ho)
end Go.Proofs.Ytefmfhbkihplgaa.Tr
namespace Go.Proofs.Ytefmfhbkihplgaa.Tr
open Go
set_option maxHeartbeats 1000000
theorem find_get {l : List Int} {v : Int} {ε : Type} {f : Int → Option (Int ⊕ (Unit ⊕ ε))} (hl : l.length ≤ 1000000) {y : Int → ε}
    (hf : ∀ i : Nat, f (i : Int) = if h : i < l.length then (if l[i] = v then some (.inr (.inr (y i))) else some (.inl ((i + 1 : Nat) : Int))) else some (.inr (.inl ()))) :
    Gets (loopO f 0) (fun o => (v ∈ l ∧ ∃ i : Nat, o = .inr (y i)) ∨ (v ∉ l ∧ o = .inl ())) := by
  refine Gets.loop (fun s => ∃ i : Nat, s = (i : Int) ∧ i ≤ l.length ∧ v ∉ l.take i) (fun s => l.length - s.toNat) ?_ ⟨0, rfl, Nat.zero_le _, by simp⟩ (by omega)
  rintro s ⟨i, rfl, hi, hm⟩
  rw [hf i]
  by_cases h : i < l.length
  · rw [dif_pos h]
    by_cases h2 : l[i] = v
    · rw [if_pos h2]
      exact .r (.inl ⟨by rw [← h2]; exact List.getElem_mem h, i, rfl⟩)
    · rw [if_neg h2]
      refine .l ⟨i + 1, rfl, h, fun h3 => ?_⟩ (by omega)
      rw [List.take_succ_eq_append_getElem h, List.mem_append] at h3
      rcases h3 with h3 | h3
      · exact hm h3
      · exact h2 (List.mem_singleton.1 h3).symm
  · rw [dif_neg h]
    refine .r (.inr ⟨?_, rfl⟩)
    rw [List.take_of_length_le (by omega)] at hm
    exact hm
theorem contains_eq {l : List Int} (v : Int) (hl : l.length ≤ 1000000) : slices_Contains_int l v = some (decide (v ∈ l)) := by
  unfold slices_Contains_int slices_Index_int
  obtain ⟨o, e, ho⟩ := find_get (f := fun s => slices_Index_int_l1 l v s) (y := fun i => i) (v := v) hl (fun i => by
    show slices_Index_int_l1 l v i = _
    unfold slices_Index_int_l1
    by_cases h : i < l.length
    · rw [lt_t h, cond_t, idx_nat h, bind_s, dif_pos h]
      by_cases h2 : l[i] = v
      · rw [decide_eq_true h2.symm, cond_t, if_pos h2]
      · rw [decide_eq_false (fun h => h2 h.symm), cond_f, if_neg h2, addI_ok (by omega) (by omega), bind_s]; rfl
    · rw [show decide ((i : Int) < (l.length : Int)) = false from decide_eq_false (by omega), cond_f, dif_neg h])
  rw [e]
  rcases ho with ⟨h1, i, rfl⟩ | ⟨h1, rfl⟩
  · rw [bind_s, elS_inr, bind_s, decide_eq_true h1, decide_eq_true (show (i : Int) ≥ 0 by omega)]
  · rw [bind_s, elS_inl, bind_s, decide_eq_false h1]; rfl
theorem has_eq8 {l : List Int} (v : Int) (hl : l.length ≤ 1000000) : bywayref08_Has l v = some (decide (v ∈ l)) := by
  unfold bywayref08_Has
  obtain ⟨o, e, ho⟩ := find_get (f := fun s => bywayref08_Has_l1 l v s) (y := fun i => true) (v := v) hl (fun i => by
    show bywayref08_Has_l1 l v i = _
    unfold bywayref08_Has_l1
    by_cases h : i < l.length
    · rw [lt_t h, cond_t, idx_nat h, bind_s, dif_pos h]
      by_cases h2 : l[i] = v
      · rw [decide_eq_true h2, cond_t, if_pos h2]
      · rw [decide_eq_false h2, cond_f, if_neg h2, addI_ok (by omega) (by omega), bind_s]; rfl
    · rw [show decide ((i : Int) < (l.length : Int)) = false from decide_eq_false (by omega), cond_f, dif_neg h])
  rw [e]
  rcases ho with ⟨h1, i, rfl⟩ | ⟨h1, rfl⟩
  · rw [bind_s, elS_inr, decide_eq_true h1]
  · rw [bind_s, elS_inl, decide_eq_false h1]
def nwg (id : Int) (n : Nat) (s : Int × UInt64) (v : image_sheet) : Int × UInt64 :=
  if v.kind = 3 ∧ v.id = id ∧ s.2 ≤ v.gen then (((n + 1 : Nat) : Int), v.gen) else s
def nwOf (id : Int) (l : List image_sheet) : Int × UInt64 := foldG (nwg id) 0 (0, UInt64.ofNat 0) l
theorem newest_eq {c : Chip} (hc : cRight c = true) (id : Int) : image_Newest c id = some (if (nwOf id (sheetsOf c)).1 = 0 then (0, 6) else ((nwOf id (sheetsOf c)).1, 0)) := by
  unfold image_Newest
  rw [chip_Right_eq, bind_s, hc, Bool.not_true, cond_f]
  unfold image_sheets
  rw [bind_s]
  have hl := sheets_count hc
  obtain ⟨e1, -⟩ := foldS_inv (ε := Empty) (f := fun (s : Int × UInt64) n_10 v_11 => image_Newest_l1 id s.1 s.2 n_10 v_11) (nwg id) (fun _ _ => True) (fun n s v hn h => by
    refine ⟨?_, trivial⟩
    obtain ⟨a, g⟩ := s
    unfold image_Newest_l1 nwg
    by_cases h1 : v.kind = 3
    · by_cases h2 : v.id = id
      · by_cases h3 : g ≤ v.gen
        · rw [decide_eq_true h1, decide_eq_true h2, decide_eq_true h3, if_pos ⟨h1, h2, h3⟩]; rfl
        · rw [decide_eq_false h3, Bool.and_false, cond_f, if_neg (fun h => h3 h.2.2)]
      · rw [decide_eq_false h2, Bool.and_false, Bool.false_and, cond_f, if_neg (fun h => h2 h.2.1)]
    · rw [decide_eq_false h1, Bool.false_and, Bool.false_and, cond_f, if_neg (fun h => h1 h.1)]) (sheetsOf c) 0 ((0 : Int), UInt64.ofNat 0) trivial (by omega)
  rw [sheets_eq hc _ e1, bind_s, elS_inl]
  simp only [el2]
  show (bif decide ((nwOf id (sheetsOf c)).1 = 0) then _ else _) = _
  by_cases h : (nwOf id (sheetsOf c)).1 = 0
  · rw [decide_eq_true h, cond_t, if_pos h]
  · rw [decide_eq_false h, cond_f, if_neg h]; rfl
def stl (at0 : List Int) : Nat → List image_sheet → List Int
  | _, [] => []
  | n, v :: vs => if v.kind = 3 ∧ ((n + 1 : Nat) : Int) ∉ at0 then ((n + 1 : Nat) : Int) :: stl at0 (n + 1) vs else stl at0 (n + 1) vs
def stg (at0 : List Int) (n : Nat) (l : List Int) (v : image_sheet) : List Int := if v.kind = 3 ∧ ((n + 1 : Nat) : Int) ∉ at0 then l ++ [((n + 1 : Nat) : Int)] else l
theorem stg_fold (at0 : List Int) : ∀ (xs : List image_sheet) (n : Nat) (l : List Int), foldG (stg at0) n l xs = l ++ stl at0 n xs
  | [], n, l => by rw [stl, List.append_nil]; rfl
  | v :: xs, n, l => by
    rw [foldG, stg_fold at0 xs, stl]
    unfold stg
    split
    · rw [List.append_assoc]; rfl
    · rfl
theorem stale_eq {c : Chip} (hc : cRight c = true) {at0 : List Int} (ha : at0.length ≤ 1000000) : image_Stale c at0 = some (stl at0 0 (sheetsOf c)) := by
  unfold image_Stale
  rw [chip_Right_eq, bind_s, hc, Bool.not_true, cond_f, bind_s, bind_s]
  unfold image_sheets
  rw [bind_s]
  have hl := sheets_count hc
  obtain ⟨e1, -⟩ := foldS_inv (ε := Empty) (f := fun (s : List Int) n_11 v_12 => image_Stale_l1 at0 s n_11 v_12) (stg at0) (fun n l => l.length ≤ n) (fun n l v hn h => by
    unfold image_Stale_l1 stg
    by_cases h1 : v.kind = 3
    · rw [decide_eq_true h1, gb_true, contains_eq _ ha, bind_s, Bool.true_and]
      by_cases h2 : ((n + 1 : Nat) : Int) ∈ at0
      · rw [decide_eq_true h2, Bool.not_true, cond_f, if_neg (fun h => h.2 h2)]
        exact ⟨rfl, by omega⟩
      · rw [decide_eq_false h2, Bool.not_false, cond_t, if_pos ⟨h1, h2⟩, room_ok (by omega) (by simp only [List.length_singleton]; omega) (by simp only [List.length_singleton]; omega), bind_s, bind_s]
        exact ⟨rfl, by simp only [List.length_append, List.length_singleton]; omega⟩
    · rw [decide_eq_false h1, gb_false, bind_s, Bool.false_and, cond_f, if_neg (fun h => h1 h.1)]
      exact ⟨rfl, by omega⟩) (sheetsOf c) 0 [] (Nat.le_refl _) (by omega)
  rw [stg_fold, List.nil_append] at e1
  rw [sheets_eq hc _ e1, bind_s, elS_inl]
def gensOf (l : List image_sheet) : List UInt64 := (l.filter fun v => decide (v.kind = 2)).map (·.gen)
theorem gens_fold : ∀ (xs : List image_sheet) (n : Nat) (l : List UInt64), foldG (fun _ l v => if v.kind = 2 then l ++ [v.gen] else l) n l xs = l ++ gensOf xs
  | [], n, l => by simp [foldG, gensOf]
  | v :: xs, n, l => by
    rw [foldG, gens_fold xs]
    unfold gensOf
    by_cases h : v.kind = 2
    · simp [h]
    · simp [h]
theorem Dup.perm {l l' m : List UInt64} (h : Dup l m) (p : l.Perm l') : Dup l' m := ⟨h.1, fun x => (h.2.1 x).trans p.mem_iff, by rw [← p.length_eq]; exact h.2.2⟩
theorem gensOf_length (l : List image_sheet) : (gensOf l).length = l.countP fun v => decide (v.kind = 2) := by
  unfold gensOf; rw [List.length_map, List.countP_eq_length_filter]
theorem gens_get {c : Chip} (hc : cRight c = true) : Gets (image_Gens c) (Dup (gensOf (sheetsOf c))) := by
  unfold image_Gens
  rw [chip_Right_eq, bind_s, hc, Bool.not_true, cond_f, bind_s, bind_s]
  unfold image_sheets
  rw [bind_s]
  have hl := sheets_count hc
  obtain ⟨e1, -⟩ := foldS_inv (ε := Empty) (f := fun (s : List UInt64) n_10 v_11 => image_Gens_l1 s n_10 v_11) (fun _ l v => if v.kind = 2 then l ++ [v.gen] else l) (fun n l => l.length ≤ n) (fun n l v hn h => by
    unfold image_Gens_l1
    by_cases h1 : v.kind = 2
    · rw [decide_eq_true h1, cond_t, if_pos h1, room_ok (by omega) (by simp only [List.length_singleton]; omega) (by simp only [List.length_singleton]; omega), bind_s, bind_s]
      exact ⟨rfl, by simp only [List.length_append, List.length_singleton]; omega⟩
    · rw [decide_eq_false h1, cond_f, if_neg h1]
      exact ⟨rfl, by omega⟩) (sheetsOf c) 0 [] (Nat.le_refl _) (by omega)
  rw [gens_fold, List.nil_append] at e1
  rw [sheets_eq hc _ e1, bind_s, elS_inl]
  have hg : (gensOf (sheetsOf c)).length ≤ 512 := by rw [gensOf_length]; exact Nat.le_trans List.countP_le_length hl
  refine Gets.b (sort_get (by omega)) (fun x hx => ?_)
  have hxl := hx.1.length_eq
  rw [lenI_ok hxl, bind_s]
  refine Gets.b (comp_get (by omega) hx.2) (fun y hy => .s (hy.perm hx.1))
end Go.Proofs.Ytefmfhbkihplgaa.Tr
namespace Go.Proofs.Ytefmfhbkihplgaa.Tr
open Go
set_option maxHeartbeats 1000000
theorem image_awake_eq2 : bywaylaw21_awake = some true := by decide +kernel
end Go.Proofs.Ytefmfhbkihplgaa.Tr
namespace Go.Proofs.Ytefmfhbkihplgaa.Tr
open Go
set_option maxHeartbeats 1000000
theorem two_get (b : List UInt8) (i : Nat) (h : 2 * i + 1 < b.length) : ((getNum ((b.take (2 * i + 2)).drop (2 * i))).toNat : Int) = numAt b i := by
  have h8 : 2 * i < b.length := by omega
  have e : (b.take (2 * i + 2)).drop (2 * i) = [b.getD (2 * i) 0, b.getD (2 * i + 1) 0] := by
    rw [List.getD_eq_getElem?_getD, List.getD_eq_getElem?_getD, List.getElem?_eq_getElem h8, List.getElem?_eq_getElem h]
    apply List.ext_getElem
    · simp; omega
    · intro j h1 h2
      simp at h2
      rcases (by omega : j = 0 ∨ j = 1) with rfl | rfl
      · simp
      · simp
  rw [e, getNum_nat]
  unfold natNum numAt
  simp only [List.foldl_cons, List.foldl_nil]
  have h1 := (b.getD (2 * i) 0).toNat_lt
  have h2 := (b.getD (2 * i + 1) 0).toNat_lt
  omega
theorem ref10_Read_eq (b : List UInt8) (hb : b.length ≤ 1000000) : bywayref10_Read b = some (RReadV b) := by
  unfold bywayref10_Read RReadV
  rw [ref_Read_eq b hb, bind_s]
  have hbl := read_body b
  by_cases h1 : (ReadV b).2 ≠ 0
  · rw [cond_true (by simpa using h1), if_pos h1, bind_s]; rfl
  · rw [cond_false (by simpa using h1), if_neg h1]
    by_cases h2 : (ReadV b).1.Kind = 0
    · rw [cond_true (by simpa using h2), if_pos h2, bind_s]; rfl
    · rw [cond_false (by simpa using h2), if_neg h2]
      have hm := (read_ok (Decidable.not_not.1 h1) h2).1
      obtain ⟨-, -, hi0, hi1, -, -⟩ := hm
      generalize hr : ReadV b = rp at *
      obtain ⟨p, e⟩ := rp
      dsimp only at *
      have q1 : quoI (p.Body.length : Int) 2 = some ((p.Body.length / 2 : Nat) : Int) := quoI_nat (b := 2) (by omega)
      have q2 : remI (p.Body.length : Int) 2 = some ((p.Body.length % 2 : Nat) : Int) := remI_nat (b := 2) (by omega)
      rw [q1, bind_s, gb_of2 q2, bind_s, gb_of2 (subI_ok (by omega) (by omega)), bind_s]
      have hc : (((((decide (p.Kind ≠ (2 : Int))) || (decide ((bif (!(decide (p.Kind ≠ (2 : Int)))) then ((p.Body.length % 2 : Nat) : Int) else default) = (1 : Int)))) || (decide (((p.Body.length / 2 : Nat) : Int) > (64 : Int)))) || ((decide (((p.Body.length / 2 : Nat) : Int) > (0 : Int))) && (decide (p.Id ≠ (bif ((!(((decide (p.Kind ≠ (2 : Int))) || (decide ((bif (!(decide (p.Kind ≠ (2 : Int)))) then ((p.Body.length % 2 : Nat) : Int) else default) = (1 : Int)))) || (decide (((p.Body.length / 2 : Nat) : Int) > (64 : Int))))) && (decide (((p.Body.length / 2 : Nat) : Int) > (0 : Int)))) then ((p.Body.length / 2 : Nat) : Int) - 1 else default))))) || ((decide (((p.Body.length / 2 : Nat) : Int) = (0 : Int))) && (decide (p.Id ≠ (0 : Int))))) = !decide (RForm p) := by
        rw [show decide (RForm p) = decide (p.Kind = 2 ∧ p.Body.length % 2 = 0 ∧ p.Id = max 0 (((p.Body.length / 2 : Nat) : Int) - 1)) from decide_eq_decide.2 Iff.rfl]
        generalize p.Body.length / 2 = m
        by_cases g1 : p.Kind = 2
        · by_cases g2 : p.Body.length % 2 = 0
          · by_cases g3 : (m : Int) > 64
            · have : ¬ p.Id = max 0 ((m : Int) - 1) := by omega
              simp [g1, g2, g3, this]
            · by_cases g4 : (m : Int) > 0
              · have : (p.Id = max 0 ((m : Int) - 1)) ↔ p.Id = (m : Int) - 1 := by omega
                have g5 : 0 < m := by omega
                have g6 : ¬ m = 0 := by omega
                simp [g1, g2, g3, g4, g5, g6, this]
              · have : (p.Id = max 0 ((m : Int) - 1)) ↔ p.Id = 0 := by omega
                obtain rfl : m = 0 := by omega
                simp [g1, g2]; omega
          · have : p.Body.length % 2 = 1 := by omega
            simp [g1, g2, this]
        · simp [g1]
      rw [hc]
      by_cases h3 : RForm p
      · rw [decide_eq_true h3, Bool.not_true, cond_f, if_neg (by rw [Decidable.not_not]; exact h3), bind_s, bind_s]
        refine (bind_of (loopO_iter (fun i => ((i : Int), (List.range i).map (numAt p.Body))) (p.Body.length / 2) (e := numsOf p.Body) (by omega) (fun i hi => ?_) ?_ rfl)).trans ?_
        · unfold bywayref10_Read_l1
          dsimp only
          rw [lt_t hi, cond_t, mulI_ok (by omega) (by omega), bind_s, bind_s, addI_ok (by omega) (by omega), bind_s, cut_ok (by omega) (by omega) (by omega), bind_s, show (2 * (i : Int) + 2).toNat = 2 * i + 2 by omega, show (2 * (i : Int)).toNat = 2 * i by omega, ref_Get_eq _ (by simp; omega), bind_s]
          have hv := two_get p.Body i (by omega)
          have v1 := (p.Body.getD (2 * i) 0).toNat_lt
          have v2 := (p.Body.getD (2 * i + 1) 0).toNat_lt
          have hn : 0 ≤ numAt p.Body i ∧ numAt p.Body i < 65536 := by unfold numAt; omega
          rw [hv, ok64_ok (by omega) (by omega), bind_s, room_ok (by omega) (by simp; omega) (by simp; omega), bind_s, bind_s, addI_1 (by omega), bind_s, List.range_succ, List.map_append]
          rfl
        · unfold bywayref10_Read_l1
          dsimp only
          rw [lt_f, cond_f]; rfl
        · rw [bind_s]
      · rw [decide_eq_false h3, Bool.not_false, cond_t, if_pos h3, bind_s]; rfl
def rk (b : List UInt8) : Int := if ∀ x ∈ b, x = 255 then 0 else if (RReadV b).2 = 0 then 2 else if (ReadV b).2 = 0 ∧ (ReadV b).1.Kind = 1 then 1 else 3
theorem kind_eq (b : List UInt8) (hb : b.length ≤ 1000000) : bywayref21_Kind b = some (rk b) := by
  unfold bywayref21_Kind rk
  rw [ref_Blank_eq b (by omega), bind_s]
  by_cases h : ∀ x ∈ b, x = 255
  · rw [decide_eq_true h, cond_t, if_pos h]
  · rw [decide_eq_false h, cond_f, if_neg h, ref10_Read_eq b hb, bind_s]
    by_cases h2 : (RReadV b).2 = 0
    · rw [decide_eq_true h2, cond_t, if_pos h2]
    · rw [decide_eq_false h2, cond_f, if_neg h2, ref_Read_eq b hb, bind_s]
      by_cases h3 : (ReadV b).2 = 0 ∧ (ReadV b).1.Kind = 1
      · rw [decide_eq_true h3.1, decide_eq_true h3.2, if_pos h3]; rfl
      · rw [if_neg h3, cond_false]
        by_cases h4 : (ReadV b).2 = 0
        · rw [decide_eq_true h4, Bool.true_and]; exact decide_eq_false (fun h5 => h3 ⟨h4, h5⟩)
        · rw [decide_eq_false h4, Bool.false_and]
theorem rk_look (b : List UInt8) (u : Bool) : (lookV b u).kind = (if rk b = 0 then (if u then 1 else 0) else if rk b = 2 then 2 else if rk b = 1 then 3 else 4) ∧ (rk b = 1 → (lookV b u).id = (ReadV b).1.Id ∧ (lookV b u).gen = (ReadV b).1.Gen) := by
  unfold rk lookV
  by_cases h : ∀ x ∈ b, x = 255
  · rw [if_pos h, if_pos h]
    cases u
    · exact ⟨rfl, fun h => by cases h⟩
    · exact ⟨rfl, fun h => by cases h⟩
  · rw [if_neg h, if_neg h]
    by_cases h2 : (RReadV b).2 = 0
    · rw [if_pos h2, if_pos h2]; exact ⟨rfl, fun h => by cases h⟩
    · rw [if_neg h2, if_neg h2]
      by_cases h3 : (ReadV b).2 = 0 ∧ (ReadV b).1.Kind = 1
      · rw [if_pos h3, if_pos h3]; exact ⟨rfl, fun _ => ⟨rfl, rfl⟩⟩
      · rw [if_neg h3, if_neg h3]; exact ⟨rfl, fun h => by cases h⟩
end Go.Proofs.Ytefmfhbkihplgaa.Tr
namespace Go.Proofs.Ytefmfhbkihplgaa.Tr
open Go
set_option maxHeartbeats 1000000
theorem foldG_append {σ : Type} (g : Nat → σ → image_sheet → σ) : ∀ (xs ys : List image_sheet) (n : Nat) (s : σ), foldG g n s (xs ++ ys) = foldG g (n + xs.length) (foldG g n s xs) ys
  | [], ys, n, s => rfl
  | x :: xs, ys, n, s => by
    rw [List.cons_append, foldG, foldG, foldG_append g xs, List.length_cons]
    congr 1; omega
theorem foldG_take {σ : Type} (g : Nat → σ → image_sheet → σ) (l : List image_sheet) (s : σ) {i : Nat} (h : i < l.length) : foldG g 0 s (l.take (i + 1)) = g i (foldG g 0 s (l.take i)) l[i] := by
  rw [List.take_succ_eq_append_getElem h, foldG_append, List.length_take, Nat.min_eq_left (by omega), Nat.zero_add]; rfl
theorem refRight_eq (c : Chip) : bywayref06_Right c = some (cRight c) := by
  unfold bywayref06_Right cRight
  cases hc : (((((((((decide (c.Pages < (1 : Int))) || (decide (c.Pages > (16 : Int)))) || (decide (c.Size < (1 : Int)))) || (decide (c.Size > (256 : Int)))) || (decide ((c.Blocks.length : Int) = (0 : Int)))) || (decide ((c.Blocks.length : Int) > (32 : Int)))) || (decide (c.Ops < (0 : Int)))) || (decide (c.Ops > (1099511627776 : Int)))) || (decide ((c.Faults.length : Int) > (64 : Int)))) with
  | true =>
    rw [cond_t]
    have : (cSound c.Blocks.length c.Pages c.Size && decide (0 ≤ c.Ops ∧ c.Ops ≤ 1099511627776 ∧ c.Faults.length ≤ 64)) = false := by
      unfold cSound
      simp only [Bool.or_eq_true, decide_eq_true_eq] at hc
      simp only [Bool.and_eq_false_iff, decide_eq_false_iff_not]
      omega
    rw [this]; rfl
  | false =>
    have hs : (cSound c.Blocks.length c.Pages c.Size && decide (0 ≤ c.Ops ∧ c.Ops ≤ 1099511627776 ∧ c.Faults.length ≤ 64)) = true := by
      unfold cSound
      simp only [Bool.or_eq_false_iff, decide_eq_false_iff_not] at hc
      simp only [Bool.and_eq_true, decide_eq_true_eq]
      omega
    simp only [Bool.or_eq_false_iff, decide_eq_false_iff_not] at hc
    rw [hs, Bool.true_and, cond_f, loopO_all (f := fun s => bywayref06_Right_l1 c s) c.Blocks (bRight c) (by omega) (fun i hi => ?_) (by unfold bywayref06_Right_l1; rw [lt_f, cond_f])]
    · rw [bind_s]
      cases c.Blocks.all (bRight c)
      · rw [if_neg (by decide), elS_inr]
      · rw [if_pos rfl, elS_inl]
    · unfold bywayref06_Right_l1
      rw [lt_t hi, cond_t, idx_nat hi, bind_s]
      cases hb : (((((decide ((c.Blocks[i].Pages.length : Int) ≠ c.Pages)) || (decide (c.Blocks[i].Used < (0 : Int)))) || (decide (c.Blocks[i].Used > c.Pages))) || (decide (c.Blocks[i].Worn < (0 : Int)))) || (decide (c.Blocks[i].Worn > (1099511627776 : Int)))) with
      | true =>
        have : bRight c c.Blocks[i] = false := by unfold bRight; rw [hb]; rfl
        rw [cond_t, if_neg (by rw [this]; decide)]
      | false =>
        have hb2 := hb
        simp only [Bool.or_eq_false_iff, decide_eq_false_iff_not] at hb2
        rw [cond_f, loopO_all (f := fun s => bywayref06_Right_l2 c c.Blocks[i] s) c.Blocks[i].Pages (fun p => decide ((p.length : Int) = c.Size)) (by omega) (fun j hj => ?_) (by unfold bywayref06_Right_l2; rw [lt_f, cond_f])]
        · have : bRight c c.Blocks[i] = c.Blocks[i].Pages.all (fun p => decide ((p.length : Int) = c.Size)) := by unfold bRight; rw [hb]; rfl
          rw [bind_s, this]
          cases c.Blocks[i].Pages.all (fun p => decide ((p.length : Int) = c.Size))
          · rw [if_neg (by decide), elS_inr, if_neg (by decide)]
          · rw [if_pos rfl, elS_inl, addI_1 (by omega), bind_s, if_pos rfl]
        · unfold bywayref06_Right_l2
          rw [lt_t hj, cond_t, idx_nat hj, bind_s]
          by_cases hp : (c.Blocks[i].Pages[j].length : Int) = c.Size
          · rw [cond_false (by simp [hp]), addI_1 (by omega), bind_s, if_pos (by simp [hp])]
          · rw [cond_true (by simp [hp]), if_neg (by simp [hp])]
theorem refPage_eq {c : Chip} (hc : cRight c = true) {p : Nat} (hp : c.Pages = (p : Int)) (hp0 : 0 < p) (hb : ∀ b ∈ c.Blocks, b.Pages.length = p) {i : Nat} (hi : i < c.Blocks.length * p) :
    ∃ q : List UInt8 × Bool, (allPages c)[i]? = some q ∧ (sheetsOf c)[i]? = some (lookV q.1 q.2) ∧ q.1.length ≤ 1000000 ∧ ∃ (h1 : i / p < c.Blocks.length) (h2 : i % p < c.Blocks[i / p].Pages.length), q = (c.Blocks[i / p].Pages[i % p], decide (((i % p : Nat) : Int) < c.Blocks[i / p].Used)) := by
  obtain ⟨g1, g2, g3⟩ := page_at hc hp hp0 hb hi
  obtain ⟨-, -, -, -, -, h6, -, -, -, h10⟩ := cRight_spec hc
  refine ⟨_, g3, by unfold sheetsOf; rw [List.getElem?_map, g3]; rfl, ?_, g1, g2, rfl⟩
  have := (h10 _ (List.getElem_mem g1)).2.2.2.2.2 _ (List.getElem_mem g2)
  dsimp only
  omega
theorem Page_eq {c : Chip} (hc : cRight c = true) {p : Nat} (hp : c.Pages = (p : Int)) (hp0 : 0 < p) (hb : ∀ b ∈ c.Blocks, b.Pages.length = p) {i : Nat} (hi : i < c.Blocks.length * p) {q : List UInt8 × Bool} (hq : (allPages c)[i]? = some q) :
    bywayref21_Page c (i : Int) = some ((ReadV q.1).1, decide (rk q.1 = 1)) := by
  obtain ⟨q', h1, -, h3, g1, g2, rfl⟩ := refPage_eq hc hp hp0 hb hi
  rw [hq] at h1
  obtain rfl := Option.some.inj h1
  unfold bywayref21_Page
  rw [hp, quoI_nat hp0, bind_s, idx_nat g1, bind_s, remI_nat hp0, bind_s, idx_nat g2, bind_s, ref_Read_eq _ h3, bind_s, kind_eq _ h3, bind_s]
theorem refNewest_eq {c : Chip} (hc : cRight c = true) (id : Int) : bywayref21_Newest c id = some (if (nwOf id (sheetsOf c)).1 = 0 then (0, 6) else ((nwOf id (sheetsOf c)).1, 0)) := by
  obtain ⟨p, hp, hp0, hp16, hb, hlen, h512⟩ := pages_of hc
  have hsl : (sheetsOf c).length = c.Blocks.length * p := by unfold sheetsOf; rw [List.length_map, hlen]
  have hinv : ∀ i, i ≤ c.Blocks.length * p → let s := foldG (nwg id) 0 ((0 : Int), UInt64.ofNat 0) ((sheetsOf c).take i); (s.1 = 0 ∧ s.2 = 0) ∨ ∃ j : Nat, j < i ∧ s.1 = ((j + 1 : Nat) : Int) ∧ ∃ v, (sheetsOf c)[j]? = some v ∧ v.kind = 3 ∧ v.gen = s.2 := by
    intro i
    induction i with
    | zero => intro _; exact .inl ⟨rfl, rfl⟩
    | succ i ih =>
      intro hi
      have ih := ih (by omega)
      dsimp only at ih ⊢
      rw [foldG_take _ _ _ (by omega)]
      generalize foldG (nwg id) 0 ((0 : Int), UInt64.ofNat 0) ((sheetsOf c).take i) = s at ih ⊢
      unfold nwg
      split
      · rename_i hh
        exact .inr ⟨i, by omega, rfl, _, List.getElem?_eq_getElem (by omega), hh.1, rfl⟩
      · rcases ih with ih | ⟨j, h1, h2⟩
        · exact .inl ih
        · exact .inr ⟨j, by omega, h2⟩
  unfold bywayref21_Newest
  refine (bind_of (loopO_iter (f := fun s => bywayref21_Newest_l1 c id s.1 s.2) (fun i => ((foldG (nwg id) 0 ((0 : Int), UInt64.ofNat 0) ((sheetsOf c).take i)).1 - 1, (i : Int))) (c.Blocks.length * p) (e := (nwOf id (sheetsOf c)).1 - 1) (by omega) (fun i hi => ?_) ?_ rfl)).trans ?_
  rotate_left 2
  · have h := hinv (c.Blocks.length * p) (Nat.le_refl _)
    rw [← hsl, List.take_length] at h
    have h : ((nwOf id (sheetsOf c)).1 = 0 ∧ (nwOf id (sheetsOf c)).2 = 0) ∨ ∃ j : Nat, j < (sheetsOf c).length ∧ (nwOf id (sheetsOf c)).1 = ((j + 1 : Nat) : Int) ∧ _ := h
    generalize nwOf id (sheetsOf c) = s at h ⊢
    rcases h with ⟨h1, -⟩ | ⟨j, h1, h2, -⟩
    · rw [h1, cond_true (decide_eq_true (by omega)), if_pos rfl]
    · rw [h2, cond_false (decide_eq_false (by omega)), if_neg (by omega), addI_ok (by omega) (by omega), bind_s, Int.sub_add_cancel]
  · obtain ⟨q, h1, h2, h3, -⟩ := refPage_eq hc hp hp0 hb hi
    have hk := rk_look q.1 q.2
    unfold bywayref21_Newest_l1
    dsimp only
    rw [hp, mulI_ok (by have := Int.natCast_mul c.Blocks.length p; omega) (by have := Int.natCast_mul c.Blocks.length p; omega), bind_s, ← Int.natCast_mul, lt_t hi, cond_t, Page_eq hc hp hp0 hb hi h1, bind_s]
    have hstep := foldG_take (nwg id) (sheetsOf c) ((0 : Int), UInt64.ofNat 0) (i := i) (by omega)
    have hg : (sheetsOf c)[i]'(by omega) = lookV q.1 q.2 := by
      have := List.getElem?_eq_getElem (l := sheetsOf c) (i := i) (by omega)
      rw [h2] at this; exact (Option.some.inj this).symm
    have hv := hinv i (by omega)
    dsimp only at hv
    rw [hstep, hg]
    generalize foldG (nwg id) 0 ((0 : Int), UInt64.ofNat 0) ((sheetsOf c).take i) = s at hv ⊢
    by_cases hkd : rk q.1 = 1
    · have e3 : (lookV q.1 q.2).kind = 3 := by rw [hk.1, if_neg (by omega), if_neg (by omega), if_pos hkd]
      obtain ⟨eid, egen⟩ := hk.2 hkd
      by_cases hid : (ReadV q.1).1.Id = id
      · rw [cond_false (by simp [hkd, hid])]
        have hupd : (s.1 = 0 ∧ nwg id i s (lookV q.1 q.2) = (((i + 1 : Nat) : Int), (lookV q.1 q.2).gen)) ∨ s.1 ≠ 0 := by
          by_cases h0 : s.1 = 0
          · left
            refine ⟨h0, ?_⟩
            rcases hv with ⟨-, hv⟩ | ⟨j, -, hv, -⟩
            · unfold nwg; rw [if_pos ⟨e3, by rw [eid, hid], by rw [hv]; exact UInt64.le_iff_toNat_le.2 (Nat.zero_le _)⟩]
            · omega
          · exact .inr h0
        rcases hupd with ⟨h0, hu⟩ | h0
        · rw [h0, cond_false (decide_eq_false (by omega)), bind_s, addI_1 (by omega), bind_s, hu]
          simp
        · rcases hv with ⟨hv, -⟩ | ⟨j, hj, hv, v, hv2, hv3, hv4⟩
          · exact absurd hv h0
          · obtain ⟨q2, k1, k2, k3, -⟩ := refPage_eq hc hp hp0 hb (show j < c.Blocks.length * p by omega)
            rw [hv2] at k2
            obtain rfl := Option.some.inj k2
            have hk2 := rk_look q2.1 q2.2
            have hrk2 : rk q2.1 = 1 := by
              rw [hk2.1] at hv3
              by_cases g0 : rk q2.1 = 0
              · rw [if_pos g0] at hv3; split at hv3 <;> omega
              · rw [if_neg g0] at hv3
                by_cases g2 : rk q2.1 = 2
                · rw [if_pos g2] at hv3; omega
                · rw [if_neg g2] at hv3
                  by_cases g1 : rk q2.1 = 1
                  · exact g1
                  · rw [if_neg g1] at hv3; omega
            obtain ⟨-, egen2⟩ := hk2.2 hrk2
            rw [cond_true (decide_eq_true (by omega)), hv, show ((j + 1 : Nat) : Int) - 1 = (j : Int) by omega, Page_eq hc hp hp0 hb (by omega) k1, bind_s]
            dsimp only
            rw [← egen, ← egen2, hv4]
            unfold nwg
            by_cases hlt : (lookV q.1 q.2).gen < s.2
            · rw [decide_eq_true hlt, cond_t, bind_s, addI_1 (by omega), bind_s, if_neg (fun h => UInt64.not_le.2 hlt h.2.2), hv]
              simp
            · rw [decide_eq_false hlt, cond_f, bind_s, addI_1 (by omega), bind_s, if_pos ⟨e3, by rw [eid, hid], UInt64.not_lt.1 hlt⟩]
              simp
      · rw [cond_true (by simp [hid]), bind_s, addI_1 (by omega), bind_s]
        unfold nwg
        rw [if_neg (fun h => hid (by rw [← eid]; exact h.2.1))]
    · rw [cond_true (by simp [hkd]), bind_s, addI_1 (by omega), bind_s]
      unfold nwg
      have : (lookV q.1 q.2).kind ≠ 3 := by
        rw [hk.1]
        by_cases g0 : rk q.1 = 0
        · rw [if_pos g0]; split <;> omega
        · rw [if_neg g0]
          by_cases g2 : rk q.1 = 2
          · rw [if_pos g2]; omega
          · rw [if_neg g2, if_neg hkd]; omega
      rw [if_neg (fun h => this h.1)]
  · unfold bywayref21_Newest_l1
    dsimp only
    rw [hp, mulI_ok (by have := Int.natCast_mul c.Blocks.length p; omega) (by have := Int.natCast_mul c.Blocks.length p; omega), bind_s, ← Int.natCast_mul, lt_f, cond_f, ← hsl, List.take_length]
    rfl
theorem rk_data (b : List UInt8) (u : Bool) : (lookV b u).kind = 3 ↔ rk b = 1 := by
  rw [(rk_look b u).1]
  by_cases g0 : rk b = 0
  · rw [if_pos g0]; split <;> omega
  · rw [if_neg g0]
    by_cases g2 : rk b = 2
    · rw [if_pos g2]; omega
    · rw [if_neg g2]
      by_cases g1 : rk b = 1
      · rw [if_pos g1]; omega
      · rw [if_neg g1]; omega
theorem refStale_eq {c : Chip} (hc : cRight c = true) {at0 : List Int} (ha : at0.length ≤ 1000000) : bywayref21_Stale c at0 = some (stl at0 0 (sheetsOf c)) := by
  obtain ⟨p, hp, hp0, hp16, hb, hlen, h512⟩ := pages_of hc
  have hsl : (sheetsOf c).length = c.Blocks.length * p := by unfold sheetsOf; rw [List.length_map, hlen]
  have hlen2 : ∀ i, i ≤ c.Blocks.length * p → (foldG (stg at0) 0 [] ((sheetsOf c).take i)).length ≤ i := by
    intro i
    induction i with
    | zero => intro _; exact Nat.le_refl _
    | succ i ih =>
      intro hi
      have ih := ih (by omega)
      rw [foldG_take _ _ _ (by omega)]
      generalize foldG (stg at0) 0 [] ((sheetsOf c).take i) = l at ih ⊢
      unfold stg
      split
      · rw [List.length_append, List.length_singleton]; omega
      · omega
  unfold bywayref21_Stale
  refine (bind_of (loopO_iter (f := fun s => bywayref21_Stale_l1 c at0 s.1 s.2) (fun i => ((i : Int), foldG (stg at0) 0 [] ((sheetsOf c).take i))) (c.Blocks.length * p) (e := stl at0 0 (sheetsOf c)) (by omega) (fun i hi => ?_) ?_ rfl)).trans rfl
  · obtain ⟨q, h1, h2, h3, -⟩ := refPage_eq hc hp hp0 hb hi
    have hg : (sheetsOf c)[i]'(by omega) = lookV q.1 q.2 := by
      have := List.getElem?_eq_getElem (l := sheetsOf c) (i := i) (by omega)
      rw [h2] at this; exact (Option.some.inj this).symm
    have hl2 := hlen2 i (by omega)
    unfold bywayref21_Stale_l1
    dsimp only
    rw [hp, mulI_ok (by have := Int.natCast_mul c.Blocks.length p; omega) (by have := Int.natCast_mul c.Blocks.length p; omega), bind_s, ← Int.natCast_mul, lt_t hi, cond_t, Page_eq hc hp hp0 hb hi h1, bind_s, foldG_take (stg at0) (sheetsOf c) [] (by omega), hg]
    generalize foldG (stg at0) 0 [] ((sheetsOf c).take i) = l at hl2 ⊢
    dsimp only
    unfold stg
    have a1 : addI (i : Int) 1 = some ((i + 1 : Nat) : Int) := addI_1 (by omega)
    by_cases hkd : rk q.1 = 1
    · have a2 : room 8 ((l.length + [((i + 1 : Nat) : Int)].length : Nat) : Int) = some () := room_ok (by omega) (by simp only [List.length_singleton]; omega) (by simp only [List.length_singleton]; omega)
      by_cases hm : ((i + 1 : Nat) : Int) ∈ at0
      · rw [if_neg (fun h => h.2 hm)]
        simp only [decide_eq_true hkd, gb_true, a1, bind_s, has_eq8 _ ha, decide_eq_true hm, Bool.not_true, Bool.and_false, cond_f]
      · rw [if_pos ⟨(rk_data _ _).2 hkd, hm⟩]
        simp only [decide_eq_true hkd, gb_true, a1, bind_s, has_eq8 _ ha, decide_eq_false hm, Bool.not_false, Bool.and_true, cond_t, a2]
    · rw [if_neg (fun h => hkd ((rk_data _ _).1 h.1))]
      simp only [decide_eq_false hkd, gb_false, a1, bind_s, Bool.false_and, cond_f]
  · unfold bywayref21_Stale_l1
    dsimp only
    rw [hp, mulI_ok (by have := Int.natCast_mul c.Blocks.length p; omega) (by have := Int.natCast_mul c.Blocks.length p; omega), bind_s, ← Int.natCast_mul, lt_f, cond_f, ← hsl, List.take_length, stg_fold, List.nil_append]
end Go.Proofs.Ytefmfhbkihplgaa.Tr
namespace Go.Proofs.Ytefmfhbkihplgaa.Tr
open Go
set_option maxHeartbeats 1000000
theorem tally_le (l : List image_sheet) : 0 ≤ (tallyOf l).Blank ∧ (tallyOf l).Blank ≤ l.length ∧ 0 ≤ (tallyOf l).Data ∧ (tallyOf l).Data ≤ l.length ∧ 0 ≤ (tallyOf l).Roots ∧ (tallyOf l).Roots ≤ l.length ∧ 0 ≤ (tallyOf l).Torn ∧ (tallyOf l).Torn ≤ l.length ∧ 0 ≤ (tallyOf l).Lost ∧ (tallyOf l).Lost ≤ l.length := by
  unfold tallyOf
  dsimp only
  have h (f : image_sheet → Bool) : l.countP f ≤ l.length := List.countP_le_length
  have h0 := h fun v => decide (v.kind = 0)
  have h1 := h fun v => decide (v.kind = 3)
  have h2 := h fun v => decide (v.kind = 2)
  have h3 := h fun v => !decide (v.kind = 0) && !decide (v.kind = 1) && !decide (v.kind = 2) && !decide (v.kind = 3)
  have h4 := h fun v => decide (v.kind = 1)
  omega
theorem tally_take (l : List image_sheet) {i : Nat} (h : i < l.length) : tallyOf (l.take (i + 1)) = tstep (tallyOf (l.take i)) l[i] := by
  rw [List.take_succ_eq_append_getElem h, tally_snoc]
theorem divp {p n k : Nat} (hp : 0 < p) (hk : k < p) : (n * p + k) / p = n ∧ (n * p + k) % p = k := by
  constructor
  · rw [Nat.mul_comm, Nat.mul_add_div hp, Nat.div_eq_of_lt hk, Nat.add_zero]
  · rw [Nat.mul_comm, Nat.mul_add_mod, Nat.mod_eq_of_lt hk]
theorem refCount_eq {c : Chip} (hc : cRight c = true) : bywayref21_Count c = some (tallyOf (sheetsOf c)) := by
  obtain ⟨p, hp, hp0, hp16, hb, hlen, h512⟩ := pages_of hc
  have hsl : (sheetsOf c).length = c.Blocks.length * p := by unfold sheetsOf; rw [List.length_map, hlen]
  have hbl : c.Blocks.length ≤ 512 := Nat.le_trans (by have := Nat.mul_le_mul (Nat.le_refl c.Blocks.length) hp0; omega) h512
  unfold bywayref21_Count
  refine (bind_of (loopO_iter (f := fun s => bywayref21_Count_l1 c s.1 s.2) (fun n => ((n : Int), tallyOf ((sheetsOf c).take (n * p)))) c.Blocks.length (e := tallyOf (sheetsOf c)) (by omega) (fun n hn => ?_) ?_ ?_)).trans rfl
  · have hnp : n * p + p ≤ c.Blocks.length * p := by rw [← Nat.succ_mul]; exact Nat.mul_le_mul_right p hn
    unfold bywayref21_Count_l1
    dsimp only
    rw [lt_t hn, cond_t]
    refine (bind_of (loopO_iter (f := fun s => bywayref21_Count_l2 c n s.1 s.2) (fun k => ((k : Int), tallyOf ((sheetsOf c).take (n * p + k)))) p (e := tallyOf ((sheetsOf c).take ((n + 1) * p))) (by omega) (fun k hk => ?_) ?_ rfl)).trans (by rw [addI_1 (by omega), bind_s])
    · obtain ⟨d1, d2⟩ := divp (n := n) hp0 hk
      obtain ⟨q, h1, h2, h3, g1, g2, hq⟩ := refPage_eq hc hp hp0 hb (i := n * p + k) (by omega)
      have hg : (sheetsOf c)[n * p + k]'(by omega) = lookV q.1 q.2 := by
        have := List.getElem?_eq_getElem (l := sheetsOf c) (i := n * p + k) (by omega)
        rw [h2] at this; exact (Option.some.inj this).symm
      unfold bywayref21_Count_l2
      dsimp only
      have hk1 : k < c.Blocks[n].Pages.length := by rw [hb _ (List.getElem_mem hn)]; exact hk
      have hq1 : q.1 = c.Blocks[n].Pages[k] := by rw [hq]; dsimp only; simp only [d1, d2]
      have hq2 : q.2 = decide ((k : Int) < c.Blocks[n].Used) := by rw [hq]; dsimp only; simp only [d1, d2]
      have htl := tally_le ((sheetsOf c).take (n * p + k))
      rw [List.length_take, Nat.min_eq_left (by omega)] at htl
      rw [hp, lt_t hk, cond_t, idx_nat hn, bind_s, idx_nat hk1, bind_s, ← hq1, kind_eq _ h3, bind_s, Nat.add_assoc _ k 1 |>.symm, tally_take _ (by omega), hg]
      generalize tallyOf ((sheetsOf c).take (n * p + k)) = t at htl ⊢
      have hlk := (rk_look q.1 q.2).1
      unfold tstep
      rw [hlk, hq2]
      have a1 : addI (k : Int) 1 = some ((k + 1 : Nat) : Int) := addI_1 (by omega)
      have b1 : addI t.Blank 1 = some (t.Blank + 1) := addI_ok (by omega) (by omega)
      have b2 : addI t.Data 1 = some (t.Data + 1) := addI_ok (by omega) (by omega)
      have b3 : addI t.Roots 1 = some (t.Roots + 1) := addI_ok (by omega) (by omega)
      have b4 : addI t.Torn 1 = some (t.Torn + 1) := addI_ok (by omega) (by omega)
      have b5 : addI t.Lost 1 = some (t.Lost + 1) := addI_ok (by omega) (by omega)
      have e00 : decide ((0 : Int) = 0) = true := rfl
      by_cases k0 : rk q.1 = 0
      · by_cases hu : (k : Int) < c.Blocks[n].Used
        · simp only [k0, hu, e00, cond_t, bind_s, b5, a1, if_true, if_false, decide_true]; rfl
        · simp only [k0, hu, e00, cond_t, cond_f, bind_s, b1, a1, if_true, if_false, decide_false]; rfl
      · by_cases k1 : rk q.1 = 1
        · simp only [k1, b2, a1, bind_s]; rfl
        · by_cases k2 : rk q.1 = 2
          · simp only [k2, b3, a1, bind_s]; rfl
          · simp only [k0, k1, k2, decide_false, cond_f, b4, a1, bind_s, if_false]; rfl
    · unfold bywayref21_Count_l2
      dsimp only
      rw [hp, lt_f, cond_f, Nat.succ_mul]
  · unfold bywayref21_Count_l1
    dsimp only
    rw [lt_f, cond_f, ← hsl, List.take_length]
  · rw [Nat.zero_mul, List.take_zero]; rfl
theorem rk_cases (b : List UInt8) : rk b = 0 ∨ rk b = 1 ∨ rk b = 2 ∨ rk b = 3 := by
  unfold rk
  split
  · exact .inl rfl
  · split
    · exact .inr (.inr (.inl rfl))
    · split
      · exact .inr (.inl rfl)
      · exact .inr (.inr (.inr rfl))
theorem refSound_eq {c : Chip} (hc : cRight c = true) : bywayref21_Sound c = some (soundB c) := by
  obtain ⟨p, hp, hp0, hp16, hb, hlen, h512⟩ := pages_of hc
  have hbl : c.Blocks.length ≤ 512 := Nat.le_trans (by have := Nat.mul_le_mul (Nat.le_refl c.Blocks.length) hp0; omega) h512
  obtain ⟨-, -, -, -, -, h6, -, -, -, h10⟩ := cRight_spec hc
  unfold bywayref21_Sound
  rw [loopO_all (f := fun s => bywayref21_Sound_l1 c s) c.Blocks (fun b => (blockPages b).all fun q => !badP q) (by omega) (fun n hn => ?_) (by unfold bywayref21_Sound_l1; rw [lt_f, cond_f]), bind_s]
  · have : (c.Blocks.all fun b => (blockPages b).all fun q => !badP q) = soundB c := by
      unfold soundB allPages; rw [List.all_flatMap]
    rw [this]
    cases soundB c
    · rw [if_neg (by decide), elS_inr]
    · rw [if_pos rfl, elS_inl]
  · have hbn := hb _ (List.getElem_mem hn)
    unfold bywayref21_Sound_l1
    rw [lt_t hn, cond_t, loopO_all (f := fun s => bywayref21_Sound_l2 c n s) (blockPages c.Blocks[n]) (fun q => !badP q) (by rw [blockPages_length]; omega) (fun k hk => ?_) (by unfold bywayref21_Sound_l2; rw [blockPages_length, hbn, hp, lt_f, cond_f]), bind_s]
    · cases (blockPages c.Blocks[n]).all fun q => !badP q
      · rw [if_neg (by decide), elS_inr, if_neg (by decide)]
      · rw [if_pos rfl, elS_inl, addI_1 (by omega), bind_s, if_pos rfl]
    · rw [blockPages_length] at hk
      have hq : (blockPages c.Blocks[n])[k]'(by rw [blockPages_length]; exact hk) = (c.Blocks[n].Pages[k], decide ((k : Int) < c.Blocks[n].Used)) := by simp [blockPages]
      have h3 := (h10 _ (List.getElem_mem hn)).2.2.2.2.2 _ (List.getElem_mem hk)
      rw [hq]
      unfold bywayref21_Sound_l2 badP
      dsimp only
      rw [hp, lt_t (by omega), cond_t, idx_nat hn, bind_s, idx_nat hk, bind_s, kind_eq _ (by omega), bind_s, (rk_look _ _).1]
      have hr := rk_cases c.Blocks[n].Pages[k]
      generalize rk c.Blocks[n].Pages[k] = r at hr ⊢
      have a1 : addI (k : Int) 1 = some ((k + 1 : Nat) : Int) := addI_1 (by omega)
      by_cases hu : (k : Int) < c.Blocks[n].Used
      · have hu2 : ¬ (c.Blocks[n].Used ≤ (k : Int)) := by omega
        by_cases r0 : r = 0
        · subst r0; simp [gb_true, bind_s, hu, hu2]
        · by_cases r3 : r = 3
          · subst r3; simp [gb_false, bind_s]
          · by_cases r2 : r = 2
            · subst r2; simp [gb_true, bind_s, hu, hu2, a1]
            · by_cases r1 : r = 1
              · subst r1; simp [gb_true, bind_s, hu, hu2, a1]
              · omega
      · have hu2 : (k : Int) ≥ c.Blocks[n].Used := by omega
        by_cases r0 : r = 0
        · subst r0; simp [gb_true, bind_s, hu, hu2, a1]
        · by_cases r3 : r = 3
          · subst r3; simp [gb_false, bind_s]
          · have h4 : (if r = 2 then (2 : Int) else if r = 1 then 3 else 4) ≠ 0 := by split; omega; split <;> omega
            simp [r0, r3, gb_true, bind_s, hu, hu2, h4]
end Go.Proofs.Ytefmfhbkihplgaa.Tr
namespace Go.Proofs.Ytefmfhbkihplgaa.Tr
open Go
set_option maxHeartbeats 1000000
theorem rroot_blank {b : List UInt8} (h : (RReadV b).2 = 0) : ¬ ∀ x ∈ b, x = 255 := fun hb => by
  unfold RReadV at h
  by_cases h1 : (ReadV b).2 ≠ 0
  · rw [if_pos h1] at h; exact h1 h
  · rw [if_neg h1] at h
    have h2 : (ReadV b).1.Kind = 0 := by
      unfold ReadV
      split
      · rfl
      · rfl
    rw [if_pos h2] at h
    exact absurd h (by decide)
theorem look_root (b : List UInt8) (u : Bool) : (lookV b u).kind = 2 ↔ (RReadV b).2 = 0 := by
  unfold lookV
  by_cases h : ∀ x ∈ b, x = 255
  · rw [if_pos h]
    have : (RReadV b).2 ≠ 0 := fun h2 => rroot_blank h2 h
    cases u <;> simp [this]
  · rw [if_neg h]
    by_cases h2 : (RReadV b).2 = 0
    · rw [if_pos h2]; simp [h2]
    · rw [if_neg h2]
      split
      · simp [h2]
      · simp [h2]
theorem look_gen {b : List UInt8} (u : Bool) (h : (RReadV b).2 = 0) : (lookV b u).gen = (RReadV b).1.Gen := by
  unfold lookV
  rw [if_neg (rroot_blank h), if_pos h]
theorem gens_take (l : List image_sheet) {i : Nat} (h : i < l.length) : gensOf (l.take (i + 1)) = gensOf (l.take i) ++ (if l[i].kind = 2 then [l[i].gen] else []) := by
  rw [List.take_succ_eq_append_getElem h]
  unfold gensOf
  rw [List.filter_append, List.map_append]
  congr 1
  by_cases h2 : l[i].kind = 2
  · rw [if_pos h2]; simp [h2]
  · rw [if_neg h2]; simp [h2]
theorem sorted_same {α : Type} {lt : α → α → Prop} (irr : ∀ x, ¬ lt x x) (asym : ∀ x y, lt x y → ¬ lt y x) : ∀ {l m : List α}, l.Pairwise lt → m.Pairwise lt → (∀ x, x ∈ l ↔ x ∈ m) → l = m
  | [], [], _, _, _ => rfl
  | [], y :: m, _, _, h => absurd ((h y).2 (List.mem_cons_self ..)) (by simp)
  | x :: l, [], _, _, h => absurd ((h x).1 (List.mem_cons_self ..)) (by simp)
  | x :: l, y :: m, h1, h2, h => by
    rw [List.pairwise_cons] at h1 h2
    have e : x = y := by
      rcases List.mem_cons.1 ((h x).1 (List.mem_cons_self ..)) with e | hx
      · exact e
      · rcases List.mem_cons.1 ((h y).2 (List.mem_cons_self ..)) with e | hy
        · exact e.symm
        · exact absurd (h2.1 x hx) (asym _ _ (h1.1 y hy))
    subst e
    congr 1
    refine sorted_same irr asym h1.2 h2.2 fun z => ⟨fun hz => ?_, fun hz => ?_⟩
    · rcases List.mem_cons.1 ((h z).1 (List.mem_cons_of_mem _ hz)) with rfl | h3
      · exact absurd (h1.1 _ hz) (irr _)
      · exact h3
    · rcases List.mem_cons.1 ((h z).2 (List.mem_cons_of_mem _ hz)) with rfl | h3
      · exact absurd (h2.1 _ hz) (irr _)
      · exact h3
def beyond (out : List UInt64) (x : UInt64) : Prop := ∀ y ∈ out, y < x
theorem beyond_last {out : List UInt64} (hs : out.Pairwise (fun x y => x < y)) (h : out ≠ []) (x : UInt64) : beyond out x ↔ out.getLast h < x := by
  constructor
  · intro hb; exact hb _ (List.getLast_mem h)
  · intro hb y hy
    obtain ⟨ys, e⟩ : ∃ ys, out = ys ++ [out.getLast h] := ⟨out.dropLast, (List.dropLast_concat_getLast h).symm⟩
    rw [e] at hy hs
    rcases List.mem_append.1 hy with hy | hy
    · exact UInt64.lt_trans ((List.pairwise_append.1 hs).2.2 y hy _ (List.mem_singleton_self _)) hb
    · rw [List.mem_singleton.1 hy]; exact hb
theorem refGens_l2 {c : Chip} (hc : cRight c = true) {out : List UInt64} (hs : out.Pairwise (fun x y => x < y)) (hl : out.length ≤ 100000) :
    Gets (loopO (fun s => bywayref21_Gens_l2 c out s.1 s.2.1 s.2.2) (false, (UInt64.ofNat 0), (0 : Int))) (fun o => (o.1 = true ∧ o.2 ∈ gensOf (sheetsOf c) ∧ beyond out o.2 ∧ ∀ x ∈ gensOf (sheetsOf c), beyond out x → o.2 ≤ x) ∨ (o.1 = false ∧ ∀ x ∈ gensOf (sheetsOf c), ¬ beyond out x)) := by
  obtain ⟨p, hp, hp0, hp16, hb, hlen, h512⟩ := pages_of hc
  have hsl : (sheetsOf c).length = c.Blocks.length * p := by unfold sheetsOf; rw [List.length_map, hlen]
  refine Gets.loop (fun s => ∃ i : Nat, s.2.2 = (i : Int) ∧ i ≤ c.Blocks.length * p ∧ ((s.1 = true ∧ s.2.1 ∈ gensOf ((sheetsOf c).take i) ∧ beyond out s.2.1 ∧ ∀ x ∈ gensOf ((sheetsOf c).take i), beyond out x → s.2.1 ≤ x) ∨ (s.1 = false ∧ ∀ x ∈ gensOf ((sheetsOf c).take i), ¬ beyond out x))) (fun s => c.Blocks.length * p - s.2.2.toNat) ?_ ⟨0, rfl, Nat.zero_le _, .inr ⟨rfl, by simp [gensOf]⟩⟩ (by dsimp only; omega)
  rintro ⟨f, g, n⟩ ⟨i, e1, hi, hh⟩
  dsimp only at e1 hh ⊢
  subst e1
  unfold bywayref21_Gens_l2
  rw [hp, mulI_ok (by have := Int.natCast_mul c.Blocks.length p; omega) (by have := Int.natCast_mul c.Blocks.length p; omega), bind_s, ← Int.natCast_mul]
  rcases Nat.lt_or_ge i (c.Blocks.length * p) with hlt | hge
  · obtain ⟨q, h1, h2, h3, g1, g2, hq⟩ := refPage_eq hc hp hp0 hb hlt
    have hg : (sheetsOf c)[i]'(by omega) = lookV q.1 q.2 := by
      have := List.getElem?_eq_getElem (l := sheetsOf c) (i := i) (by omega)
      rw [h2] at this; exact (Option.some.inj this).symm
    have hq1 : c.Blocks[i / p].Pages[i % p] = q.1 := by rw [hq]
    have hgt := gens_take (sheetsOf c) (i := i) (by omega)
    rw [hg] at hgt
    have e4 : gb ((decide ((RReadV q.1).2 = (0 : Int))) && (!(decide ((out.length : Int) = (0 : Int))))) (subI (out.length : Int) (1 : Int)) = some (bif ((decide ((RReadV q.1).2 = (0 : Int))) && (!(decide ((out.length : Int) = (0 : Int))))) then (out.length : Int) - 1 else default) := gb_of fun _ => subI_ok (by omega) (by omega)
    have e5 : ∃ u, gb ((decide ((RReadV q.1).2 = (0 : Int))) && (!(decide ((out.length : Int) = (0 : Int))))) (idx out (bif ((decide ((RReadV q.1).2 = (0 : Int))) && (!(decide ((out.length : Int) = (0 : Int))))) then (out.length : Int) - 1 else default)) = some u ∧ ((RReadV q.1).2 = 0 → (((decide ((out.length : Int) = (0 : Int))) || (decide (u < (RReadV q.1).1.Gen))) = true ↔ beyond out (RReadV q.1).1.Gen)) := by
      by_cases hr : (RReadV q.1).2 = 0
      · by_cases ho : out = []
        · subst ho
          refine ⟨default, by simp [gb_false], fun _ => ?_⟩
          simp [beyond]
        · have hl0 : 0 < out.length := List.length_pos_iff.2 ho
          refine ⟨out.getLast ho, ?_, fun _ => ?_⟩
          · rw [show ((decide ((RReadV q.1).2 = (0 : Int))) && (!(decide ((out.length : Int) = (0 : Int))))) = true by rw [decide_eq_true hr, decide_eq_false (by omega)]; rfl, gb_true, cond_t, show (out.length : Int) - 1 = ((out.length - 1 : Nat) : Int) by omega, idx_nat (by omega), List.getLast_eq_getElem]
          · rw [decide_eq_false (show ¬ (out.length : Int) = 0 by omega), Bool.false_or, decide_eq_true_eq, beyond_last hs ho]
      · exact ⟨default, by rw [decide_eq_false hr, Bool.false_and, gb_false], fun h => absurd h hr⟩
    obtain ⟨u, e5, e6⟩ := e5
    rw [lt_t hlt, cond_t, quoI_nat hp0, bind_s, idx_nat g1, bind_s, remI_nat hp0, bind_s, idx_nat g2, bind_s, hq1, ref10_Read_eq _ h3, bind_s, e4, bind_s, e5, bind_s]
    have a1 : addI (i : Int) 1 = some ((i + 1 : Nat) : Int) := addI_1 (by omega)
    by_cases hr : (RReadV q.1).2 = 0
    · have e6 := e6 hr
      have hin : gensOf ((sheetsOf c).take (i + 1)) = gensOf ((sheetsOf c).take i) ++ [(RReadV q.1).1.Gen] := by rw [hgt, if_pos ((look_root _ _).2 hr), look_gen _ hr]
      by_cases hby : beyond out (RReadV q.1).1.Gen
      · rw [decide_eq_true hr, e6.2 hby, Bool.true_and, Bool.true_and]
        by_cases hnew : f = false ∨ (RReadV q.1).1.Gen < g
        · rw [show ((!f) || decide ((RReadV q.1).1.Gen < g)) = true by rcases hnew with h | h <;> simp [h], cond_t, bind_s, el2_at, a1, bind_s]
          refine Gets.l ⟨i + 1, rfl, hlt, .inl ⟨rfl, by rw [hin]; simp, hby, fun x hx hbx => ?_⟩⟩ (by dsimp only; omega)
          dsimp only at hx ⊢
          rw [hin, List.mem_append, List.mem_singleton] at hx
          rcases hx with hx | rfl
          · rcases hh with ⟨hf, -, -, hm⟩ | ⟨hf, hm⟩
            · rcases hnew with h | h
              · rw [hf] at h; cases h
              · exact UInt64.le_of_lt (UInt64.lt_of_lt_of_le h (hm x hx hbx))
            · exact absurd hbx (hm x hx)
          · exact UInt64.le_refl _
        · have hnew' : f = true ∧ ¬ (RReadV q.1).1.Gen < g := by
            cases f
            · exact absurd (.inl rfl) hnew
            · exact ⟨rfl, fun h => hnew (.inr h)⟩
          rw [show ((!f) || decide ((RReadV q.1).1.Gen < g)) = false by simp [hnew'.1, hnew'.2], cond_f, bind_s, el2_at, a1, bind_s]
          rcases hh with ⟨hf, hm1, hm2, hm⟩ | ⟨hf, hm⟩
          · refine Gets.l ⟨i + 1, rfl, hlt, .inl ⟨hf, by rw [hin]; simp [hm1], hm2, fun x hx hbx => ?_⟩⟩ (by dsimp only; omega)
            dsimp only at hx ⊢
            rw [hin, List.mem_append, List.mem_singleton] at hx
            rcases hx with hx | rfl
            · exact hm x hx hbx
            · exact UInt64.not_lt.1 hnew'.2
          · rw [hnew'.1] at hf; cases hf
      · rw [show ((decide ((out.length : Int) = (0 : Int))) || (decide (u < (RReadV q.1).1.Gen))) = false by
          cases h : ((decide ((out.length : Int) = (0 : Int))) || (decide (u < (RReadV q.1).1.Gen))) with
          | false => rfl
          | true => exact absurd (e6.1 h) hby, Bool.and_false, Bool.false_and, cond_f, bind_s, el2_at, a1, bind_s]
        refine Gets.l ⟨i + 1, rfl, hlt, ?_⟩ (by dsimp only; omega)
        dsimp only
        rw [hin]
        rcases hh with ⟨hf, hm1, hm2, hm⟩ | ⟨hf, hm⟩
        · refine .inl ⟨hf, by simp [hm1], hm2, fun x hx hbx => ?_⟩
          rw [List.mem_append, List.mem_singleton] at hx
          rcases hx with hx | rfl
          · exact hm x hx hbx
          · exact absurd hbx hby
        · refine .inr ⟨hf, fun x hx => ?_⟩
          rw [List.mem_append, List.mem_singleton] at hx
          rcases hx with hx | rfl
          · exact hm x hx
          · exact hby
    · rw [decide_eq_false hr, Bool.false_and, Bool.false_and, cond_f, bind_s, el2_at, a1, bind_s]
      have hin : gensOf ((sheetsOf c).take (i + 1)) = gensOf ((sheetsOf c).take i) := by rw [hgt, if_neg (fun h => hr ((look_root _ _).1 h)), List.append_nil]
      exact Gets.l ⟨i + 1, rfl, hlt, by dsimp only; rw [hin]; exact hh⟩ (by dsimp only; omega)
  · obtain rfl : i = c.Blocks.length * p := by omega
    rw [lt_f, cond_f]
    rw [← hsl, List.take_length] at hh
    exact Gets.r hh
theorem refGens_get {c : Chip} (hc : cRight c = true) : Gets (bywayref21_Gens c) (fun l => l.Pairwise (fun x y => x < y) ∧ ∀ x, x ∈ l ↔ x ∈ gensOf (sheetsOf c)) := by
  have hg : (gensOf (sheetsOf c)).length ≤ 512 := by rw [gensOf_length]; exact Nat.le_trans List.countP_le_length (sheets_count hc)
  unfold bywayref21_Gens
  refine Gets.loop (fun out => out.Pairwise (fun x y => x < y) ∧ (∀ x ∈ out, x ∈ gensOf (sheetsOf c)) ∧ (∀ x ∈ gensOf (sheetsOf c), x ∈ out ∨ beyond out x) ∧ out.length + ((gensOf (sheetsOf c)).filter fun x => decide (x ∉ out)).length ≤ 512) (fun out => ((gensOf (sheetsOf c)).filter fun x => decide (x ∉ out)).length) ?_ ⟨List.Pairwise.nil, by simp, fun x _ => .inr (by simp [beyond]), by rw [List.length_nil, Nat.zero_add]; exact Nat.le_trans (List.length_filter_le ..) hg⟩ (by have := List.length_filter_le (fun x => decide (x ∉ ([] : List UInt64))) (gensOf (sheetsOf c)); omega)
  rintro out ⟨h1, h2, h3, h4⟩
  unfold bywayref21_Gens_l1
  refine Gets.b (refGens_l2 hc h1 (by omega)) ?_
  rintro ⟨f, g⟩ ho
  rw [el2_at]
  dsimp only at ho
  rcases ho with ⟨rfl, k1, k2, k3⟩ | ⟨rfl, k1⟩
  · have hnot : g ∉ out := fun h => absurd (k2 g h) (UInt64.lt_irrefl _)
    have hless : ((gensOf (sheetsOf c)).filter fun x => decide (x ∉ out ++ [g])).length < ((gensOf (sheetsOf c)).filter fun x => decide (x ∉ out)).length := by
      rw [← List.countP_eq_length_filter, ← List.countP_eq_length_filter]
      generalize gensOf (sheetsOf c) = l at k1
      induction l with
      | nil => cases k1
      | cons y l ih =>
        have hle : l.countP (fun x => decide (x ∉ out ++ [g])) ≤ l.countP (fun x => decide (x ∉ out)) := List.countP_mono_left fun x _ hx => by
          simp only [decide_eq_true_eq] at hx ⊢
          exact fun h => hx (List.mem_append_left _ h)
        rw [List.countP_cons, List.countP_cons]
        rcases List.mem_cons.1 k1 with rfl | k1
        · rw [if_neg (by simp), if_pos (by simpa using hnot)]; omega
        · have ih := ih k1
          by_cases hy : y ∉ out ++ [g]
          · have hy2 : y ∉ out := fun h => hy (List.mem_append_left _ h)
            rw [if_pos (decide_eq_true hy), if_pos (decide_eq_true hy2)]; omega
          · rw [if_neg (by simpa using hy)]; split <;> omega
    rw [Bool.not_true, cond_f, room_ok (by omega) (by simp only [List.length_singleton]; omega) (by simp only [List.length_singleton]; omega), bind_s, bind_s]
    refine Gets.l ⟨?_, ?_, ?_, ?_⟩ hless
    · rw [List.pairwise_append]
      exact ⟨h1, List.pairwise_singleton .., fun x hx y hy => by rw [List.mem_singleton.1 hy]; exact k2 x hx⟩
    · intro x hx
      rcases List.mem_append.1 hx with hx | hx
      · exact h2 x hx
      · rw [List.mem_singleton.1 hx]; exact k1
    · intro x hx
      rcases h3 x hx with h | h
      · exact .inl (List.mem_append_left _ h)
      · by_cases e : x = g
        · exact .inl (by rw [e]; simp)
        · right
          intro y hy
          rcases List.mem_append.1 hy with hy | hy
          · exact h y hy
          · rw [List.mem_singleton.1 hy]
            rcases UInt64.lt_or_eq_of_le (k3 x hx h) with h5 | h5
            · exact h5
            · exact absurd h5.symm e
    · rw [List.length_append, List.length_singleton]; omega
  · rw [Bool.not_false, cond_t]
    refine Gets.r ⟨h1, fun x => ⟨h2 x, fun hx => (h3 x hx).resolve_right (k1 x hx)⟩⟩
theorem imageRight_plain (c0 : Chip) (id0 : Int) (at0 : List Int) : bywaylaw21_ImageRight c0 id0 at0 = some true := by
  unfold bywaylaw21_ImageRight
  obtain ⟨r, hr⟩ := refShort_some c0
  rw [image_awake_eq2, bind_s, Bool.not_true, cond_f, hr, bind_s]
  cases hra : ((!r) || (decide ((at0.length : Int) > (100 : Int)))) with
  | true => rw [cond_t]
  | false =>
  rw [cond_f]
  have ha : at0.length ≤ 100 := by
    simp only [Bool.or_eq_false_iff, decide_eq_false_iff_not] at hra; omega
  cases hc : cRight c0 with
  | false =>
    have e1 : image_Count c0 = some (⟨0, 0, 0, 0, 0⟩, 1) := by unfold image_Count; rw [chip_Right_eq, bind_s, hc, Bool.not_false, cond_t, bind_s]
    have e2 : image_Newest c0 id0 = some (0, 1) := by unfold image_Newest; rw [chip_Right_eq, bind_s, hc, Bool.not_false, cond_t]
    have e3 : image_Stale c0 at0 = some [] := by unfold image_Stale; rw [chip_Right_eq, bind_s, hc, Bool.not_false, cond_t]
    have e4 : image_Gens c0 = some [] := by unfold image_Gens; rw [chip_Right_eq, bind_s, hc, Bool.not_false, cond_t]
    have e5 : image_Sound c0 = some false := by unfold image_Sound; rw [chip_Right_eq, bind_s, hc, Bool.not_false, cond_t]
    rw [e1, bind_s, e2, bind_s, e3, bind_s, e4, bind_s, e5, bind_s, refRight_eq, bind_s, hc, Bool.not_false, cond_t]
    rfl
  | true =>
    obtain ⟨g, eg, hg⟩ := gens_get hc
    obtain ⟨g2, eg2, hg2⟩ := refGens_get hc
    have hgg : g = g2 := sorted_same UInt64.lt_irrefl (fun x y h => UInt64.lt_asymm h) hg.1 hg2.1 fun x => (hg.2.1 x).trans (hg2.2 x).symm
    have hgl : g.length ≤ 512 := Nat.le_trans hg.2.2 (by rw [gensOf_length]; exact Nat.le_trans List.countP_le_length (sheets_count hc))
    have hsl : (stl at0 0 (sheetsOf c0)).length ≤ 512 := by
      have : ∀ (l : List image_sheet) (n : Nat), (stl at0 n l).length ≤ l.length := by
        intro l
        induction l with
        | nil => intro n; exact Nat.le_refl _
        | cons v l ih =>
          intro n; rw [stl]
          have := ih (n + 1)
          split <;> simp only [List.length_cons] <;> omega
      exact Nat.le_trans (this _ _) (sheets_count hc)
    subst hgg
    rw [count_eq hc, bind_s, newest_eq hc, bind_s, stale_eq hc (by omega), bind_s, eg, bind_s, sound_eq hc, bind_s, refRight_eq, bind_s, hc, Bool.not_true, cond_f, refNewest_eq hc, bind_s, eg2, bind_s, cond_false (by simp)]
    rw [loopO_all (f := fun s => bywaylaw21_ImageRight_l1 g g s) g (fun _ => true) (by omega) (fun i hi => ?_) (by unfold bywaylaw21_ImageRight_l1; rw [lt_f, cond_f]), bind_s, if_pos (by simp), elS_inl]
    · have e1 : decide ((0 : Int) = 0) = true := rfl
      simp only [e1, decide_true, Bool.true_and, gb_true, refCount_eq hc, bind_s, refStale_eq hc (show at0.length ≤ 1000000 by omega), ints_eq _ _ (show (stl at0 0 (sheetsOf c0)).length ≤ 1000000000000000 by omega), refSound_eq hc]
    · unfold bywaylaw21_ImageRight_l1
      rw [lt_t hi, cond_t, idx_nat hi, bind_s, bind_s, cond_false (by simp), addI_1 (by omega), bind_s, if_pos rfl]
end Go.Proofs.Ytefmfhbkihplgaa.Tr
namespace Go.Proofs.Ytefmfhbkihplgaa.Tr
open Go Go.RowKit Go.ChangeShapes Go.WideShapes Go.ChangeAt
set_option synthInstance.maxHeartbeats 400000
set_option synthInstance.maxSize 4096
theorem law_own : ownKnob Try.prog.godebug = none := by kernel_rfl
theorem law_laid : laidOutB Try.prog = true := by kernel_rfl
instance : TOpen Try.prog 3 Int inferInstance := topen_i64 (by kernel_rfl)
instance : TOpen Try.prog 5 UInt8 inferInstance := topen_u8 (by kernel_rfl)
instance : TOpen Try.prog 42 (List UInt8) inferInstance := topen_list (e := 5) (by kernel_rfl) (by kernel_rfl) (by decide +kernel)
instance : TOpen Try.prog 38 (List (List UInt8)) inferInstance := topen_list (e := 42) (by kernel_rfl) (by kernel_rfl) (by decide +kernel)
instance : TOpen Try.prog 4 Bool inferInstance := topen_bool (by kernel_rfl)
instance : TOpen Try.prog 40 Block inferInstance := topen_struct (i := Block_dat) Block_to Block_of (fun _ => rfl) rfl Try.underlying40 rfl (by kernel_rfl) (topf_cons (o := 0) (inferInstance : TOpen Try.prog 38 (List (List UInt8)) inferInstance) (by kernel_rfl) (by rfl) (by rfl) (by rfl) (topf_cons (o := 1) (inferInstance : TOpen Try.prog 3 Int inferInstance) (by kernel_rfl) (by rfl) (by rfl) (by rfl) (topf_cons (o := 2) (inferInstance : TOpen Try.prog 3 Int inferInstance) (by kernel_rfl) (by rfl) (by rfl) (by rfl) (topf_one (inferInstance : TOpen Try.prog 4 Bool inferInstance) (by kernel_rfl) (by rfl) (by rfl)))))
instance : TOpen Try.prog 25 (List Block) inferInstance := topen_list (e := 40) (by kernel_rfl) (by kernel_rfl) (by decide +kernel)
instance : TOpen Try.prog 106 Fault inferInstance := topen_struct (i := Fault_dat) Fault_to Fault_of (fun _ => rfl) rfl Try.underlying106 rfl (by kernel_rfl) (topf_cons (o := 0) (inferInstance : TOpen Try.prog 3 Int inferInstance) (by kernel_rfl) (by rfl) (by rfl) (by rfl) (topf_cons (o := 1) (inferInstance : TOpen Try.prog 4 Bool inferInstance) (by kernel_rfl) (by rfl) (by rfl) (by rfl) (topf_cons (o := 2) (inferInstance : TOpen Try.prog 4 Bool inferInstance) (by kernel_rfl) (by rfl) (by rfl) (by rfl) (topf_one (inferInstance : TOpen Try.prog 5 UInt8 inferInstance) (by kernel_rfl) (by rfl) (by rfl)))))
instance : TOpen Try.prog 22 (List Fault) inferInstance := topen_list (e := 106) (by kernel_rfl) (by kernel_rfl) (by decide +kernel)
instance : TOpen Try.prog 27 Chip inferInstance := topen_struct (i := Chip_dat) Chip_to Chip_of (fun _ => rfl) rfl Try.underlying27 rfl (by kernel_rfl) (topf_cons (o := 0) (inferInstance : TOpen Try.prog 3 Int inferInstance) (by kernel_rfl) (by rfl) (by rfl) (by rfl) (topf_cons (o := 1) (inferInstance : TOpen Try.prog 3 Int inferInstance) (by kernel_rfl) (by rfl) (by rfl) (by rfl) (topf_cons (o := 2) (inferInstance : TOpen Try.prog 25 (List Block) inferInstance) (by kernel_rfl) (by rfl) (by rfl) (by rfl) (topf_cons (o := 3) (inferInstance : TOpen Try.prog 3 Int inferInstance) (by kernel_rfl) (by rfl) (by rfl) (by rfl) (topf_cons (o := 4) (inferInstance : TOpen Try.prog 4 Bool inferInstance) (by kernel_rfl) (by rfl) (by rfl) (by rfl) (topf_one (inferInstance : TOpen Try.prog 22 (List Fault) inferInstance) (by kernel_rfl) (by rfl) (by rfl)))))))
instance : TOpen Try.prog 70 (List Int) inferInstance := topen_list (e := 3) (by kernel_rfl) (by kernel_rfl) (by decide +kernel)
set_option maxRecDepth 100000 in
theorem imageRight_lifted (os : Os) (started : os.Started) (H : Type) (enc : TypeId × Value → H) :
    ReturnsInHanded {} Try.checked os 11 .any (Rows.imageRightSpec.pre6 enc Try.prog Try.f11 Rows.imageRightRow.domain false) (Rows.imageRightSpec.post enc Try.prog Try.f11 false true false false) := by
  refine returnsInHanded_of_change_sized (C := Try.checked) law_own started (by kernel_rfl) Try.func11
    (ChangeSpec.witness6 (enc := enc) (C := Try.checked) false ⟨#[], #[.agg #[.int .i64 0, .int .i64 0, .slice none 0 0, .int .i64 0, .bool false, .slice none 0 0], .int .i64 0, .slice none 0 0], []⟩ 8 (by kernel_rfl) (by kernel_rfl) (by kernel_rfl) (by kernel_rfl)) ?_
  intro W base args ds gs before hval0 hW hcnd hsz0 _
  have hval : ∀ (j : Nat) t v, Try.f11.params[j]? = some t → args[j]? = some v → Value.okWide Try.prog W .any base t v := hval0
  have hW' := hW
  obtain ⟨p, q, hA0, hV, rfl, hfz, hnd⟩ := hW
  have hA : DataW.TrodAll enc Try.prog W 0 (fun _ => true) true Try.f11.params.toList args.toList ds p := hA0
  have hsz : ∀ n ∈ DataW.weightsEach Try.prog Try.f11.params.toList ds, n ≤ reachBytes := fun n hn => by
    obtain ⟨rfl, -⟩ := trodVars_none hV
    have := List.all_eq_true.1 hsz0 n (by
      show n ∈ DataW.weightsEach Try.prog (Try.f11.params.toList ++ []) (ds ++ [])
      rw [List.append_nil, List.append_nil]; exact hn)
    simpa using this
  rw [Try.params11] at hA hval hsz
  obtain ⟨v0, vs0, d0, ds0, p0, q0, hargs, rfl, rfl, h0, r0⟩ := trodAll_cons hA
  obtain ⟨v1, vs1, d1, ds1, p1, q1, rfl, rfl, rfl, h1, r1⟩ := trodAll_cons r0
  obtain ⟨v2, vs2, d2, ds2, p2, q2, rfl, rfl, rfl, h2, r2⟩ := trodAll_cons r1
  obtain ⟨rfl, rfl, rfl⟩ := trodAll_nil r2
  obtain rfl : args = #[v0, v1, v2] := by cases args; simp_all
  obtain ⟨x0, y0⟩ := top_open h0 (hval 0 _ v0 rfl rfl) (fun n hn => hsz n (DataW.weights_mem_each (j := 0) rfl rfl n hn))
  obtain ⟨x1, y1⟩ := top_open h1 (hval 1 _ v1 rfl rfl) (fun n hn => hsz n (DataW.weights_mem_each (j := 1) rfl rfl n hn))
  obtain ⟨x2, y2⟩ := top_open h2 (hval 2 _ v2 rfl rfl) (fun n hn => hsz n (DataW.weights_mem_each (j := 2) rfl rfl n hn))
  refine (bywaylaw21_ImageRight_c W v0 v1 v2 (fun _ _ => trivial) y0 y1 y2 (imageRight_plain _ _ _)).mono fun e W1 h => ?_; refine law_post (tb := 4) law_laid (by kernel_rfl) (by kernel_rfl) rfl (by rw [Try.params11]; decide +kernel) rfl hW' h
end Go.Proofs.Ytefmfhbkihplgaa.Tr
namespace Go.Proofs.Ytefmfhbkihplgaa
open Go Go.RowKit Go.ChangeShapes Go.WideShapes Go.ChangeAt
theorem imageRight_holds : Rows.ImageRightSaid :=
  OpenClaim.holds_of_wide 11 Try.f11 rfl rfl rfl rfl rfl rfl rfl ⟨rfl, rfl, rfl, rfl, rfl⟩ rfl rfl rfl rfl rfl (by kernel_rfl) Try.func11 (by kernel_rfl)
    (of_decide_eq_true (by kernel_rfl)) (by unfold Func.isWrapper; first | (rw [if_pos (by decide +kernel)]; kernel_rfl) | (rw [if_neg (by decide +kernel)]; exact ⟨rfl, rfl⟩))
    (fun os started H enc _ => Tr.imageRight_lifted os started H enc)
#print axioms imageRight_holds
end Go.Proofs.Ytefmfhbkihplgaa
