/- What the proof leans on. Conditions: none. -/
import Derived.Test.YtpknphecmahkaaaZSR4
set_option linter.all false
set_option linter.unusedSimpArgs false
set_option linter.unusedVariables false
set_option linter.unusedSectionVars false
namespace Go.Proofs.Ytpknphecmahkaaa.Tr
open Go
set_option maxHeartbeats 1000000
theorem shr_n (n : UInt64) (s : Int) : (shr64 n s).toNat = n.toNat / 2 ^ s.toNat := by
  have h := n.toNat_lt
  have h2 : n.toNat / 2 ^ s.toNat ≤ n.toNat := Nat.div_le_self _ _
  unfold shr64
  rw [UInt64.toNat_ofNat']
  exact Nat.mod_eq_of_lt (by omega)
theorem half_le {m x k n : Nat} (h : 2 ^ m * x ≤ n) : 2 ^ (m + k) * (x / 2 ^ k) ≤ n := by
  rw [Nat.pow_add, Nat.mul_assoc]
  exact Nat.le_trans (Nat.mul_le_mul_left _ (Nat.mul_div_le x (2 ^ k))) h
set_option maxRecDepth 100000 in
theorem tab8 : ∀ v : Fin 256, (math_bits_Len64_t1.getD v.val 0).toNat ≤ 8 ∧ (1 ≤ v.val → 2 ^ (math_bits_Len64_t1.getD v.val 0).toNat ≤ 2 * v.val) := by decide +kernel
theorem tab8l : math_bits_Len64_t1.length = 256 := by decide +kernel
theorem len_get (n : UInt64) : Gets (math_bits_Len n) (fun k => 0 ≤ k ∧ k ≤ 64 ∧ (1 ≤ n.toNat → 2 ^ k.toNat ≤ 2 * n.toNat)) := by
  unfold math_bits_Len
  rw [cond_f]
  refine Gets.b ?_ (fun v hv => .s hv)
  unfold math_bits_Len64
  have hn := n.toNat_lt
  refine Gets.b (P := fun o => ∃ m : Nat, o.2 = (m : Int) ∧ m ≤ 32 ∧ (1 ≤ n.toNat → 1 ≤ o.1.toNat) ∧ o.1.toNat < 4294967296 ∧ 2 ^ m * o.1.toNat ≤ n.toNat) ?_ (fun o ho => ?_)
  · refine Gets.c (fun e => ?_) (fun e => ?_)
    · have e := of_decide_eq_true e
      rw [UInt64.le_iff_toNat_le] at e
      have e : 4294967296 ≤ n.toNat := e
      have hs : (shr64 n ((UInt64.ofNat 32).toNat : Int)).toNat = n.toNat / 4294967296 := shr_n _ _
      refine .s ⟨32, rfl, by omega, fun _ => ?_, ?_, ?_⟩
      · rw [hs]; omega
      · rw [hs]; omega
      · rw [hs]; have := Nat.mul_div_le n.toNat 4294967296; simpa using this
    · have e := of_decide_eq_false e
      rw [UInt64.le_iff_toNat_le] at e
      have e : ¬ 4294967296 ≤ n.toNat := e
      exact .s ⟨0, rfl, by omega, fun h => h, by dsimp only; omega, by simp⟩
  obtain ⟨x, n2⟩ := o
  obtain ⟨m, h1, h2, h3, h4, h5⟩ := ho
  dsimp only at *
  subst h1
  simp only [el2]
  refine Gets.b (P := fun o => ∃ m : Nat, o.2 = (m : Int) ∧ m ≤ 48 ∧ (1 ≤ n.toNat → 1 ≤ o.1.toNat) ∧ o.1.toNat < 65536 ∧ 2 ^ m * o.1.toNat ≤ n.toNat) ?_ (fun o ho => ?_)
  · refine Gets.c (fun e => ?_) (fun e => ?_)
    · have e := of_decide_eq_true e
      rw [UInt64.le_iff_toNat_le] at e
      have e : 65536 ≤ x.toNat := e
      have hs : (shr64 x ((UInt64.ofNat 16).toNat : Int)).toNat = x.toNat / 2 ^ 16 := shr_n _ _
      (simp (disch := first | omega | assumption | (simp only [List.length_set, sw_len]; omega)) only [idx_nth, addI_ok, subI_ok, mulI_ok, quoI_ok, bind_s, gb_true, gb_false, cond_t, cond_f, dt_, df_, Bool.true_and, Bool.false_and, Bool.not_true, Bool.not_false, el2, el3, el4, elS_inl, elS_inr, lessP, lex_lt, sw_fold, lenI_ok])
      refine .s ⟨m + 16, rfl, by omega, fun _ => ?_, ?_, ?_⟩
      · rw [hs]; omega
      · rw [hs]; omega
      · rw [hs]; exact half_le h5
    · have e := of_decide_eq_false e
      rw [UInt64.le_iff_toNat_le] at e
      have e : ¬ 65536 ≤ x.toNat := e
      exact .s ⟨m, rfl, by omega, h3, by dsimp only; omega, h5⟩
  clear h2 h3 h4 h5
  obtain ⟨x, n2⟩ := o
  obtain ⟨m, h1, h2, h3, h4, h5⟩ := ho
  dsimp only at *
  subst h1
  refine Gets.b (P := fun o => ∃ m : Nat, o.2 = (m : Int) ∧ m ≤ 56 ∧ (1 ≤ n.toNat → 1 ≤ o.1.toNat) ∧ o.1.toNat < 256 ∧ 2 ^ m * o.1.toNat ≤ n.toNat) ?_ (fun o ho => ?_)
  · refine Gets.c (fun e => ?_) (fun e => ?_)
    · have e := of_decide_eq_true e
      rw [UInt64.le_iff_toNat_le] at e
      have e : 256 ≤ x.toNat := e
      have hs : (shr64 x ((UInt64.ofNat 8).toNat : Int)).toNat = x.toNat / 2 ^ 8 := shr_n _ _
      (simp (disch := first | omega | assumption | (simp only [List.length_set, sw_len]; omega)) only [idx_nth, addI_ok, subI_ok, mulI_ok, quoI_ok, bind_s, gb_true, gb_false, cond_t, cond_f, dt_, df_, Bool.true_and, Bool.false_and, Bool.not_true, Bool.not_false, el2, el3, el4, elS_inl, elS_inr, lessP, lex_lt, sw_fold, lenI_ok])
      refine .s ⟨m + 8, rfl, by omega, fun _ => ?_, ?_, ?_⟩
      · rw [hs]; omega
      · rw [hs]; omega
      · rw [hs]; exact half_le h5
    · have e := of_decide_eq_false e
      rw [UInt64.le_iff_toNat_le] at e
      have e : ¬ 256 ≤ x.toNat := e
      exact .s ⟨m, rfl, by omega, h3, by dsimp only; omega, h5⟩
  clear h2 h3 h4 h5
  obtain ⟨x, n2⟩ := o
  obtain ⟨m, h1, h2, h3, h4, h5⟩ := ho
  dsimp only at *
  subst h1
  have hx : (x.toUInt8).toNat = x.toNat := by rw [UInt64.toNat_toUInt8]; omega
  obtain ⟨t1, t2⟩ := tab8 ⟨x.toNat, h4⟩
  dsimp only at t1 t2
  rw [hx]
  refine Gets.b (Gets.idx (by omega) (by rw [tab8l]; omega)) (fun u hu => ?_)
  rw [Int.toNat_natCast] at hu
  rw [List.getD_eq_getElem?_getD, hu] at t1 t2
  change u.toNat ≤ 8 at t1
  change 1 ≤ x.toNat → 2 ^ u.toNat ≤ 2 * x.toNat at t2
  (simp (disch := first | omega | assumption | (simp only [List.length_set, sw_len]; omega)) only [idx_nth, addI_ok, subI_ok, mulI_ok, quoI_ok, bind_s, gb_true, gb_false, cond_t, cond_f, dt_, df_, Bool.true_and, Bool.false_and, Bool.not_true, Bool.not_false, el2, el3, el4, elS_inl, elS_inr, lessP, lex_lt, sw_fold, lenI_ok])
  refine .s ⟨by omega, by omega, fun h => ?_⟩
  rw [show ((m : Int) + (u.toNat : Int)).toNat = m + u.toNat by omega, Nat.pow_add]
  have t3 := Nat.mul_le_mul_left (2 ^ m) (t2 (h3 h))
  have t4 : 2 ^ m * (2 * x.toNat) = 2 * (2 ^ m * x.toNat) := by rw [Nat.mul_left_comm]
  omega
theorem pow_get {n : Int} (h1 : 1 ≤ n) (h2 : n ≤ 281474976710656) : Gets (slices_nextPowerOfTwo n) (fun x => 1 ≤ x.toNat ∧ (x.toNat : Int) ≤ 2 * n) := by
  unfold slices_nextPowerOfTwo
  have hn : (UInt64.ofInt n).toNat = n.toNat := by
    obtain ⟨k, rfl⟩ : ∃ k : Nat, n = (k : Int) := ⟨n.toNat, by omega⟩
    unfold UInt64.ofInt
    rw [UInt64.toNat_ofNat']
    omega
  refine Gets.b (len_get _) (fun k hk => ?_)
  obtain ⟨k1, k2, k3⟩ := hk
  rw [hn] at k3
  have k3 := k3 (by omega)
  refine Gets.b (x := cnt k) (P := fun _ => True) ⟨k.toNat, if_pos k1, trivial⟩ (fun _ _ => ?_)
  have e : (shl64 (UInt64.ofNat 1) k).toNat = 2 ^ k.toNat := by
    unfold shl64
    rw [UInt64.toNat_ofNat', show (UInt64.ofNat 1).toNat = 1 from rfl, Nat.one_mul]
    exact Nat.mod_eq_of_lt (by omega)
  refine .s ⟨?_, ?_⟩
  · rw [e]; exact Nat.one_le_two_pow
  · rw [e]; omega
theorem brk_get {l : List Prefix} {a b : Int} (hA : AllPM l) (h0 : 0 ≤ a) (hab : a ≤ b) (hb : b ≤ l.length) (hl : (l.length : Int) ≤ 281474976710656) : Gets (slices_breakPatternsCmpFunc_api_Prefix l a b cmpP) (fun l' => Same l l' a b) := by
  unfold slices_breakPatternsCmpFunc_api_Prefix
  by_cases c : b - a ≥ 8
  · (simp (disch := first | omega | assumption | (simp only [List.length_set, sw_len]; omega)) only [idx_nth, addI_ok, subI_ok, mulI_ok, quoI_ok, bind_s, gb_true, gb_false, cond_t, cond_f, dt_, df_, Bool.true_and, Bool.false_and, Bool.not_true, Bool.not_false, el2, el3, el4, elS_inl, elS_inr, lessP, lex_lt, sw_fold, lenI_ok])
    refine Gets.b (pow_get (by omega) (by omega)) (fun x hx => ?_)
    refine Gets.b (Gets.loop (I := fun s => a + (b - a) / 4 * 2 - 1 ≤ s.1 ∧ s.1 ≤ a + (b - a) / 4 * 2 + 2 ∧ Same l s.2.1 a b) (μ := fun s => (b + 8 - s.1).toNat) (R := fun d => Same l d a b) (fun s hs => ?_) ⟨by dsimp only; omega, by dsimp only; omega, .rf⟩ (by dsimp only; omega)) (fun d hd => .s hd)
    obtain ⟨i, d, r⟩ := s
    obtain ⟨h1, h2, h3⟩ := hs
    dsimp only at *
    have hL := h3.len
    have hAd := AllPM.same (by first | assumption | exact AllPM.sw (by assumption) (by omega) (by omega) (by omega) (by omega)) h3
    unfold slices_breakPatternsCmpFunc_api_Prefix_l1
    by_cases c2 : i ≤ a + (b - a) / 4 * 2 + 1
    · (simp (disch := first | omega | assumption | (simp only [List.length_set, sw_len]; omega)) only [idx_nth, addI_ok, subI_ok, mulI_ok, quoI_ok, bind_s, gb_true, gb_false, cond_t, cond_f, dt_, df_, Bool.true_and, Bool.false_and, Bool.not_true, Bool.not_false, el2, el3, el4, elS_inl, elS_inr, lessP, lex_lt, sw_fold, lenI_ok])
      refine Gets.b (P := fun _ => True) (by unfold slices_xorshift_Next; simp only [bind_s]; exact .s trivial) (fun r _ => ?_)
      have hm : (r.1 &&& (x - UInt64.ofNat 1)).toNat < x.toNat := by
        have e1 : (x - UInt64.ofNat 1).toNat = x.toNat - 1 := UInt64.toNat_sub_of_le _ _ (by rw [UInt64.le_iff_toNat_le]; exact hx.1)
        rw [UInt64.toNat_and, e1]
        have := @Nat.and_le_right r.1.toNat (x.toNat - 1)
        omega
      revert hm
      generalize (r.1 &&& (x - UInt64.ofNat 1)).toNat = m
      intro hm
      simp (disch := omega) only [ok64_ok, bind_s]
      refine Gets.b (P := fun o => 0 ≤ o ∧ o < b - a) ?_ (fun o ho => ?_)
      · refine Gets.c (fun e => ?_) (fun e => ?_)
        · have e := of_decide_eq_true e
          (simp (disch := first | omega | assumption | (simp only [List.length_set, sw_len]; omega)) only [idx_nth, addI_ok, subI_ok, mulI_ok, quoI_ok, bind_s, gb_true, gb_false, cond_t, cond_f, dt_, df_, Bool.true_and, Bool.false_and, Bool.not_true, Bool.not_false, el2, el3, el4, elS_inl, elS_inr, lessP, lex_lt, sw_fold, lenI_ok]); exact .s (by omega)
        · have e := of_decide_eq_false e
          exact .s (by omega)
      · (simp (disch := first | omega | assumption | (simp only [List.length_set, sw_len]; omega)) only [idx_nth, addI_ok, subI_ok, mulI_ok, quoI_ok, bind_s, gb_true, gb_false, cond_t, cond_f, dt_, df_, Bool.true_and, Bool.false_and, Bool.not_true, Bool.not_false, el2, el3, el4, elS_inl, elS_inr, lessP, lex_lt, sw_fold, lenI_ok])
        exact .l ⟨by dsimp only; omega, by dsimp only; omega, h3.tr (.sw h0 (by omega) (by omega) (by omega) (by omega) (by omega))⟩ (by dsimp only; omega)
    · (simp (disch := first | omega | assumption | (simp only [List.length_set, sw_len]; omega)) only [idx_nth, addI_ok, subI_ok, mulI_ok, quoI_ok, bind_s, gb_true, gb_false, cond_t, cond_f, dt_, df_, Bool.true_and, Bool.false_and, Bool.not_true, Bool.not_false, el2, el3, el4, elS_inl, elS_inr, lessP, lex_lt, sw_fold, lenI_ok])
      exact .r h3
  · (simp (disch := first | omega | assumption | (simp only [List.length_set, sw_len]; omega)) only [idx_nth, addI_ok, subI_ok, mulI_ok, quoI_ok, bind_s, gb_true, gb_false, cond_t, cond_f, dt_, df_, Bool.true_and, Bool.false_and, Bool.not_true, Bool.not_false, el2, el3, el4, elS_inl, elS_inr, lessP, lex_lt, sw_fold, lenI_ok])
    exact .s .rf
theorem ord2_get {l : List Prefix} {a b s : Int} (hA : AllPM l) (ha : 0 ≤ a) (ha2 : a < l.length) (hb : 0 ≤ b) (hb2 : b < l.length) (hs : 0 ≤ s) (hs2 : s ≤ 100) : Gets (slices_order2CmpFunc_api_Prefix l a b s cmpP) (fun r => (r.1 = a ∨ r.1 = b) ∧ (r.2.1 = a ∨ r.2.1 = b) ∧ s ≤ r.2.2 ∧ r.2.2 ≤ s + 1) := by
  unfold slices_order2CmpFunc_api_Prefix
  (simp (disch := first | omega | assumption | (simp only [List.length_set, sw_len]; omega)) only [idx_nth, addI_ok, subI_ok, mulI_ok, quoI_ok, bind_s, gb_true, gb_false, cond_t, cond_f, dt_, df_, Bool.true_and, Bool.false_and, Bool.not_true, Bool.not_false, el2, el3, el4, elS_inl, elS_inr, lessP, lex_lt, sw_fold, lenI_ok])
  refine Gets.c (fun e => ?_) (fun e => ?_)
  · exact .s ⟨.inr rfl, .inl rfl, by dsimp only; omega, by dsimp only; omega⟩
  · exact .s ⟨.inl rfl, .inr rfl, by dsimp only; omega, by dsimp only; omega⟩
theorem med_get {l : List Prefix} {a b c s : Int} (hA : AllPM l) (ha : 0 ≤ a) (ha2 : a < l.length) (hb : 0 ≤ b) (hb2 : b < l.length) (hc : 0 ≤ c) (hc2 : c < l.length) (hs : 0 ≤ s) (hs2 : s ≤ 90) : Gets (slices_medianCmpFunc_api_Prefix l a b c s cmpP) (fun r => (r.1 = a ∨ r.1 = b ∨ r.1 = c) ∧ s ≤ r.2 ∧ r.2 ≤ s + 3) := by
  unfold slices_medianCmpFunc_api_Prefix
  refine Gets.b (ord2_get (by first | assumption | exact AllPM.sw (by assumption) (by omega) (by omega) (by omega) (by omega)) ha ha2 hb hb2 hs (by omega)) (fun x hx => ?_)
  refine Gets.b (ord2_get (by first | assumption | exact AllPM.sw (by assumption) (by omega) (by omega) (by omega) (by omega)) (by omega) (by omega) hc hc2 (by omega) (by omega)) (fun y hy => ?_)
  refine Gets.b (ord2_get (by first | assumption | exact AllPM.sw (by assumption) (by omega) (by omega) (by omega) (by omega)) (by omega) (by omega) (by omega) (by omega) (by omega) (by omega)) (fun z hz => ?_)
  exact .s ⟨by dsimp only; omega, by dsimp only; omega, by dsimp only; omega⟩
theorem adj_get {l : List Prefix} {a s : Int} (hA : AllPM l) (ha : 1 ≤ a) (ha2 : a + 1 < l.length) (hl : (l.length : Int) ≤ 281474976710656) (hs : 0 ≤ s) (hs2 : s ≤ 90) : Gets (slices_medianAdjacentCmpFunc_api_Prefix l a s cmpP) (fun r => a - 1 ≤ r.1 ∧ r.1 ≤ a + 1 ∧ s ≤ r.2 ∧ r.2 ≤ s + 3) := by
  unfold slices_medianAdjacentCmpFunc_api_Prefix
  (simp (disch := first | omega | assumption | (simp only [List.length_set, sw_len]; omega)) only [idx_nth, addI_ok, subI_ok, mulI_ok, quoI_ok, bind_s, gb_true, gb_false, cond_t, cond_f, dt_, df_, Bool.true_and, Bool.false_and, Bool.not_true, Bool.not_false, el2, el3, el4, elS_inl, elS_inr, lessP, lex_lt, sw_fold, lenI_ok])
  refine Gets.b (med_get (by first | assumption | exact AllPM.sw (by assumption) (by omega) (by omega) (by omega) (by omega)) (by omega) (by omega) (by omega) (by omega) (by omega) (by omega) hs hs2) (fun x hx => ?_)
  exact .s ⟨by dsimp only; omega, by dsimp only; omega, by dsimp only; omega, by dsimp only; omega⟩
theorem piv_get {l : List Prefix} {a b : Int} (hA : AllPM l) (h0 : 0 ≤ a) (hab : a + 8 ≤ b) (hb : b ≤ l.length) (hl : (l.length : Int) ≤ 281474976710656) : Gets (slices_choosePivotCmpFunc_api_Prefix l a b cmpP) (fun r => a ≤ r.1 ∧ r.1 < b) := by
  unfold slices_choosePivotCmpFunc_api_Prefix
  simp (disch := omega) only [subI_ok, quoI_ok, mulI_ok, addI_ok, bind_s, dt_, cond_t]
  refine Gets.b (P := fun o => a ≤ o.1 ∧ o.1 < b) ?_ (fun o ho => ?_)
  · refine Gets.b (P := fun o => a ≤ o.1 ∧ o.1 < b ∧ a ≤ o.2.1 ∧ o.2.1 < b ∧ a ≤ o.2.2.1 ∧ o.2.2.1 < b ∧ 0 ≤ o.2.2.2 ∧ o.2.2.2 ≤ 9) ?_ (fun o ho => ?_)
    · refine Gets.c (fun e => ?_) (fun e => ?_)
      · have e := of_decide_eq_true e
        refine Gets.b (adj_get (by first | assumption | exact AllPM.sw (by assumption) (by omega) (by omega) (by omega) (by omega)) (by omega) (by omega) hl (Int.le_refl 0) (by decide)) (fun x hx => ?_)
        have hx : _ ∧ _ ∧ 0 ≤ x.2 ∧ x.2 ≤ 0 + 3 := hx
        refine Gets.b (adj_get (by first | assumption | exact AllPM.sw (by assumption) (by omega) (by omega) (by omega) (by omega)) (by omega) (by omega) hl (by omega) (by omega)) (fun y hy => ?_)
        refine Gets.b (adj_get (by first | assumption | exact AllPM.sw (by assumption) (by omega) (by omega) (by omega) (by omega)) (by omega) (by omega) hl (by omega) (by omega)) (fun z hz => ?_)
        exact .s ⟨by dsimp only; omega, by dsimp only; omega, by dsimp only; omega, by dsimp only; omega, by dsimp only; omega, by dsimp only; omega, by dsimp only; omega, by dsimp only; omega⟩
      · exact .s ⟨by dsimp only; omega, by dsimp only; omega, by dsimp only; omega, by dsimp only; omega, by dsimp only; omega, by dsimp only; omega, Int.le_refl 0, by show (0 : Int) ≤ 9; decide⟩
    · obtain ⟨i, j, k, s⟩ := o
      dsimp only at ho
      simp only [el4]
      refine Gets.b (med_get (by first | assumption | exact AllPM.sw (by assumption) (by omega) (by omega) (by omega) (by omega)) (by omega) (by omega) (by omega) (by omega) (by omega) (by omega) (by omega) (by omega)) (fun x hx => ?_)
      exact .s ⟨by dsimp only; omega, by dsimp only; omega⟩
  · obtain ⟨j, s⟩ := o
    simp only [el2]
    refine Gets.c (fun e => .s ho) (fun e => ?_)
    exact Gets.c (fun e => .s ho) (fun e => .s ho)
end Go.Proofs.Ytpknphecmahkaaa.Tr
namespace Go.Proofs.Ytpknphecmahkaaa.Tr
open Go
set_option maxHeartbeats 1000000
theorem part_get {l : List Prefix} {a b : Int} (hA : AllPM l) (h0 : 0 ≤ a) (hab : a < b) (hb : b ≤ l.length) (hl : (l.length : Int) ≤ 281474976710656) (pre : ∀ k, 0 < a → a ≤ k → k < b → ltL (nth l k) (nth l (a - 1)) = false) : Gets (slices_partialInsertionSortCmpFunc_api_Prefix l a b cmpP) (fun r => Same l r.2 a b ∧ (r.1 = true → Srt ltL r.2 a b)) := by
  unfold slices_partialInsertionSortCmpFunc_api_Prefix; (simp (disch := first | omega | assumption | (simp only [List.length_set, sw_len]; omega)) only [idx_nth, addI_ok, subI_ok, mulI_ok, quoI_ok, bind_s, gb_true, gb_false, cond_t, cond_f, dt_, df_, Bool.true_and, Bool.false_and, Bool.not_true, Bool.not_false, el2, el3, el4, elS_inl, elS_inr, lessP, lex_lt, sw_fold, lenI_ok])
  refine Gets.b (Gets.loop (I := fun s => a < s.1 ∧ s.1 ≤ b ∧ 0 ≤ s.2.1 ∧ s.2.1 ≤ 5 ∧ Same l s.2.2 a b ∧ Srt ltL s.2.2 a s.1) (μ := fun s => (5 - s.2.1).toNat) (R := Sum.elim (fun d => Same l d a b) (fun r => Same l r.2 a b ∧ (r.1 = true → Srt ltL r.2 a b))) (fun s hs => ?_) ⟨by dsimp only; omega, by dsimp only; omega, by dsimp only; omega, by dsimp only; omega, .rf, fun p q h1 h2 h3 => by dsimp only at h3; omega⟩ (by dsimp only; omega)) (fun v hv => ?_)
  · obtain ⟨i, j, d⟩ := s
    obtain ⟨h1, h2, h3, h4, h5, h6⟩ := hs
    dsimp only at *
    have hL := h5.len
    have hAd := AllPM.same (by first | assumption | exact AllPM.sw (by assumption) (by omega) (by omega) (by omega) (by omega)) h5
    unfold slices_partialInsertionSortCmpFunc_api_Prefix_l1
    refine Gets.c (fun e => ?_) (fun e => .r (show Same l d a b from h5))
    have e := of_decide_eq_true e
    refine Gets.b (P := Sum.elim (fun s => a < s.1 ∧ s.1 ≤ b ∧ Same l s.2 a b ∧ Srt ltL s.2 a s.1) (fun r => Same l r.2 a b ∧ (r.1 = true → Srt ltL r.2 a b))) ?_ (fun o ho => ?_)
    · refine Gets.b (Gets.loop (I := fun i' => a < i' ∧ i' ≤ b ∧ Srt ltL d a i') (μ := fun i' => (b - i').toNat) (R := fun i' => a < i' ∧ i' ≤ b ∧ Srt ltL d a i') (fun i' hi => ?_) ⟨h1, h2, h6⟩ (by omega)) (fun i hi => ?_)
      · obtain ⟨g1, g2, g3⟩ := hi
        unfold slices_partialInsertionSortCmpFunc_api_Prefix_l2
        by_cases c : i' < b
        · (simp (disch := first | omega | assumption | (simp only [List.length_set, sw_len]; omega)) only [idx_nth, addI_ok, subI_ok, mulI_ok, quoI_ok, bind_s, gb_true, gb_false, cond_t, cond_f, dt_, df_, Bool.true_and, Bool.false_and, Bool.not_true, Bool.not_false, el2, el3, el4, elS_inl, elS_inr, lessP, lex_lt, sw_fold, lenI_ok])
          refine Gets.c (fun e => ?_) (fun e => ?_)
          · have e : ltL (nth d i') (nth d (i' - 1)) = false := by simpa using e
            exact .l ⟨by omega, by omega, But.done weakP (But.of g3) (by omega) (Int.le_refl _) (.inr e)⟩ (by omega)
          · exact .r ⟨g1, g2, g3⟩
        · (simp (disch := first | omega | assumption | (simp only [List.length_set, sw_len]; omega)) only [idx_nth, addI_ok, subI_ok, mulI_ok, quoI_ok, bind_s, gb_true, gb_false, cond_t, cond_f, dt_, df_, Bool.true_and, Bool.false_and, Bool.not_true, Bool.not_false, el2, el3, el4, elS_inl, elS_inr, lessP, lex_lt, sw_fold, lenI_ok])
          exact .r ⟨g1, g2, g3⟩
      obtain ⟨g1, g2, g3⟩ := hi
      refine Gets.c (fun e => ?_) (fun e => ?_)
      · have e := of_decide_eq_true e
        subst e
        exact .s (show _ ∧ _ from ⟨h5, fun _ => g3⟩)
      have e := of_decide_eq_false e
      simp (disch := omega) only [subI_ok, bind_s]
      refine Gets.c (fun e => .s (show _ ∧ _ from ⟨h5, fun h => by cases h⟩)) (fun e50 => ?_)
      (simp (disch := first | omega | assumption | (simp only [List.length_set, sw_len]; omega)) only [idx_nth, addI_ok, subI_ok, mulI_ok, quoI_ok, bind_s, gb_true, gb_false, cond_t, cond_f, dt_, df_, Bool.true_and, Bool.false_and, Bool.not_true, Bool.not_false, el2, el3, el4, elS_inl, elS_inr, lessP, lex_lt, sw_fold, lenI_ok])
      have hW : Same d (sw d (i - 1) i) (i - 1) (i + 1) := .sw (by omega) (by omega) (by omega) (by omega) (by omega) (by omega)
      have hW2 : Same l (sw d (i - 1) i) a b := h5.tr (hW.up h0 (by omega) (by omega))
      have hL2 := hW2.len
      have hAd := AllPM.same (by first | assumption | exact AllPM.sw (by assumption) (by omega) (by omega) (by omega) (by omega)) hW2
      revert hW hW2 hL2
      generalize sw d (i - 1) i = d2
      intro hW hW2 hL2
      refine Gets.b (P := fun d3 => Same l d3 a b ∧ Srt ltL d3 a i) ?_ (fun d3 hd3 => ?_)
      · refine Gets.c (fun e2 => ?_) (fun e2 => ?_)
        · have e2 := of_decide_eq_true e2
          have hB : But ltL d2 a (i - 1) (i - 1) := But.of (fun p q k1 k2 k3 => by
            rw [hW.out p (by omega) (by omega), hW.out q (by omega) (by omega)]; exact g3 p q k1 k2 (by omega))
          refine Gets.loop (I := fun s => a ≤ s.1 ∧ s.1 ≤ i - 1 ∧ Same l s.2 a b ∧ But ltL s.2 a (i - 1) s.1) (μ := fun s => s.1.toNat) (fun s hs => ?_) ⟨by dsimp only; omega, by dsimp only; omega, hW2, hB⟩ (by dsimp only; omega)
          obtain ⟨j2, d4⟩ := s
          obtain ⟨k1, k2, k3, k4⟩ := hs
          dsimp only at *
          have hL4 := k3.len
          have hAd := AllPM.same (by first | assumption | exact AllPM.sw (by assumption) (by omega) (by omega) (by omega) (by omega)) k3
          unfold slices_partialInsertionSortCmpFunc_api_Prefix_l3
          have fin : (j2 ≤ a ∨ ltL (nth d4 j2) (nth d4 (j2 - 1)) = false) → Srt ltL d4 a i := fun h => by
            have := k4.done weakP k1 k2 h
            rwa [show i - 1 + 1 = i by omega] at this
          by_cases c : j2 ≥ 1
          · (simp (disch := first | omega | assumption | (simp only [List.length_set, sw_len]; omega)) only [idx_nth, addI_ok, subI_ok, mulI_ok, quoI_ok, bind_s, gb_true, gb_false, cond_t, cond_f, dt_, df_, Bool.true_and, Bool.false_and, Bool.not_true, Bool.not_false, el2, el3, el4, elS_inl, elS_inr, lessP, lex_lt, sw_fold, lenI_ok])
            refine Gets.c (fun e => ?_) (fun e => ?_)
            · have e : ltL (nth d4 j2) (nth d4 (j2 - 1)) = false := by simpa using e
              exact .r ⟨k3, fin (.inr e)⟩
            · have e : ltL (nth d4 j2) (nth d4 (j2 - 1)) = true := by simpa using e
              have hj : a < j2 := by
                by_cases hj : a < j2
                · exact hj
                · have : j2 = a := by omega
                  subst this
                  obtain ⟨m, m1, m2, m3⟩ := k3.src j2 (Int.le_refl _) hab
                  rw [m3, k3.out (j2 - 1) (by omega) (by omega), pre m (by omega) m1 m2] at e
                  cases e
              exact .l ⟨by dsimp only; omega, by dsimp only; omega, k3.tr (.sw h0 (by omega) (by omega) (by omega) (by omega) (by omega)), k4.step weakP h0 (by omega) hj k2 e⟩ (by dsimp only; omega)
          · (simp (disch := first | omega | assumption | (simp only [List.length_set, sw_len]; omega)) only [idx_nth, addI_ok, subI_ok, mulI_ok, quoI_ok, bind_s, gb_true, gb_false, cond_t, cond_f, dt_, df_, Bool.true_and, Bool.false_and, Bool.not_true, Bool.not_false, el2, el3, el4, elS_inl, elS_inr, lessP, lex_lt, sw_fold, lenI_ok])
            exact .r ⟨k3, fin (.inl (by omega))⟩
        · have e2 := of_decide_eq_false e2
          exact .s ⟨hW2, fun p q k1 k2 k3 => by omega⟩
      obtain ⟨m1, m2⟩ := hd3
      refine Gets.c (fun e2 => ?_) (fun e2 => .s (show _ ∧ _ from ⟨g1, g2, m1, m2⟩))
      have e2 := of_decide_eq_true e2
      refine Gets.b (Gets.loop (I := fun s => i < s.1 ∧ s.1 ≤ b ∧ Same l s.2 a b ∧ Srt ltL s.2 a i) (μ := fun s => (b - s.1).toNat) (R := fun d => Same l d a b ∧ Srt ltL d a i) (fun s hs => ?_) ⟨by dsimp only; omega, by dsimp only; omega, m1, m2⟩ (by dsimp only; omega)) (fun d hd => .s (show _ ∧ _ from ⟨g1, g2, hd.1, hd.2⟩))
      obtain ⟨j2, d4⟩ := s
      obtain ⟨k1, k2, k3, k4⟩ := hs
      dsimp only at *
      have hL4 := k3.len
      have hAd := AllPM.same (by first | assumption | exact AllPM.sw (by assumption) (by omega) (by omega) (by omega) (by omega)) k3
      unfold slices_partialInsertionSortCmpFunc_api_Prefix_l4
      by_cases c : j2 < b
      · (simp (disch := first | omega | assumption | (simp only [List.length_set, sw_len]; omega)) only [idx_nth, addI_ok, subI_ok, mulI_ok, quoI_ok, bind_s, gb_true, gb_false, cond_t, cond_f, dt_, df_, Bool.true_and, Bool.false_and, Bool.not_true, Bool.not_false, el2, el3, el4, elS_inl, elS_inr, lessP, lex_lt, sw_fold, lenI_ok])
        refine Gets.c (fun e => .r ⟨k3, k4⟩) (fun e => ?_)
        have hV : Same d4 (sw d4 (j2 - 1) j2) i b := .sw (by omega) (by omega) (by omega) (by omega) (by omega) (by omega)
        exact .l ⟨by dsimp only; omega, by dsimp only; omega, k3.tr (hV.up h0 (by omega) (by omega)), k4.same hV h0 (.inl (Int.le_refl _))⟩ (by dsimp only; omega)
      · (simp (disch := first | omega | assumption | (simp only [List.length_set, sw_len]; omega)) only [idx_nth, addI_ok, subI_ok, mulI_ok, quoI_ok, bind_s, gb_true, gb_false, cond_t, cond_f, dt_, df_, Bool.true_and, Bool.false_and, Bool.not_true, Bool.not_false, el2, el3, el4, elS_inl, elS_inr, lessP, lex_lt, sw_fold, lenI_ok])
        exact .r ⟨k3, k4⟩
    · rcases o with ⟨i', d'⟩ | r
      · rw [elS_inl]; simp only [el2]
        obtain ⟨g1, g2, g3, g4⟩ := ho
        (simp (disch := first | omega | assumption | (simp only [List.length_set, sw_len]; omega)) only [idx_nth, addI_ok, subI_ok, mulI_ok, quoI_ok, bind_s, gb_true, gb_false, cond_t, cond_f, dt_, df_, Bool.true_and, Bool.false_and, Bool.not_true, Bool.not_false, el2, el3, el4, elS_inl, elS_inr, lessP, lex_lt, sw_fold, lenI_ok])
        exact .l ⟨g1, g2, by dsimp only; omega, by dsimp only; omega, g3, g4⟩ (by dsimp only; omega)
      · rw [elS_inr]
        exact .r (show _ ∧ _ from ho)
  · rcases v with v | v
    · exact .elSl (.s ⟨hv, fun h => by cases h⟩)
    · exact .elSr (.s hv)
theorem pteq_get {l : List Prefix} {a b pv : Int} (hA : AllPM l) (h0 : 0 ≤ a) (hp : a ≤ pv) (hp2 : pv < b) (hb : b ≤ l.length) (hl : (l.length : Int) ≤ 281474976710656) (hmin : ∀ k, a ≤ k → k < b → ltL (nth l k) (nth l pv) = false) : Gets (slices_partitionEqualCmpFunc_api_Prefix l a b pv cmpP) (fun r => a < r.1 ∧ r.1 ≤ b ∧ Same l r.2 a b ∧ ∀ p q, a ≤ p → p < q → q < b → p < r.1 → ltL (nth r.2 q) (nth r.2 p) = false) := by
  unfold slices_partitionEqualCmpFunc_api_Prefix; (simp (disch := first | omega | assumption | (simp only [List.length_set, sw_len]; omega)) only [idx_nth, addI_ok, subI_ok, mulI_ok, quoI_ok, bind_s, gb_true, gb_false, cond_t, cond_f, dt_, df_, Bool.true_and, Bool.false_and, Bool.not_true, Bool.not_false, el2, el3, el4, elS_inl, elS_inr, lessP, lex_lt, sw_fold, lenI_ok])
  have hW : Same l (sw l pv a) a b := .sw h0 hb (by omega) (by omega) (by omega) (by omega)
  have hA : nth (sw l pv a) a = nth l pv := by
    rw [nth_sw (by omega) (by omega) (by omega) (by omega) h0]
    split
    · rename_i e; rw [e]
    · rw [if_pos rfl]
  refine Gets.b (Gets.loop (I := fun s => a < s.1 ∧ s.2.1 < b ∧ s.1 ≤ s.2.1 + 1 ∧ Same l s.2.2 a b ∧ nth s.2.2 a = nth l pv ∧ ∀ k, a ≤ k → k < s.1 → ltL (nth l pv) (nth s.2.2 k) = false) (μ := fun s => (b - s.1).toNat) (R := fun r => a < r.1 ∧ r.1 ≤ b ∧ Same l r.2 a b ∧ ∀ p q, a ≤ p → p < q → q < b → p < r.1 → ltL (nth r.2 q) (nth r.2 p) = false) (fun s hs => ?_) ⟨by dsimp only; omega, by dsimp only; omega, by dsimp only; omega, hW, hA, fun k k1 k2 => by
      dsimp only at *
      have : k = a := by omega
      subst this; rw [hA]; exact weakP.rf _⟩ (by dsimp only; omega)) (fun o ho => ?_)
  · obtain ⟨i, j, d⟩ := s
    obtain ⟨h1, h2, h3, h4, h5, h6⟩ := hs
    dsimp only at *
    have hL := h4.len
    have hAd := AllPM.same (by first | assumption | exact AllPM.sw (by assumption) (by omega) (by omega) (by omega) (by omega)) h4
    unfold slices_partitionEqualCmpFunc_api_Prefix_l1
    refine Gets.b (Gets.loop (I := fun i' => i ≤ i' ∧ i' ≤ j + 1 ∧ ∀ k, a ≤ k → k < i' → ltL (nth l pv) (nth d k) = false) (μ := fun i' => (b - i').toNat) (R := fun i' => i ≤ i' ∧ i' ≤ j + 1 ∧ (∀ k, a ≤ k → k < i' → ltL (nth l pv) (nth d k) = false) ∧ (i' ≤ j → ltL (nth l pv) (nth d i') = true)) (fun i' hi => ?_) ⟨Int.le_refl _, h3, h6⟩ (by omega)) (fun i' hi => ?_)
    · obtain ⟨g1, g2, g3⟩ := hi
      unfold slices_partitionEqualCmpFunc_api_Prefix_l2
      by_cases c : i' ≤ j
      · (simp (disch := first | omega | assumption | (simp only [List.length_set, sw_len]; omega)) only [idx_nth, addI_ok, subI_ok, mulI_ok, quoI_ok, bind_s, gb_true, gb_false, cond_t, cond_f, dt_, df_, Bool.true_and, Bool.false_and, Bool.not_true, Bool.not_false, el2, el3, el4, elS_inl, elS_inr, lessP, lex_lt, sw_fold, lenI_ok])
        rw [h5]
        refine Gets.c (fun e => ?_) (fun e => ?_)
        · have e : ltL (nth l pv) (nth d i') = false := by simpa using e
          refine .l ⟨by omega, by omega, fun k k1 k2 => ?_⟩ (by omega)
          by_cases e2 : k = i'
          · subst e2; exact e
          · exact g3 k k1 (by omega)
        · have e : ltL (nth l pv) (nth d i') = true := by simpa using e
          exact .r ⟨g1, g2, g3, fun _ => e⟩
      · (simp (disch := first | omega | assumption | (simp only [List.length_set, sw_len]; omega)) only [idx_nth, addI_ok, subI_ok, mulI_ok, quoI_ok, bind_s, gb_true, gb_false, cond_t, cond_f, dt_, df_, Bool.true_and, Bool.false_and, Bool.not_true, Bool.not_false, el2, el3, el4, elS_inl, elS_inr, lessP, lex_lt, sw_fold, lenI_ok])
        exact .r ⟨g1, g2, g3, fun h => absurd h c⟩
    obtain ⟨g1, g2, g3, g4⟩ := hi
    refine Gets.b (Gets.loop (I := fun j' => i' ≤ j' + 1 ∧ j' ≤ j) (μ := fun j' => (j' - a).toNat) (R := fun j' => i' ≤ j' + 1 ∧ j' ≤ j ∧ (i' ≤ j' → ltL (nth l pv) (nth d j') = false)) (fun j' hj => ?_) ⟨by omega, Int.le_refl _⟩ (by omega)) (fun j' hj => ?_)
    · obtain ⟨k1, k2⟩ := hj
      unfold slices_partitionEqualCmpFunc_api_Prefix_l3
      by_cases c : i' ≤ j'
      · (simp (disch := first | omega | assumption | (simp only [List.length_set, sw_len]; omega)) only [idx_nth, addI_ok, subI_ok, mulI_ok, quoI_ok, bind_s, gb_true, gb_false, cond_t, cond_f, dt_, df_, Bool.true_and, Bool.false_and, Bool.not_true, Bool.not_false, el2, el3, el4, elS_inl, elS_inr, lessP, lex_lt, sw_fold, lenI_ok])
        rw [h5]
        refine Gets.c (fun e => ?_) (fun e => ?_)
        · exact .l ⟨by omega, by omega⟩ (by omega)
        · exact .r ⟨k1, k2, fun _ => e⟩
      · (simp (disch := first | omega | assumption | (simp only [List.length_set, sw_len]; omega)) only [idx_nth, addI_ok, subI_ok, mulI_ok, quoI_ok, bind_s, gb_true, gb_false, cond_t, cond_f, dt_, df_, Bool.true_and, Bool.false_and, Bool.not_true, Bool.not_false, el2, el3, el4, elS_inl, elS_inr, lessP, lex_lt, sw_fold, lenI_ok])
        exact .r ⟨k1, k2, fun h => absurd h c⟩
    obtain ⟨k1, k2, k3⟩ := hj
    by_cases c : i' > j'
    · (simp (disch := first | omega | assumption | (simp only [List.length_set, sw_len]; omega)) only [idx_nth, addI_ok, subI_ok, mulI_ok, quoI_ok, bind_s, gb_true, gb_false, cond_t, cond_f, dt_, df_, Bool.true_and, Bool.false_and, Bool.not_true, Bool.not_false, el2, el3, el4, elS_inl, elS_inr, lessP, lex_lt, sw_fold, lenI_ok])
      refine .r ⟨by dsimp only; omega, by dsimp only; omega, h4, fun p q m1 m2 m3 m4 => ?_⟩
      dsimp only at *
      obtain ⟨k, n1, n2, n3⟩ := h4.src q (by omega) m3
      rw [n3]
      exact weakP.tr _ _ _ (g3 p m1 m4) (hmin k n1 n2)
    · have hne : i' ≠ j' := fun h => by
        have e1 := g4 (by omega)
        have e2 := k3 (by omega)
        rw [h, e2] at e1; cases e1
      (simp (disch := first | omega | assumption | (simp only [List.length_set, sw_len]; omega)) only [idx_nth, addI_ok, subI_ok, mulI_ok, quoI_ok, bind_s, gb_true, gb_false, cond_t, cond_f, dt_, df_, Bool.true_and, Bool.false_and, Bool.not_true, Bool.not_false, el2, el3, el4, elS_inl, elS_inr, lessP, lex_lt, sw_fold, lenI_ok])
      have hs : ∀ k, 0 ≤ k → nth (sw d j' i') k = if k = j' then nth d i' else if k = i' then nth d j' else nth d k := fun k hk => nth_sw (by omega) (by omega) (by omega) (by omega) hk
      refine .l ⟨by dsimp only; omega, by dsimp only; omega, by dsimp only; omega, h4.tr (.sw h0 (by omega) (by omega) (by omega) (by omega) (by omega)), ?_, fun k m1 m2 => ?_⟩ (by dsimp only; omega)
      · dsimp only
        rw [hs a h0, if_neg (by omega), if_neg (by omega), h5]
      · dsimp only at *
        rw [hs k (by omega), if_neg (by omega)]
        by_cases e : k = i'
        · rw [if_pos e]; exact k3 (by omega)
        · rw [if_neg e]; exact g3 k m1 (by omega)
  · obtain ⟨i, d⟩ := o
    show Gets (some (i, d)) _
    exact .s ho
theorem ptn_fin {l d : List Prefix} {a b j : Int} (h0 : 0 ≤ a) (hb : b ≤ l.length) (h1 : a ≤ j) (h2 : j < b) (hS : Same l d a b) (hlo : ∀ k, a < k → k ≤ j → ltL (nth d a) (nth d k) = false) (hhi : ∀ k, j < k → k < b → ltL (nth d k) (nth d a) = false) : a ≤ j ∧ j < b ∧ Same l (sw d a j) a b ∧ (∀ k, a ≤ k → k < j → ltL (nth (sw d a j) j) (nth (sw d a j) k) = false) ∧ (∀ k, j < k → k < b → ltL (nth (sw d a j) k) (nth (sw d a j) j) = false) := by
  have hL := hS.len
  have hs : ∀ k, 0 ≤ k → nth (sw d a j) k = if k = a then nth d j else if k = j then nth d a else nth d k := fun k hk => nth_sw (by omega) (by omega) (by omega) (by omega) hk
  have hj : nth (sw d a j) j = nth d a := by
    rw [hs j (by omega)]
    split
    · rename_i e; rw [e]
    · rw [if_pos rfl]
  refine ⟨h1, h2, hS.tr (.sw h0 (by omega) (by omega) (by omega) (by omega) (by omega)), fun k k1 k2 => ?_, fun k k1 k2 => ?_⟩
  · rw [hj, hs k (by omega)]
    by_cases e : k = a
    · rw [if_pos e]; exact hlo j (by omega) (Int.le_refl _)
    · rw [if_neg e, if_neg (by omega)]; exact hlo k (by omega) (by omega)
  · rw [hj, hs k (by omega), if_neg (by omega), if_neg (by omega)]
    exact hhi k k1 k2
end Go.Proofs.Ytpknphecmahkaaa.Tr
namespace Go.Proofs.Ytpknphecmahkaaa.Tr
open Go
set_option maxHeartbeats 1000000
theorem ptn_get {l : List Prefix} {a b pv : Int} (hA : AllPM l) (h0 : 0 ≤ a) (hp : a ≤ pv) (hp2 : pv < b) (hb : b ≤ l.length) (hl : (l.length : Int) ≤ 281474976710656) : Gets (slices_partitionCmpFunc_api_Prefix l a b pv cmpP) (fun r => a ≤ r.1 ∧ r.1 < b ∧ Same l r.2.2 a b ∧ (∀ k, a ≤ k → k < r.1 → ltL (nth r.2.2 r.1) (nth r.2.2 k) = false) ∧ (∀ k, r.1 < k → k < b → ltL (nth r.2.2 k) (nth r.2.2 r.1) = false)) := by
  unfold slices_partitionCmpFunc_api_Prefix
  simp (disch := first | omega | (simp only [List.length_set, sw_len]; omega)) only [idx_nth, addI_ok, subI_ok, bind_s, sw_fold]
  have hW : Same l (sw l pv a) a b := .sw h0 hb (by omega) (by omega) (by omega) (by omega)
  have hL := hW.len
  have hAd := AllPM.same (by first | assumption | exact AllPM.sw (by assumption) (by omega) (by omega) (by omega) (by omega)) hW
  revert hW hL hAd
  generalize sw l pv a = d
  intro hW hL hAd
  refine Gets.b (Gets.loop (I := fun i' => a < i' ∧ i' ≤ b - 1 + 1 ∧ ∀ k, a < k → k < i' → ltL (nth d a) (nth d k) = false) (μ := fun i' => (b - i').toNat) (R := fun i' => a < i' ∧ i' ≤ b - 1 + 1 ∧ (∀ k, a < k → k < i' → ltL (nth d a) (nth d k) = false) ∧ (i' ≤ b - 1 → ltL (nth d i') (nth d a) = false)) (fun i' hi => ?_) ⟨by omega, by omega, fun k k1 k2 => by omega⟩ (by omega)) (fun i hi => ?_)
  · obtain ⟨g1, g2, g3⟩ := hi
    unfold slices_partitionCmpFunc_api_Prefix_l1
    by_cases c : i' ≤ b - 1
    · (simp (disch := first | omega | assumption | (simp only [List.length_set, sw_len]; omega)) only [idx_nth, addI_ok, subI_ok, mulI_ok, quoI_ok, bind_s, gb_true, gb_false, cond_t, cond_f, dt_, df_, Bool.true_and, Bool.false_and, Bool.not_true, Bool.not_false, el2, el3, el4, elS_inl, elS_inr, lessP, lex_lt, sw_fold, lenI_ok])
      refine Gets.c (fun e => ?_) (fun e => .r ⟨g1, g2, g3, fun _ => e⟩)
      refine .l ⟨by omega, by omega, fun k k1 k2 => ?_⟩ (by omega)
      by_cases e2 : k = i'
      · subst e2; exact weakP.asym _ _ e
      · exact g3 k k1 (by omega)
    · (simp (disch := first | omega | assumption | (simp only [List.length_set, sw_len]; omega)) only [idx_nth, addI_ok, subI_ok, mulI_ok, quoI_ok, bind_s, gb_true, gb_false, cond_t, cond_f, dt_, df_, Bool.true_and, Bool.false_and, Bool.not_true, Bool.not_false, el2, el3, el4, elS_inl, elS_inr, lessP, lex_lt, sw_fold, lenI_ok])
      exact .r ⟨g1, g2, g3, fun h => absurd h c⟩
  obtain ⟨g1, g2, g3, g4⟩ := hi
  refine Gets.b (Gets.loop (I := fun j' => i ≤ j' + 1 ∧ j' ≤ b - 1 ∧ ∀ k, j' < k → k < b → ltL (nth d k) (nth d a) = false) (μ := fun j' => (j' - a).toNat) (R := fun j' => i ≤ j' + 1 ∧ j' ≤ b - 1 ∧ (∀ k, j' < k → k < b → ltL (nth d k) (nth d a) = false) ∧ (i ≤ j' → ltL (nth d j') (nth d a) = true)) (fun j' hj => ?_) ⟨by omega, by omega, fun k k1 k2 => by omega⟩ (by omega)) (fun j hj => ?_)
  · obtain ⟨k1, k2, k3⟩ := hj
    unfold slices_partitionCmpFunc_api_Prefix_l2
    by_cases c : i ≤ j'
    · (simp (disch := first | omega | assumption | (simp only [List.length_set, sw_len]; omega)) only [idx_nth, addI_ok, subI_ok, mulI_ok, quoI_ok, bind_s, gb_true, gb_false, cond_t, cond_f, dt_, df_, Bool.true_and, Bool.false_and, Bool.not_true, Bool.not_false, el2, el3, el4, elS_inl, elS_inr, lessP, lex_lt, sw_fold, lenI_ok])
      refine Gets.c (fun e => ?_) (fun e => ?_)
      · have e : ltL (nth d j') (nth d a) = false := by simpa using e
        refine .l ⟨by omega, by omega, fun k m1 m2 => ?_⟩ (by omega)
        by_cases e2 : k = j'
        · subst e2; exact e
        · exact k3 k (by omega) m2
      · have e : ltL (nth d j') (nth d a) = true := by simpa using e
        exact .r ⟨k1, k2, k3, fun _ => e⟩
    · (simp (disch := first | omega | assumption | (simp only [List.length_set, sw_len]; omega)) only [idx_nth, addI_ok, subI_ok, mulI_ok, quoI_ok, bind_s, gb_true, gb_false, cond_t, cond_f, dt_, df_, Bool.true_and, Bool.false_and, Bool.not_true, Bool.not_false, el2, el3, el4, elS_inl, elS_inr, lessP, lex_lt, sw_fold, lenI_ok])
      exact .r ⟨k1, k2, k3, fun h => absurd h c⟩
  obtain ⟨k1, k2, k3, k4⟩ := hj
  by_cases c : i > j
  · (simp (disch := first | omega | assumption | (simp only [List.length_set, sw_len]; omega)) only [idx_nth, addI_ok, subI_ok, mulI_ok, quoI_ok, bind_s, gb_true, gb_false, cond_t, cond_f, dt_, df_, Bool.true_and, Bool.false_and, Bool.not_true, Bool.not_false, el2, el3, el4, elS_inl, elS_inr, lessP, lex_lt, sw_fold, lenI_ok])
    exact .s (ptn_fin h0 hb (by omega) (by omega) hW (fun k m1 m2 => g3 k m1 (by omega)) k3)
  simp (disch := first | omega | (simp only [List.length_set, sw_len]; omega)) only [idx_nth, addI_ok, subI_ok, bind_s, sw_fold, df_, cond_f]
  have stepS : ∀ {d : List Prefix} {i j : Int}, Same l d a b → a < i → j < b → i ≤ j → (∀ k, a < k → k < i → ltL (nth d a) (nth d k) = false) → (∀ k, j < k → k < b → ltL (nth d k) (nth d a) = false) → ltL (nth d i) (nth d a) = false → ltL (nth d j) (nth d a) = true → a < i + 1 ∧ j - 1 < b ∧ i + 1 ≤ j - 1 + 1 ∧ Same l (sw d j i) a b ∧ (∀ k, a < k → k < i + 1 → ltL (nth (sw d j i) a) (nth (sw d j i) k) = false) ∧ (∀ k, j - 1 < k → k < b → ltL (nth (sw d j i) k) (nth (sw d j i) a) = false) := by
    intro d i j hW h1 h2 h3 g3 k3 e1 e2
    have hL := hW.len
    have hAd := AllPM.same (by first | assumption | exact AllPM.sw (by assumption) (by omega) (by omega) (by omega) (by omega)) hW
    have hs : ∀ k, 0 ≤ k → nth (sw d j i) k = if k = j then nth d i else if k = i then nth d j else nth d k := fun k hk => nth_sw (by omega) (by omega) (by omega) (by omega) hk
    have hne : i ≠ j := fun h => by rw [h, e2] at e1; cases e1
    refine ⟨by omega, by omega, by omega, hW.tr (.sw h0 (by omega) (by omega) (by omega) (by omega) (by omega)), fun k m1 m2 => ?_, fun k m1 m2 => ?_⟩
    · rw [hs a h0, if_neg (by omega), if_neg (by omega), hs k (by omega), if_neg (by omega)]
      by_cases e : k = i
      · rw [if_pos e]; exact weakP.asym _ _ e2
      · rw [if_neg e]; exact g3 k m1 (by omega)
    · rw [hs a h0, if_neg (by omega), if_neg (by omega), hs k (by omega)]
      by_cases e : k = j
      · rw [if_pos e]; exact e1
      · rw [if_neg e, if_neg (by omega)]; exact k3 k (by omega) m2
  refine Gets.b (Gets.loop (I := fun s => a < s.1 ∧ s.2.1 < b ∧ s.1 ≤ s.2.1 + 1 ∧ Same l s.2.2 a b ∧ (∀ k, a < k → k < s.1 → ltL (nth s.2.2 a) (nth s.2.2 k) = false) ∧ (∀ k, s.2.1 < k → k < b → ltL (nth s.2.2 k) (nth s.2.2 a) = false)) (μ := fun s => (b - s.1).toNat) (R := fun r => a ≤ r.1 ∧ r.1 < b ∧ Same l r.2 a b ∧ (∀ k, a < k → k ≤ r.1 → ltL (nth r.2 a) (nth r.2 k) = false) ∧ (∀ k, r.1 < k → k < b → ltL (nth r.2 k) (nth r.2 a) = false)) (fun s hs => ?_) (stepS hW g1 (by omega) (by omega) g3 k3 (g4 (by omega)) (k4 (by omega))) (by dsimp only; omega)) (fun o ho => ?_)
  · clear g1 g2 g3 g4 k1 k2 k3 k4 c hW hL
    obtain ⟨i, j, d⟩ := s
    obtain ⟨h1, h2, h3, h4, h5, h6⟩ := hs
    dsimp only at *
    have hL := h4.len
    have hAd := AllPM.same (by first | assumption | exact AllPM.sw (by assumption) (by omega) (by omega) (by omega) (by omega)) h4
    unfold slices_partitionCmpFunc_api_Prefix_l3
    refine Gets.b (Gets.loop (I := fun i' => i ≤ i' ∧ i' ≤ j + 1 ∧ ∀ k, a < k → k < i' → ltL (nth d a) (nth d k) = false) (μ := fun i' => (b - i').toNat) (R := fun i' => i ≤ i' ∧ i' ≤ j + 1 ∧ (∀ k, a < k → k < i' → ltL (nth d a) (nth d k) = false) ∧ (i' ≤ j → ltL (nth d i') (nth d a) = false)) (fun i' hi => ?_) ⟨Int.le_refl _, h3, h5⟩ (by omega)) (fun i' hi => ?_)
    · obtain ⟨g1, g2, g3⟩ := hi
      unfold slices_partitionCmpFunc_api_Prefix_l4
      by_cases c : i' ≤ j
      · (simp (disch := first | omega | assumption | (simp only [List.length_set, sw_len]; omega)) only [idx_nth, addI_ok, subI_ok, mulI_ok, quoI_ok, bind_s, gb_true, gb_false, cond_t, cond_f, dt_, df_, Bool.true_and, Bool.false_and, Bool.not_true, Bool.not_false, el2, el3, el4, elS_inl, elS_inr, lessP, lex_lt, sw_fold, lenI_ok])
        refine Gets.c (fun e => ?_) (fun e => .r ⟨g1, g2, g3, fun _ => e⟩)
        refine .l ⟨by omega, by omega, fun k k1 k2 => ?_⟩ (by omega)
        by_cases e2 : k = i'
        · subst e2; exact weakP.asym _ _ e
        · exact g3 k k1 (by omega)
      · (simp (disch := first | omega | assumption | (simp only [List.length_set, sw_len]; omega)) only [idx_nth, addI_ok, subI_ok, mulI_ok, quoI_ok, bind_s, gb_true, gb_false, cond_t, cond_f, dt_, df_, Bool.true_and, Bool.false_and, Bool.not_true, Bool.not_false, el2, el3, el4, elS_inl, elS_inr, lessP, lex_lt, sw_fold, lenI_ok])
        exact .r ⟨g1, g2, g3, fun h => absurd h c⟩
    obtain ⟨g1, g2, g3, g4⟩ := hi
    refine Gets.b (Gets.loop (I := fun j' => i' ≤ j' + 1 ∧ j' ≤ j ∧ ∀ k, j' < k → k < b → ltL (nth d k) (nth d a) = false) (μ := fun j' => (j' - a).toNat) (R := fun j' => i' ≤ j' + 1 ∧ j' ≤ j ∧ (∀ k, j' < k → k < b → ltL (nth d k) (nth d a) = false) ∧ (i' ≤ j' → ltL (nth d j') (nth d a) = true)) (fun j' hj => ?_) ⟨by omega, Int.le_refl _, h6⟩ (by omega)) (fun j' hj => ?_)
    · obtain ⟨k1, k2, k3⟩ := hj
      unfold slices_partitionCmpFunc_api_Prefix_l5
      by_cases c : i' ≤ j'
      · (simp (disch := first | omega | assumption | (simp only [List.length_set, sw_len]; omega)) only [idx_nth, addI_ok, subI_ok, mulI_ok, quoI_ok, bind_s, gb_true, gb_false, cond_t, cond_f, dt_, df_, Bool.true_and, Bool.false_and, Bool.not_true, Bool.not_false, el2, el3, el4, elS_inl, elS_inr, lessP, lex_lt, sw_fold, lenI_ok])
        refine Gets.c (fun e => ?_) (fun e => ?_)
        · have e : ltL (nth d j') (nth d a) = false := by simpa using e
          refine .l ⟨by omega, by omega, fun k m1 m2 => ?_⟩ (by omega)
          by_cases e2 : k = j'
          · subst e2; exact e
          · exact k3 k (by omega) m2
        · have e : ltL (nth d j') (nth d a) = true := by simpa using e
          exact .r ⟨k1, k2, k3, fun _ => e⟩
      · (simp (disch := first | omega | assumption | (simp only [List.length_set, sw_len]; omega)) only [idx_nth, addI_ok, subI_ok, mulI_ok, quoI_ok, bind_s, gb_true, gb_false, cond_t, cond_f, dt_, df_, Bool.true_and, Bool.false_and, Bool.not_true, Bool.not_false, el2, el3, el4, elS_inl, elS_inr, lessP, lex_lt, sw_fold, lenI_ok])
        exact .r ⟨k1, k2, k3, fun h => absurd h c⟩
    obtain ⟨k1, k2, k3, k4⟩ := hj
    by_cases c : i' > j'
    · (simp (disch := first | omega | assumption | (simp only [List.length_set, sw_len]; omega)) only [idx_nth, addI_ok, subI_ok, mulI_ok, quoI_ok, bind_s, gb_true, gb_false, cond_t, cond_f, dt_, df_, Bool.true_and, Bool.false_and, Bool.not_true, Bool.not_false, el2, el3, el4, elS_inl, elS_inr, lessP, lex_lt, sw_fold, lenI_ok])
      exact .r ⟨by dsimp only; omega, by dsimp only; omega, h4, fun k m1 m2 => g3 k m1 (by dsimp only at m2; omega), k3⟩
    · (simp (disch := first | omega | assumption | (simp only [List.length_set, sw_len]; omega)) only [idx_nth, addI_ok, subI_ok, mulI_ok, quoI_ok, bind_s, gb_true, gb_false, cond_t, cond_f, dt_, df_, Bool.true_and, Bool.false_and, Bool.not_true, Bool.not_false, el2, el3, el4, elS_inl, elS_inr, lessP, lex_lt, sw_fold, lenI_ok])
      exact .l (stepS h4 (by omega) (by omega) (by omega) g3 k3 (g4 (by omega)) (k4 (by omega))) (by dsimp only; omega)
  · obtain ⟨j', d'⟩ := o
    obtain ⟨q1, q2, q3, q4, q5⟩ := ho
    have hL' := q3.len
    dsimp only at *
    (simp (disch := first | omega | assumption | (simp only [List.length_set, sw_len]; omega)) only [idx_nth, addI_ok, subI_ok, mulI_ok, quoI_ok, bind_s, gb_true, gb_false, cond_t, cond_f, dt_, df_, Bool.true_and, Bool.false_and, Bool.not_true, Bool.not_false, el2, el3, el4, elS_inl, elS_inr, lessP, lex_lt, sw_fold, lenI_ok])
    exact .s (ptn_fin h0 hb q1 q2 q3 q4 q5)
def Fr (l : List Prefix) (a0 a b b0 : Int) : Prop := ∀ p q, a0 ≤ p → p < q → q < b0 → (p < a ∨ b ≤ q) → ltL (nth l q) (nth l p) = false
theorem Fr.same {l l' : List Prefix} {a0 a b b0 : Int} (h : Fr l a0 a b b0) (g : Same l l' a b) (h0 : 0 ≤ a0) (h1 : a0 ≤ a) (h2 : b ≤ b0) : Fr l' a0 a b b0 := fun p q g1 g2 g3 g4 => by
  by_cases e : a ≤ p ∧ p < b
  · obtain ⟨k, k1, k2, k3⟩ := g.src p e.1 e.2
    rw [k3, g.out q (by omega) (by omega)]
    exact h k q (by omega) (by omega) g3 (by omega)
  · rw [g.out p (by omega) (by omega)]
    by_cases e2 : a ≤ q ∧ q < b
    · obtain ⟨k, k1, k2, k3⟩ := g.src q e2.1 e2.2
      rw [k3]
      exact h p k g1 (by omega) (by omega) (by omega)
    · rw [g.out q (by omega) (by omega)]
      exact h p q g1 g2 g3 g4
theorem Fr.srt {l : List Prefix} {a0 a b b0 : Int} (h : Fr l a0 a b b0) (g : Srt ltL l a b) : Srt ltL l a0 b0 := fun p q h1 h2 h3 => by
  by_cases e : p < a ∨ b ≤ q
  · exact h p q h1 h2 h3 e
  · exact g p q (by omega) h2 (by omega)
def Pre (l : List Prefix) (a b : Int) : Prop := ∀ k, 0 < a → a ≤ k → k < b → ltL (nth l k) (nth l (a - 1)) = false
theorem Pre.same {l l' : List Prefix} {a b : Int} (h : Pre l a b) (g : Same l l' a b) : Pre l' a b := fun k h1 h2 h3 => by
  obtain ⟨j, j1, j2, j3⟩ := g.src k h2 h3
  rw [j3, g.out (a - 1) (by omega) (by omega)]
  exact h j h1 j1 j2
theorem pdq_get : ∀ (n : Nat) {l : List Prefix} {a b lim : Int}, AllPM l → (b - a).toNat < n → 0 ≤ a → a ≤ b → b ≤ l.length → (l.length : Int) ≤ 281474976710656 → 0 ≤ lim → lim ≤ 64 → Pre l a b → Gets (slices_pdqsortCmpFunc_api_Prefix_n n l a b lim cmpP) (fun l' => Same l l' a b ∧ Srt ltL l' a b) := by
  intro n
  induction n with
  | zero => intro l a b lim hA h; omega
  | succ n ih =>
    intro l a b lim hA hn h0 hab hb hl hm0 hm1 hpre
    unfold slices_pdqsortCmpFunc_api_Prefix_n slices_pdqsortCmpFunc_api_Prefix_s
    refine Gets.loop (I := fun s => a ≤ s.1 ∧ s.1 ≤ s.2.1 ∧ s.2.1 ≤ b ∧ 0 ≤ s.2.2.1 ∧ s.2.2.1 ≤ 64 ∧ Same l s.2.2.2.2.2 a b ∧ Fr s.2.2.2.2.2 a s.1 s.2.1 b ∧ Pre s.2.2.2.2.2 s.1 s.2.1) (μ := fun s => (s.2.1 - s.1).toNat) (fun s hs => ?_) ⟨by dsimp only; omega, by dsimp only; omega, by dsimp only; omega, hm0, hm1, .rf, fun p q h1 h2 h3 h4 => by dsimp only at h4; omega, hpre⟩ (by dsimp only; omega)
    obtain ⟨a', b', lim, wb, wp, d⟩ := s
    obtain ⟨h1, h2, h3, h4, h5, h6, h7, h8⟩ := hs
    dsimp only at *
    have hL := h6.len
    have hAd := AllPM.same (by first | assumption | exact AllPM.sw (by assumption) (by omega) (by omega) (by omega) (by omega)) h6
    unfold slices_pdqsortCmpFunc_api_Prefix_l1
    have fin : ∀ {d' : List Prefix}, Same d d' a' b' → Srt ltL d' a' b' → Same l d' a b ∧ Srt ltL d' a b := fun g1 g2 => ⟨h6.tr (g1.up h0 h1 h3), (h7.same g1 h0 h1 h3).srt g2⟩
    rw [subI_ok (by omega) (by omega), bind_s]
    refine Gets.c (fun e => ?_) (fun e => ?_)
    · refine Gets.b (ins_get (by first | assumption | exact AllPM.sw (by assumption) (by omega) (by omega) (by omega) (by omega)) (by omega) h2 (by omega) (by omega)) (fun d' hd => ?_)
      rw [lenI_ok hd.1.len, bind_s]
      exact .r (fin hd.1 hd.2)
    have e := of_decide_eq_false e
    refine Gets.c (fun e0 => ?_) (fun e0 => ?_)
    · refine Gets.b (heap_get (by first | assumption | exact AllPM.sw (by assumption) (by omega) (by omega) (by omega) (by omega)) (by omega) (by omega) (by omega) (by omega)) (fun d' hd => ?_)
      rw [lenI_ok hd.1.len, bind_s]
      exact .r (fin hd.1 hd.2)
    have e0 := of_decide_eq_false e0
    refine Gets.b (P := fun o => 0 ≤ o.1 ∧ o.1 ≤ 64 ∧ Same d o.2 a' b') ?_ (fun o ho => ?_)
    · refine Gets.c (fun _ => ?_) (fun _ => .s ⟨h4, h5, .rf⟩)
      refine Gets.b (brk_get (by first | assumption | exact AllPM.sw (by assumption) (by omega) (by omega) (by omega) (by omega)) (by omega) h2 (by omega) (by omega)) (fun d' hd => ?_)
      rw [lenI_ok hd.len, bind_s, subI_ok (by omega) (by omega), bind_s]
      exact .s ⟨by dsimp only; omega, by dsimp only; omega, hd⟩
    obtain ⟨lim2, d1⟩ := o
    obtain ⟨m1, m2, m3⟩ := ho
    simp only [el2]
    have hL1 := m3.len
    have hAd := AllPM.same (by first | assumption | exact AllPM.sw (by assumption) (by omega) (by omega) (by omega) (by omega)) m3
    dsimp only at m1 m2 m3 hL1
    refine Gets.b (piv_get (by first | assumption | exact AllPM.sw (by assumption) (by omega) (by omega) (by omega) (by omega)) (by omega) (by omega) (by omega) (by omega)) (fun r hr => ?_)
    refine Gets.b (P := fun o => a' ≤ o.1 ∧ o.1 < b' ∧ Same d o.2.2 a' b') ?_ (fun o ho => ?_)
    · refine Gets.c (fun _ => ?_) (fun _ => .s ⟨hr.1, hr.2, m3⟩)
      refine Gets.b (rev_get (by first | assumption | exact AllPM.sw (by assumption) (by omega) (by omega) (by omega) (by omega)) (by omega) h2 (by omega) (by omega)) (fun d' hd => ?_)
      rw [lenI_ok hd.len, bind_s]
      (simp (disch := first | omega | assumption | (simp only [List.length_set, sw_len]; omega)) only [idx_nth, addI_ok, subI_ok, mulI_ok, quoI_ok, bind_s, gb_true, gb_false, cond_t, cond_f, dt_, df_, Bool.true_and, Bool.false_and, Bool.not_true, Bool.not_false, el2, el3, el4, elS_inl, elS_inr, lessP, lex_lt, sw_fold, lenI_ok])
      exact .s ⟨by dsimp only; omega, by dsimp only; omega, m3.tr hd⟩
    obtain ⟨pv, hint, d2⟩ := o
    obtain ⟨p1, p2, p3⟩ := ho
    simp only [el3]
    have hL2 := p3.len
    have hAd := AllPM.same (by first | assumption | exact AllPM.sw (by assumption) (by omega) (by omega) (by omega) (by omega)) p3
    dsimp only at p1 p2 p3 hL2
    refine Gets.b (P := Sum.elim (fun d3 => Same d d3 a' b') (fun d3 => Same d d3 a' b' ∧ Srt ltL d3 a' b')) ?_ (fun o ho => ?_)
    · refine Gets.c (fun _ => ?_) (fun _ => .s (show Same d d2 a' b' from p3))
      refine Gets.b (part_get (by first | assumption | exact AllPM.sw (by assumption) (by omega) (by omega) (by omega) (by omega)) (by omega) (by omega) (by omega) (by omega) (h8.same p3)) (fun r hr => ?_)
      rw [lenI_ok hr.1.len, bind_s]
      refine Gets.c (fun e => .s (show _ ∧ _ from ⟨p3.tr hr.1, hr.2 e⟩)) (fun e => .s (show Same _ _ _ _ from p3.tr hr.1))
    rcases o with d3 | d3
    · rw [elS_inl]
      have ho : Same d d3 a' b' := ho
      have hL3 := ho.len
      have hAd := AllPM.same (by first | assumption | exact AllPM.sw (by assumption) (by omega) (by omega) (by omega) (by omega)) ho
      have hF3 := h7.same ho h0 h1 h3
      have hP3 := h8.same ho
      have hS3 : Same l d3 a b := h6.tr (ho.up h0 h1 h3)
      have gt : decide (a' > 0) = true → 0 < a' := fun h => of_decide_eq_true h
      refine Gets.b (Gets.g (P := fun v => v = a' - 1) (fun c => .e (subI_ok (by omega) (by omega)))) (fun x39 h39 => ?_)
      refine Gets.b (Gets.g (P := fun v => v = nth d3 (a' - 1)) (fun c => by rw [h39 c, idx_nth (by have := gt c; omega) (by omega)]; exact .s rfl)) (fun x40 h40 => ?_)
      refine Gets.b (Gets.g (P := fun v => v = nth d3 pv) (fun c => by rw [idx_nth (by omega) (by omega)]; exact .s rfl)) (fun x41 h41 => ?_)
      refine Gets.b (Gets.g (P := fun v => v = lexI (nth d3 (a' - 1)) (nth d3 pv)) (fun c => by rw [h40 c, h41 c, lessP (by first | assumption | exact AllPM.sw (by assumption) (by omega) (by omega) (by omega) (by omega)) (by have := gt c; omega) (by omega) (by omega) (by omega)]; exact .s rfl)) (fun x42 h42 => ?_)
      refine Gets.c (fun ec => ?_) (fun _ => ?_)
      · rw [Bool.and_eq_true] at ec
        obtain ⟨c, ec⟩ := ec
        have ex : ltL (nth d3 (a' - 1)) (nth d3 pv) = false := by
          rw [h42 c, lex_lt] at ec; simpa using ec
        have c0 := gt c
        refine Gets.b (pteq_get (by first | assumption | exact AllPM.sw (by assumption) (by omega) (by omega) (by omega) (by omega)) (by omega) p1 p2 (by omega) (by omega) (fun k k1 k2 => weakP.tr _ _ _ ex (hP3 k c0 k1 k2))) (fun r hr => ?_)
        obtain ⟨r1, r2, r3, r4⟩ := hr
        rw [lenI_ok r3.len, bind_s]
        have hF4 := hF3.same r3 h0 h1 h3
        refine .l ⟨by dsimp only; omega, r2, h3, m1, m2, hS3.tr (r3.up h0 h1 h3), fun p q g1 g2 g3 g4 => ?_, fun k k1 k2 k3 => ?_⟩ (by dsimp only; omega)
        · dsimp only at *
          by_cases e : p < a' ∨ b' ≤ q
          · exact hF4 p q g1 g2 g3 e
          · exact r4 p q (by omega) g2 (by omega) (by omega)
        · dsimp only at *
          exact r4 (r.1 - 1) k (by omega) (by omega) k3 (by omega)
      · refine Gets.b (ptn_get (by first | assumption | exact AllPM.sw (by assumption) (by omega) (by omega) (by omega) (by omega)) (by omega) p1 p2 (by omega) (by omega)) (fun x hx => ?_)
        obtain ⟨mid, wq, d4⟩ := x
        obtain ⟨r1, r2, r3, r4, r5⟩ := hx
        dsimp only at *
        have hL4 := r3.len
        have hAd := AllPM.same (by first | assumption | exact AllPM.sw (by assumption) (by omega) (by omega) (by omega) (by omega)) r3
        rw [lenI_ok r3.len, bind_s, subI_ok (by omega) (by omega), bind_s, subI_ok (by omega) (by omega), bind_s, quoI_ok (by omega) (by omega), bind_s]
        have hF4 := hF3.same r3 h0 h1 h3
        have hP4 := hP3.same r3
        have hS4 := hS3.tr (r3.up h0 h1 h3)
        have hge : ∀ k, mid ≤ k → k < b' → ltL (nth d4 k) (nth d4 mid) = false := fun k k1 k2 => by
          by_cases e : k = mid
          · subst e; exact weakP.rf _
          · exact r5 k (by omega) k2
        refine Gets.c (fun _ => ?_) (fun _ => ?_)
        · refine Gets.b (ih (by first | assumption | exact AllPM.sw (by assumption) (by omega) (by omega) (by omega) (by omega)) (by omega) (by omega) r1 (by omega) (by omega) m1 m2 (fun k k1 k2 k3 => hP4 k k1 k2 (by omega))) (fun d5 hd => ?_)
          obtain ⟨s1, s2⟩ := hd
          rw [lenI_ok s1.len, bind_s, addI_ok (by omega) (by omega), bind_s]
          have s3 : Same d4 d5 a' b' := s1.up (by omega) (Int.le_refl _) (by omega)
          refine .l ⟨by dsimp only; omega, by dsimp only; omega, h3, m1, m2, hS4.tr (s3.up h0 h1 h3), fun p q g1 g2 g3 g4 => ?_, fun k k1 k2 k3 => ?_⟩ (by dsimp only; omega)
          · dsimp only at *
            by_cases e : p < a' ∨ b' ≤ q
            · exact (hF4.same s3 h0 h1 h3) p q g1 g2 g3 e
            · by_cases e2 : q < mid
              · exact s2 p q (by omega) g2 e2
              · rw [s1.out q (by omega) (by omega)]
                have t := hge q (by omega) (by omega)
                by_cases e3 : p < mid
                · obtain ⟨k, k1, k2, k3⟩ := s1.src p (by omega) e3
                  rw [k3]
                  exact weakP.tr _ _ _ (r4 k k1 k2) t
                · rw [s1.out p (by omega) (by omega)]
                  have : p = mid := by omega
                  subst this; exact t
          · dsimp only at *
            rw [s1.out k (by omega) (by omega), s1.out (mid + 1 - 1) (by omega) (by omega), show mid + 1 - 1 = mid by omega]
            exact hge k (by omega) k3
        · rw [addI_ok (by omega) (by omega), bind_s]
          refine Gets.b (ih (by first | assumption | exact AllPM.sw (by assumption) (by omega) (by omega) (by omega) (by omega)) (by omega) (by omega) (by omega) (by omega) (by omega) m1 m2 (fun k k1 k2 k3 => by rw [show mid + 1 - 1 = mid by omega]; exact hge k (by omega) k3)) (fun d5 hd => ?_)
          obtain ⟨s1, s2⟩ := hd
          rw [lenI_ok s1.len, bind_s]
          have s3 : Same d4 d5 a' b' := s1.up (by omega) (by omega) (Int.le_refl _)
          refine .l ⟨h1, r1, by dsimp only; omega, m1, m2, hS4.tr (s3.up h0 h1 h3), fun p q g1 g2 g3 g4 => ?_, fun k k1 k2 k3 => (hP4.same s3) k k1 k2 (by dsimp only at k3; omega)⟩ (by dsimp only; omega)
          dsimp only at *
          by_cases e : p < a' ∨ b' ≤ q
          · exact (hF4.same s3 h0 h1 h3) p q g1 g2 g3 e
          · by_cases e2 : mid < p
            · exact s2 p q (by omega) g2 (by omega)
            · rw [s1.out p (by omega) (by omega)]
              by_cases e3 : q = mid
              · rw [e3, s1.out mid (by omega) (by omega)]
                exact r4 p (by omega) (by omega)
              · obtain ⟨k, k1, k2, k3⟩ := s1.src q (by omega) (by omega)
                rw [k3]
                have t := hge k (by omega) k2
                by_cases e4 : p = mid
                · rw [e4]; exact t
                · exact weakP.tr _ _ _ (r4 p (by omega) (by omega)) t
    · rw [elS_inr]
      exact .r (fin ho.1 ho.2)
theorem sortP_get : ∀ l : List Prefix, l.length ≤ 1000 → (∀ p ∈ l, PM p) → Gets (slices_SortFunc_api_Prefix l (⟨split_order⟩ : F2 Try.prog Prefix Prefix Int)) (fun m => m.Perm l ∧ m.Pairwise fun a b => ¬ PL b a) := by
  intro l hl hA
  have hA : AllPM l := hA
  show Gets (slices_SortFunc_api_Prefix l cmpP) _
  unfold slices_SortFunc_api_Prefix
  refine Gets.b (len_get _) (fun k hk => ?_)
  unfold slices_pdqsortCmpFunc_api_Prefix
  refine Gets.b (pdq_get 18446744073709551616 hA (by omega) (by omega) (by omega) (Int.le_refl _) (by omega) hk.1 hk.2.1 (fun k h => by omega)) (fun l' h => ?_)
  rw [lenI_ok h.1.len, bind_s]
  refine .s ⟨h.1.perm, ?_⟩
  rw [List.pairwise_iff_getElem]
  intro i j hi hj hij
  have e := h.2 (i : Int) (j : Int) (by omega) (by omega) (by have := h.1.len; omega)
  rw [nth_get hi, nth_get hj] at e
  have e := of_decide_eq_false e
  exact fun h => e h.2.2
end Go.Proofs.Ytpknphecmahkaaa.Tr
namespace Go.Proofs.Ytpknphecmahkaaa.Tr
open Go Go.RowKit
set_option maxRecDepth 100000
set_option synthInstance.maxHeartbeats 400000
set_option synthInstance.maxSize 4096
def bywaylaw17_awake : Option Bool :=
  (some ((⟨(32 : Int), (8 : Int), ((Dat.z : (Vec UInt8 16)).set 0 (UInt8.ofNat 10))⟩ : Prefix) : Prefix)).bind fun p_3 => (some ((⟨(32 : Int), (10 : Int), ((Dat.z : (Vec UInt8 16)).set 0 (UInt8.ofNat 10))⟩ : Prefix) : Prefix)).bind fun q_4 => (split_Halves p_3).bind fun r_5 => (split_Whole r_5.2.1).bind fun r_8 => (split_Without p_3 q_4).bind fun r_10 => (split_Apart p_3 (10 : Int)).bind fun r_11 => (split_Range (32 : Int) ((Dat.z : (Vec UInt8 16)).set 0 (UInt8.ofNat 10)) (((((Dat.z : (Vec UInt8 16)).set 0 (UInt8.ofNat 10)).set 1 (UInt8.ofNat 255)).set 2 (UInt8.ofNat 255)).set 3 (UInt8.ofNat 255))).bind fun r_12 => (gb ((((((((((decide (r_5.2.2 = (0 : Int))) && (decide (r_5.1.Len = (9 : Int)))) && (decide (r_5.2.1.Key = (((Dat.z : (Vec UInt8 16)).set 0 (UInt8.ofNat 10)).set 1 (UInt8.ofNat 128))))) && (decide (r_8.2 = (0 : Int)))) && (decide (r_8.1 = p_3))) && (decide (r_10.2 = (0 : Int)))) && (decide ((r_10.1.length : Int) = (2 : Int)))) && (decide (r_11.2 = (0 : Int)))) && (decide ((r_11.1.length : Int) = (4 : Int)))) && (decide (r_12.2 = (0 : Int)))) (bywayref17_Same r_12.1 ([p_3] : List Prefix))).bind fun x_13 => (gb (((((((((((decide (r_5.2.2 = (0 : Int))) && (decide (r_5.1.Len = (9 : Int)))) && (decide (r_5.2.1.Key = (((Dat.z : (Vec UInt8 16)).set 0 (UInt8.ofNat 10)).set 1 (UInt8.ofNat 128))))) && (decide (r_8.2 = (0 : Int)))) && (decide (r_8.1 = p_3))) && (decide (r_10.2 = (0 : Int)))) && (decide ((r_10.1.length : Int) = (2 : Int)))) && (decide (r_11.2 = (0 : Int)))) && (decide ((r_11.1.length : Int) = (4 : Int)))) && (decide (r_12.2 = (0 : Int)))) && x_13) (split_Together ([r_5.2.1, r_5.1] : List Prefix))).bind fun x_14 => (gb (((((((((((decide (r_5.2.2 = (0 : Int))) && (decide (r_5.1.Len = (9 : Int)))) && (decide (r_5.2.1.Key = (((Dat.z : (Vec UInt8 16)).set 0 (UInt8.ofNat 10)).set 1 (UInt8.ofNat 128))))) && (decide (r_8.2 = (0 : Int)))) && (decide (r_8.1 = p_3))) && (decide (r_10.2 = (0 : Int)))) && (decide ((r_10.1.length : Int) = (2 : Int)))) && (decide (r_11.2 = (0 : Int)))) && (decide ((r_11.1.length : Int) = (4 : Int)))) && (decide (r_12.2 = (0 : Int)))) && x_13) (bywayref17_Same x_14 r_12.1)).bind fun x_15 => some ((((((((((((decide (r_5.2.2 = (0 : Int))) && (decide (r_5.1.Len = (9 : Int)))) && (decide (r_5.2.1.Key = (((Dat.z : (Vec UInt8 16)).set 0 (UInt8.ofNat 10)).set 1 (UInt8.ofNat 128))))) && (decide (r_8.2 = (0 : Int)))) && (decide (r_8.1 = p_3))) && (decide (r_10.2 = (0 : Int)))) && (decide ((r_10.1.length : Int) = (2 : Int)))) && (decide (r_11.2 = (0 : Int)))) && (decide ((r_11.1.length : Int) = (4 : Int)))) && (decide (r_12.2 = (0 : Int)))) && x_13) && x_15)
theorem bywaylaw17_awake_c {A : Nat → Prop}   {r : Bool} (w : World)  (hA : ∀ k, w.heap.size ≤ k → A k)   (H : bywaylaw17_awake = some r) :
    Calls Try.prog 7 #[] w (Ret A w (D (r : Bool))) := by
  unfold bywaylaw17_awake at H
  refine enter0 hA Try.func7 rfl Try.ntmps7 rfl  ?_; refine TC.seqS ?_; refine TS.s OpY.assign rfl ?_; refine TS.nil ?_; refine TE.then ?_; refine TC.kp [] [] ?_; refine TC.seqS ?_; refine TS.s (OpY.buildArr (ps := _) ((Dat.z : (Vec UInt8 16)).set 0 (UInt8.ofNat 10)) rfl Try.underlying23 rfl) rfl ?_; refine TS.s (OpY.buildAs (⟨(32 : Int), (8 : Int), ((Dat.z : (Vec UInt8 16)).set 0 (UInt8.ofNat 10))⟩ : Prefix) rfl ⟨_, Try.underlying25, by kernel_rfl⟩ rfl rfl) rfl ?_; refine TS.s (OpY.buildArr (ps := _) ((Dat.z : (Vec UInt8 16)).set 0 (UInt8.ofNat 10)) rfl Try.underlying23 rfl) rfl ?_; refine TS.s (OpY.buildAs (⟨(32 : Int), (10 : Int), ((Dat.z : (Vec UInt8 16)).set 0 (UInt8.ofNat 10))⟩ : Prefix) rfl ⟨_, Try.underlying25, by kernel_rfl⟩ rfl rfl) rfl ?_; refine TS.alloc (α := Prefix) rfl fun b1_0 => ?_; refine TS.alloc (α := Prefix) rfl fun b2_1 => ?_; refine TS.un (OpT.storeq (y := ((⟨(32 : Int), (8 : Int), ((Dat.z : (Vec UInt8 16)).set 0 (UInt8.ofNat 10))⟩ : Prefix) : Prefix)) Pl.one) ?_; refine TS.un (OpT.storeq (y := ((⟨(32 : Int), (10 : Int), ((Dat.z : (Vec UInt8 16)).set 0 (UInt8.ofNat 10))⟩ : Prefix) : Prefix)) Pl.one) ?_; refine TS.nil ?_; refine TE.then ?_; refine TC.kp [1, 2] [b1_0, b2_1] ?_
  obtain ⟨p_3, ep_3, H⟩ := bnd H
  refine TC.nmB b1_0 (nm_one ep_3) ?_
  obtain ⟨q_4, eq_4, H⟩ := bnd H
  refine TC.nmB b2_1 (nm_one eq_4) ?_; refine TC.seqS ?_; refine TS.s (OpD.ldq Pl.one) rfl ?_
  obtain ⟨r_5, er_5, H⟩ := bnd H
  refine TS.s (OpY.call1 fun w v0 hA h0 => split_Halves_c w v0 hA (toD h0) er_5) rfl ?_; refine TS.s OpY.move rfl ?_; refine TS.s (OpY.extract rfl) rfl ?_; refine TS.s (OpY.extract rfl) rfl ?_; refine TS.s (OpY.extract rfl) rfl ?_; refine TS.alloc (α := Prefix) rfl fun b3_5 => ?_; refine TS.alloc (α := Prefix) rfl fun b4_6 => ?_; refine TS.un (OpT.storeq (y := (r_5.1 : Prefix)) Pl.one) ?_; refine TS.un (OpT.storeq (y := (r_5.2.1 : Prefix)) Pl.one) ?_; refine TS.s OpY.assign rfl ?_; refine TS.nil ?_; refine TE.then ?_; refine TC.kp [1, 2, 3, 4, 5] [b1_0, b2_1, b3_5, b4_6] ?_; refine TC.seqS ?_; refine TS.s (OpD.ldq Pl.one) rfl ?_
  obtain ⟨r_8, er_8, H⟩ := bnd H
  refine TS.s (OpY.call1 fun w v0 hA h0 => split_Whole_c w v0 hA (toD h0) er_8) rfl ?_; refine TS.s OpY.move rfl ?_; refine TS.s (OpY.extract rfl) rfl ?_; refine TS.s (OpY.extract rfl) rfl ?_; refine TS.alloc (α := Prefix) rfl fun b6_8 => ?_; refine TS.un (OpT.storeq (y := (r_8.1 : Prefix)) Pl.one) ?_; refine TS.s OpY.assign rfl ?_; refine TS.nil ?_; refine TE.then ?_; refine TC.kp [1, 2, 3, 4, 5, 6, 7] [b1_0, b2_1, b3_5, b4_6, b6_8] ?_; refine TC.seqS ?_; refine TS.s (OpD.ldq Pl.one) rfl ?_; refine TS.s (OpD.ldq Pl.one) rfl ?_
  obtain ⟨r_10, er_10, H⟩ := bnd H
  refine TS.s (OpY.call2 fun w v0 v1 hA h0 h1 => split_Without_c w v0 v1 hA (toD h0) (toD h1) er_10) rfl ?_; refine TS.s OpY.move rfl ?_; refine TS.s (OpY.extract rfl) rfl ?_; refine TS.s (OpY.extract rfl) rfl ?_; refine TS.s OpY.assign rfl ?_; refine TS.s OpY.assign rfl ?_; refine TS.nil ?_; refine TE.then ?_; refine TC.kp [1, 3, 4, 5, 6, 7, 8, 9] [b1_0, b3_5, b4_6, b6_8] ?_; refine TC.seqS ?_; refine TS.s (OpD.ldq Pl.one) rfl ?_
  obtain ⟨r_11, er_11, H⟩ := bnd H
  refine TS.s (OpY.call2 fun w v0 v1 hA h0 h1 => split_Apart_c w v0 v1 hA (toD h0) (toD h1) er_11) rfl ?_; refine TS.s OpY.move rfl ?_; refine TS.s (OpY.extract rfl) rfl ?_; refine TS.s (OpY.extract rfl) rfl ?_; refine TS.s OpY.assign rfl ?_; refine TS.s OpY.assign rfl ?_; refine TS.nil ?_; refine TE.then ?_; refine TC.kp [1, 3, 4, 5, 6, 7, 8, 9, 10, 11] [b1_0, b3_5, b4_6, b6_8] ?_; refine TC.seqS ?_; refine TS.s (OpY.buildArr (ps := _) ((Dat.z : (Vec UInt8 16)).set 0 (UInt8.ofNat 10)) rfl Try.underlying23 rfl) rfl ?_; refine TS.s (OpY.buildArr (ps := _) (((((Dat.z : (Vec UInt8 16)).set 0 (UInt8.ofNat 10)).set 1 (UInt8.ofNat 255)).set 2 (UInt8.ofNat 255)).set 3 (UInt8.ofNat 255)) rfl Try.underlying23 rfl) rfl ?_
  obtain ⟨r_12, er_12, H⟩ := bnd H
  refine TS.s (OpY.call3 fun w v0 v1 v2 hA h0 h1 h2 => split_Range_c w v0 v1 v2 hA (toD h0) (toD h1) (toD h2) er_12) rfl ?_; refine TS.s OpY.move rfl ?_; refine TS.s (OpY.extract rfl) rfl ?_; refine TS.s (OpY.extract rfl) rfl ?_; refine TS.s OpY.assign rfl ?_; refine TS.s OpY.assign rfl ?_; refine TS.nil ?_; refine TE.then ?_; refine TC.kp [1, 3, 4, 5, 6, 7, 8, 9, 10, 11, 12, 13] [b1_0, b3_5, b4_6, b6_8] ?_; refine TC.seqS ?_; refine TS.s OpY.move rfl ?_; refine TS.s OpY.eql rfl ?_; refine TS.s OpY.move rfl ?_; refine TS.g 48 rfl (fun hg => OpY.fieldAddr) rfl ?_; refine TS.g 48 rfl (fun hg => (OpD.ldq (Pl.fld (off := 1) (α := Prefix) (β := Int) Pl.one))) rfl ?_; refine TS.g 48 rfl (fun hg => OpY.eql) rfl ?_; refine TS.s OpY.pickAnd rfl ?_; refine TS.s OpY.move rfl ?_; refine TS.g 53 rfl (fun hg => OpY.fieldAddr) rfl ?_; refine TS.g 53 rfl (fun hg => (OpD.ldq (Pl.fld (off := 2) (α := Prefix) (β := (Vec UInt8 16)) Pl.one))) rfl ?_; refine TS.g 53 rfl (fun hg => (OpY.buildArr (ps := _) (((Dat.z : (Vec UInt8 16)).set 0 (UInt8.ofNat 10)).set 1 (UInt8.ofNat 128)) rfl Try.underlying23 rfl)) rfl ?_; refine TS.g 53 rfl (fun hg => (OpY.eql_agg EqV_23 (by decide) EqG_23 rfl)) rfl ?_; refine TS.s OpY.pickAnd rfl ?_; refine TS.s OpY.move rfl ?_; refine TS.g 59 rfl (fun hg => OpY.move) rfl ?_; refine TS.g 59 rfl (fun hg => OpY.eql) rfl ?_; refine TS.s OpY.pickAnd rfl ?_; refine TS.s OpY.move rfl ?_; refine TS.g 63 rfl (fun hg => (OpD.ldq Pl.one)) rfl ?_; refine TS.g 63 rfl (fun hg => (OpD.ldq Pl.one)) rfl ?_; refine TS.g 63 rfl (fun hg => (OpY.eql_agg EqV_25 (by decide) EqG_25 rfl)) rfl ?_; refine TS.s OpY.pickAnd rfl ?_; refine TS.s OpY.move rfl ?_; refine TS.g 68 rfl (fun hg => OpY.move) rfl ?_; refine TS.g 68 rfl (fun hg => OpY.eql) rfl ?_; refine TS.s OpY.pickAnd rfl ?_; refine TS.s OpY.move rfl ?_; refine TS.g 72 rfl (fun hg => OpY.move) rfl ?_; refine TS.g 72 rfl (fun hg => OpD.len) rfl ?_; refine TS.g 72 rfl (fun hg => OpY.eql) rfl ?_; refine TS.s OpY.pickAnd rfl ?_; refine TS.s OpY.move rfl ?_; refine TS.g 77 rfl (fun hg => OpY.move) rfl ?_; refine TS.g 77 rfl (fun hg => OpY.eql) rfl ?_; refine TS.s OpY.pickAnd rfl ?_; refine TS.s OpY.move rfl ?_; refine TS.g 81 rfl (fun hg => OpY.move) rfl ?_; refine TS.g 81 rfl (fun hg => OpD.len) rfl ?_; refine TS.g 81 rfl (fun hg => OpY.eql) rfl ?_; refine TS.s OpY.pickAnd rfl ?_; refine TS.s OpY.move rfl ?_; refine TS.g 86 rfl (fun hg => OpY.move) rfl ?_; refine TS.g 86 rfl (fun hg => OpY.eql) rfl ?_; refine TS.s OpY.pickAnd rfl ?_; refine TS.s OpY.move rfl ?_; refine TS.g 90 rfl (fun hg => OpY.move) rfl ?_; refine TS.g 90 rfl (fun hg => (OpD.ldq Pl.one)) rfl ?_; refine TS.g 90 rfl (fun hg => (OpY.buildSlice [.tmp 92] rfl rfl (by decide))) rfl ?_
  obtain ⟨x_13, ex_13, H⟩ := bnd H
  refine TS.g 90 rfl (fun hg => (OpY.call2 fun w v0 v1 hA h0 h1 => bywayref17_Same_c w v0 v1 hA (toD h0) (toD h1) (gb_some ex_13 hg.h))) rfl ?_; refine TS.s OpY.pickAnd rfl ?_; refine TS.s OpY.move rfl ?_; refine TS.g 96 rfl (fun hg => (OpD.ldq Pl.one)) rfl ?_; refine TS.g 96 rfl (fun hg => (OpD.ldq Pl.one)) rfl ?_; refine TS.g 96 rfl (fun hg => (OpY.buildSlice [.tmp 97, .tmp 98] rfl rfl (by decide))) rfl ?_
  obtain ⟨x_14, ex_14, H⟩ := bnd H
  refine TS.g 96 rfl (fun hg => (OpY.call1 fun w v0 hA h0 => split_Together_c w v0 hA (toD h0) (gb_some ex_14 hg.h))) rfl ?_; refine TS.g 96 rfl (fun hg => OpY.move) rfl ?_
  obtain ⟨x_15, ex_15, H⟩ := bnd H
  refine TS.g 96 rfl (fun hg => (OpY.call2 fun w v0 v1 hA h0 h1 => bywayref17_Same_c w v0 v1 hA (toD h0) (toD h1) (gb_some ex_15 hg.h))) rfl ?_; refine TS.s OpY.pickAnd rfl ?_; refine TS.s OpY.assign rfl ?_; refine TS.nil ?_; refine TE.then ?_; refine TC.kp [0] [] ?_; refine TC.ret ?_
  obtain rfl := (Option.some.inj H)
  exact TE.ret1 rfl Cv.le
def bywaylaw17_SplitRight (p0 : Prefix) (q0 : Prefix) (n0 : Int) (l0 : (List Prefix)) : Option Bool :=
  (bywaylaw17_awake).bind fun x_3 => bif (!x_3) then (some false) else (bif (decide ((l0.length : Int) > (30 : Int))) then (some true) else ((split_Halves p0).bind fun r_4 => (split_Whole p0).bind fun r_7 => (split_Apart p0 n0).bind fun r_9 => (split_Without p0 q0).bind fun r_10 => (split_Together l0).bind fun x_11 => (bywayref17_Together l0).bind fun x_12 => (bywayref17_Same x_11 x_12).bind fun x_13 => bif (!x_13) then (some false) else ((bywayref01_May p0).bind fun x_14 => bif (!x_14) then ((gb ((((decide (r_4.2.2 = (1 : Int))) && (decide (r_7.2 = (1 : Int)))) && (decide (r_9.2 = (1 : Int)))) && (decide (r_10.2 = (1 : Int)))) (addI (r_9.1.length : Int) (r_10.1.length : Int))).bind fun x_15 => some (((((decide (r_4.2.2 = (1 : Int))) && (decide (r_7.2 = (1 : Int)))) && (decide (r_9.2 = (1 : Int)))) && (decide (r_10.2 = (1 : Int)))) && (decide (x_15 = (0 : Int))))) else ((gb (((!((decide (p0.Len = p0.Bits)) && ((decide (r_4.2.2 ≠ (6 : Int))) || (decide (r_4.1 ≠ r_4.2.1))))) && (decide (p0.Len < p0.Bits))) && (!(decide (r_4.2.2 ≠ (0 : Int))))) (bywayref17_Half p0 (0 : Int))).bind fun x_16 => (gb (((!((decide (p0.Len = p0.Bits)) && ((decide (r_4.2.2 ≠ (6 : Int))) || (decide (r_4.1 ≠ r_4.2.1))))) && (decide (p0.Len < p0.Bits))) && (!((decide (r_4.2.2 ≠ (0 : Int))) || (decide (r_4.1 ≠ x_16))))) (bywayref17_Half p0 (1 : Int))).bind fun x_17 => bif (((decide (p0.Len = p0.Bits)) && ((decide (r_4.2.2 ≠ (6 : Int))) || (decide (r_4.1 ≠ r_4.2.1)))) || ((decide (p0.Len < p0.Bits)) && (((decide (r_4.2.2 ≠ (0 : Int))) || (decide (r_4.1 ≠ x_16))) || (decide (r_4.2.1 ≠ x_17))))) then (some false) else ((gb (((!((decide (p0.Len = (0 : Int))) && (decide (r_7.2 ≠ (6 : Int))))) && (decide (p0.Len > (0 : Int)))) && (!(decide (r_7.2 ≠ (0 : Int))))) (bywayref17_Whole p0)).bind fun x_18 => bif (((decide (p0.Len = (0 : Int))) && (decide (r_7.2 ≠ (6 : Int)))) || ((decide (p0.Len > (0 : Int))) && ((decide (r_7.2 ≠ (0 : Int))) || (decide (r_7.1 ≠ x_18))))) then (some false) else ((bif ((decide (n0 < p0.Len)) || (decide (n0 > p0.Bits))) then (bif ((decide (r_9.2 ≠ (1 : Int))) || (decide ((r_9.1.length : Int) ≠ (0 : Int)))) then (some (.inr false)) else (some (.inl ()))) else ((subI n0 p0.Len).bind fun x_21 => bif (decide (x_21 > (8 : Int))) then (bif ((decide (r_9.2 ≠ (3 : Int))) || (decide ((r_9.1.length : Int) ≠ (0 : Int)))) then (some (.inr false)) else (some (.inl ()))) else ((gb (!(decide (r_9.2 ≠ (0 : Int)))) (bywayref17_Apart p0 n0)).bind fun x_23 => (gb (!(decide (r_9.2 ≠ (0 : Int)))) (bywayref17_Same r_9.1 x_23)).bind fun x_24 => bif ((decide (r_9.2 ≠ (0 : Int))) || (!x_24)) then (some (.inr false)) else (some (.inl ()))))).bind fun o_19 => elS o_19 (fun _ => (bywayref01_Covers p0 q0).bind fun x_26 => bif (!x_26) then (some ((decide (r_10.2 = (1 : Int))) && (decide ((r_10.1.length : Int) = (0 : Int))))) else ((gb (decide (r_10.2 = (0 : Int))) (bywayref17_Without p0 q0)).bind fun x_27 => (gb (decide (r_10.2 = (0 : Int))) (bywayref17_Same r_10.1 x_27)).bind fun x_28 => some ((decide (r_10.2 = (0 : Int))) && x_28))) (fun q => some q)))))))
theorem bywaylaw17_SplitRight_c {A : Nat → Prop} {p0 : Prefix} {q0 : Prefix} {n0 : Int} {l0 : (List Prefix)}  {r : Bool} (w : World) (v0 v1 v2 v3 : Value) (hA : ∀ k, w.heap.size ≤ k → A k)  (h0 : (D (p0 : Prefix)).p A w v0) (h1 : (D (q0 : Prefix)).p A w v1) (h2 : (D (n0 : Int)).p A w v2) (h3 : (D (l0 : (List Prefix))).p A w v3) (H : bywaylaw17_SplitRight p0 q0 n0 l0 = some r) :
    Calls Try.prog 3 #[v0, v1, v2, v3] w (Ret A w (D (r : Bool))) := by
  unfold bywaylaw17_SplitRight at H
  refine enter4 hA Try.func3 rfl Try.ntmps3 rfl h0 h1 h2 h3 ?_; refine TC.seqS ?_; refine TS.box rfl fun b4_0 => ?_; refine TS.box rfl fun b5_1 => ?_; refine TS.s OpY.assign rfl ?_; refine TS.nil ?_; refine TE.then ?_; refine TC.kp [2, 3, 4, 5] [b4_0, b5_1] ?_; refine TC.seq ?_; refine TC.seqS ?_
  obtain ⟨x_3, ex_3, H⟩ := bnd H
  refine TS.s (OpY.call0 fun w hA => bywaylaw17_awake_c w hA ex_3) rfl ?_; refine TS.s OpY.notB rfl ?_; refine TS.nil ?_; refine TE.then ?_; refine TC.kp [2, 3, 4, 5, 19] [b4_0, b5_1] ?_; refine TC.cond (fun hc => ?_) (fun hc => ?_)
  · replace H := cT H hc
    refine TC.seqS ?_; refine TS.s OpY.assign rfl ?_; refine TS.nil ?_; refine TE.then ?_; refine TC.kp [8] [] ?_; refine TC.ret ?_; refine TE.then_ret ?_
    obtain rfl := (Option.some.inj H)
    exact TE.ret1 rfl Cv.le
  · replace H := cF H hc
    refine TC.skip ?_; refine TE.then ?_; refine TC.kp [2, 3, 4, 5] [b4_0, b5_1] ?_; refine TC.seq ?_; refine TC.seqS ?_; refine TS.s OpY.move rfl ?_; refine TS.s OpD.len rfl ?_; refine TS.s OpY.gtr rfl ?_; refine TS.nil ?_; refine TE.then ?_; refine TC.kp [2, 3, 4, 5, 22] [b4_0, b5_1] ?_; refine TC.cond (fun hc => ?_) (fun hc => ?_)
    · replace H := cT H hc
      refine TC.seqS ?_; refine TS.s OpY.assign rfl ?_; refine TS.nil ?_; refine TE.then ?_; refine TC.kp [8] [] ?_; refine TC.ret ?_; refine TE.then_ret ?_
      obtain rfl := (Option.some.inj H)
      exact TE.ret1 rfl Cv.le
    · replace H := cF H hc
      refine TC.skip ?_; refine TE.then ?_; refine TC.kp [2, 3, 4, 5] [b4_0, b5_1] ?_; refine TC.seqS ?_; refine TS.s (OpD.ldq Pl.one) rfl ?_
      obtain ⟨r_4, er_4, H⟩ := bnd H
      refine TS.s (OpY.call1 fun w v0 hA h0 => split_Halves_c w v0 hA (toD h0) er_4) rfl ?_; refine TS.s OpY.move rfl ?_; refine TS.s (OpY.extract rfl) rfl ?_; refine TS.s (OpY.extract rfl) rfl ?_; refine TS.s (OpY.extract rfl) rfl ?_; refine TS.alloc (α := Prefix) rfl fun b9_4 => ?_; refine TS.alloc (α := Prefix) rfl fun b10_5 => ?_; refine TS.un (OpT.storeq (y := (r_4.1 : Prefix)) Pl.one) ?_; refine TS.un (OpT.storeq (y := (r_4.2.1 : Prefix)) Pl.one) ?_; refine TS.s OpY.assign rfl ?_; refine TS.nil ?_; refine TE.then ?_; refine TC.kp [2, 3, 4, 5, 9, 10, 11] [b4_0, b5_1, b9_4, b10_5] ?_; refine TC.seqS ?_; refine TS.s (OpD.ldq Pl.one) rfl ?_
      obtain ⟨r_7, er_7, H⟩ := bnd H
      refine TS.s (OpY.call1 fun w v0 hA h0 => split_Whole_c w v0 hA (toD h0) er_7) rfl ?_; refine TS.s OpY.move rfl ?_; refine TS.s (OpY.extract rfl) rfl ?_; refine TS.s (OpY.extract rfl) rfl ?_; refine TS.alloc (α := Prefix) rfl fun b12_7 => ?_; refine TS.un (OpT.storeq (y := (r_7.1 : Prefix)) Pl.one) ?_; refine TS.s OpY.assign rfl ?_; refine TS.nil ?_; refine TE.then ?_; refine TC.kp [2, 3, 4, 5, 9, 10, 11, 12, 13] [b4_0, b5_1, b9_4, b10_5, b12_7] ?_; refine TC.seqS ?_; refine TS.s (OpD.ldq Pl.one) rfl ?_; refine TS.s OpY.move rfl ?_
      obtain ⟨r_9, er_9, H⟩ := bnd H
      refine TS.s (OpY.call2 fun w v0 v1 hA h0 h1 => split_Apart_c w v0 v1 hA (toD h0) (toD h1) er_9) rfl ?_; refine TS.s OpY.move rfl ?_; refine TS.s (OpY.extract rfl) rfl ?_; refine TS.s (OpY.extract rfl) rfl ?_; refine TS.s OpY.assign rfl ?_; refine TS.s OpY.assign rfl ?_; refine TS.nil ?_; refine TE.then ?_; refine TC.kp [2, 3, 4, 5, 9, 10, 11, 12, 13, 14, 15] [b4_0, b5_1, b9_4, b10_5, b12_7] ?_; refine TC.seqS ?_; refine TS.s (OpD.ldq Pl.one) rfl ?_; refine TS.s (OpD.ldq Pl.one) rfl ?_
      obtain ⟨r_10, er_10, H⟩ := bnd H
      refine TS.s (OpY.call2 fun w v0 v1 hA h0 h1 => split_Without_c w v0 v1 hA (toD h0) (toD h1) er_10) rfl ?_; refine TS.s OpY.move rfl ?_; refine TS.s (OpY.extract rfl) rfl ?_; refine TS.s (OpY.extract rfl) rfl ?_; refine TS.s OpY.assign rfl ?_; refine TS.s OpY.assign rfl ?_; refine TS.nil ?_; refine TE.then ?_; refine TC.kp [2, 3, 4, 5, 9, 10, 11, 12, 13, 14, 15, 16, 17] [b4_0, b5_1, b9_4, b10_5, b12_7] ?_; refine TC.seq ?_; refine TC.seqS ?_; refine TS.s OpY.move rfl ?_
      obtain ⟨x_11, ex_11, H⟩ := bnd H
      refine TS.s (OpY.call1 fun w v0 hA h0 => split_Together_c w v0 hA (toD h0) ex_11) rfl ?_; refine TS.s OpY.move rfl ?_
      obtain ⟨x_12, ex_12, H⟩ := bnd H
      refine TS.s (OpY.call1 fun w v0 hA h0 => bywayref17_Together_c w v0 hA (toD h0) ex_12) rfl ?_
      obtain ⟨x_13, ex_13, H⟩ := bnd H
      refine TS.s (OpY.call2 fun w v0 v1 hA h0 h1 => bywayref17_Same_c w v0 v1 hA (toD h0) (toD h1) ex_13) rfl ?_; refine TS.s OpY.notB rfl ?_; refine TS.nil ?_; refine TE.then ?_; refine TC.kp [2, 4, 5, 9, 10, 11, 12, 13, 14, 15, 16, 17, 51] [b4_0, b5_1, b9_4, b10_5, b12_7] ?_; refine TC.cond (fun hc => ?_) (fun hc => ?_)
      · replace H := cT H hc
        refine TC.seqS ?_; refine TS.s OpY.assign rfl ?_; refine TS.nil ?_; refine TE.then ?_; refine TC.kp [8] [] ?_; refine TC.ret ?_; refine TE.then_ret ?_
        obtain rfl := (Option.some.inj H)
        exact TE.ret1 rfl Cv.le
      · replace H := cF H hc
        refine TC.skip ?_; refine TE.then ?_; refine TC.kp [2, 4, 5, 9, 10, 11, 12, 13, 14, 15, 16, 17] [b4_0, b5_1, b9_4, b10_5, b12_7] ?_; refine TC.seq ?_; refine TC.seqS ?_; refine TS.s (OpD.ldq Pl.one) rfl ?_
        obtain ⟨x_14, ex_14, H⟩ := bnd H
        refine TS.s (OpY.call1 fun w v0 hA h0 => bywayref01_May_c w v0 hA (toD h0) ex_14) rfl ?_; refine TS.s OpY.notB rfl ?_; refine TS.nil ?_; refine TE.then ?_; refine TC.kp [2, 4, 5, 9, 10, 11, 12, 13, 14, 15, 16, 17, 54] [b4_0, b5_1, b9_4, b10_5, b12_7] ?_; refine TC.cond (fun hc => ?_) (fun hc => ?_)
        · replace H := cT H hc
          refine TC.seqS ?_; refine TS.s OpY.move rfl ?_; refine TS.s OpY.eql rfl ?_; refine TS.s OpY.move rfl ?_; refine TS.g 57 rfl (fun hg => OpY.move) rfl ?_; refine TS.g 57 rfl (fun hg => OpY.eql) rfl ?_; refine TS.s OpY.pickAnd rfl ?_; refine TS.s OpY.move rfl ?_; refine TS.g 61 rfl (fun hg => OpY.move) rfl ?_; refine TS.g 61 rfl (fun hg => OpY.eql) rfl ?_; refine TS.s OpY.pickAnd rfl ?_; refine TS.s OpY.move rfl ?_; refine TS.g 65 rfl (fun hg => OpY.move) rfl ?_; refine TS.g 65 rfl (fun hg => OpY.eql) rfl ?_; refine TS.s OpY.pickAnd rfl ?_; refine TS.s OpY.move rfl ?_; refine TS.g 69 rfl (fun hg => OpY.move) rfl ?_; refine TS.g 69 rfl (fun hg => OpD.len) rfl ?_; refine TS.g 69 rfl (fun hg => OpY.move) rfl ?_; refine TS.g 69 rfl (fun hg => OpD.len) rfl ?_
          obtain ⟨x_15, ex_15, H⟩ := bnd H
          refine TS.g 69 rfl (fun hg => (OpD.add (gb_some ex_15 hg.h))) rfl ?_; refine TS.g 69 rfl (fun hg => OpY.eql) rfl ?_; refine TS.s OpY.pickAnd rfl ?_; refine TS.s OpY.assign rfl ?_; refine TS.nil ?_; refine TE.then ?_; refine TC.kp [8] [] ?_; refine TC.ret ?_; refine TE.then_ret ?_
          obtain rfl := (Option.some.inj H)
          exact TE.ret1 rfl Cv.le
        · replace H := cF H hc
          refine TC.skip ?_; refine TE.then ?_; refine TC.kp [2, 4, 5, 9, 10, 11, 12, 13, 14, 15, 16, 17] [b4_0, b5_1, b9_4, b10_5, b12_7] ?_; refine TC.seq ?_; refine TC.seqD0 mix (by kernel_rfl) ?_; refine TR.s OpY.fieldAddr rfl ?_; refine TR.s (OpD.ldq (Pl.fld (off := 1) (α := Prefix) (β := Int) Pl.one)) rfl ?_; refine TR.s OpY.fieldAddr rfl ?_; refine TR.s (OpD.ldq (Pl.fld (off := 0) (α := Prefix) (β := Int) Pl.one)) rfl ?_; refine TR.s OpY.eql rfl ?_; refine TR.s OpY.move rfl ?_; refine TR.g 82 rfl (fun hg => OpY.move) rfl ?_; refine TR.g 82 rfl (fun hg => OpY.neq) rfl ?_; refine TR.g 82 rfl (fun hg => OpY.move) rfl ?_; refine TR.gg 85 rfl (fun hp hg => (OpD.ldq Pl.one)) rfl ?_; refine TR.gg 85 rfl (fun hp hg => (OpD.ldq Pl.one)) rfl ?_; refine TR.gg 85 rfl (fun hp hg => (OpY.neq_agg EqV_25 (by decide) EqG_25 rfl)) rfl ?_; refine TR.g 82 rfl (fun hg => OpY.pickOr) rfl ?_; refine TR.s OpY.pickAnd rfl ?_; refine TR.s OpY.move rfl ?_; refine TR.g 91 rfl (fun hg => OpY.fieldAddr) rfl ?_; refine TR.g 91 rfl (fun hg => (OpD.ldq (Pl.fld (off := 1) (α := Prefix) (β := Int) Pl.one))) rfl ?_; refine TR.g 91 rfl (fun hg => OpY.fieldAddr) rfl ?_; refine TR.g 91 rfl (fun hg => (OpD.ldq (Pl.fld (off := 0) (α := Prefix) (β := Int) Pl.one))) rfl ?_; refine TR.g 91 rfl (fun hg => OpY.lss) rfl ?_; refine TR.g 91 rfl (fun hg => OpY.move) rfl ?_; refine TR.gg 97 rfl (fun hp hg => OpY.move) rfl ?_; refine TR.gg 97 rfl (fun hp hg => OpY.neq) rfl ?_; refine TR.gg 97 rfl (fun hp hg => OpY.move) rfl ?_; refine TR.gg 100 rfl (fun hp hg => haveI l0 := Ft.l hp; haveI r0 := Ft.r hp; (OpD.ldq Pl.one)) rfl ?_; refine TR.gg 100 rfl (fun hp hg => haveI l0 := Ft.l hp; haveI r0 := Ft.r hp; (OpD.ldq Pl.one)) rfl ?_
          obtain ⟨x_16, ex_16, H⟩ := bnd H
          refine TR.gg 100 rfl (fun hp hg => haveI l0 := Ft.l hp; haveI r0 := Ft.r hp; (OpY.call2 fun w v0 v1 hA h0 h1 => bywayref17_Half_c w v0 v1 hA (toD h0) (toD h1) (gb_some ex_16 (aT (aT (nF hp.h.1) hp.h.2) (nF hg.h))))) rfl ?_; refine TR.gg 100 rfl (fun hp hg => haveI l0 := Ft.l hp; haveI r0 := Ft.r hp; (OpY.neq_agg EqV_25 (by decide) EqG_25 rfl)) rfl ?_; refine TR.gg 97 rfl (fun hp hg => OpY.pickOr) rfl ?_; refine TR.gg 97 rfl (fun hp hg => OpY.move) rfl ?_; refine TR.gg 106 rfl (fun hp hg => haveI l0 := Ft.l hp; haveI r0 := Ft.r hp; (OpD.ldq Pl.one)) rfl ?_; refine TR.gg 106 rfl (fun hp hg => haveI l0 := Ft.l hp; haveI r0 := Ft.r hp; (OpD.ldq Pl.one)) rfl ?_
          obtain ⟨x_17, ex_17, H⟩ := bnd H
          refine TR.gg 106 rfl (fun hp hg => haveI l0 := Ft.l hp; haveI r0 := Ft.r hp; (OpY.call2 fun w v0 v1 hA h0 h1 => bywayref17_Half_c w v0 v1 hA (toD h0) (toD h1) (gb_some ex_17 (aT (aT (nF hp.h.1) hp.h.2) (nF hg.h))))) rfl ?_; refine TR.gg 106 rfl (fun hp hg => haveI l0 := Ft.l hp; haveI r0 := Ft.r hp; (OpY.neq_agg EqV_25 (by decide) EqG_25 rfl)) rfl ?_; refine TR.gg 97 rfl (fun hp hg => OpY.pickOr) rfl ?_; refine TR.g 91 rfl (fun hg => OpY.pickAnd) rfl ?_; refine TR.s OpY.pickOr rfl ?_; refine TR.nil ?_; refine TC.kp [2, 4, 5, 12, 13, 14, 15, 16, 17, 113] [b4_0, b5_1, b12_7] ?_; refine TC.cond (fun hc => ?_) (fun hc => ?_)
          · replace H := cT H hc
            refine TC.seqS ?_; refine TS.s OpY.assign rfl ?_; refine TS.nil ?_; refine TE.then ?_; refine TC.kp [8] [] ?_; refine TC.ret ?_; refine TE.then_ret ?_
            obtain rfl := (Option.some.inj H)
            exact TE.ret1 rfl Cv.le
          · replace H := cF H hc
            refine TC.skip ?_; refine TE.then ?_; refine TC.kp [2, 4, 5, 12, 13, 14, 15, 16, 17] [b4_0, b5_1, b12_7] ?_; refine TC.seq ?_; refine TC.seqD0 mix (by kernel_rfl) ?_; refine TR.s OpY.fieldAddr rfl ?_; refine TR.s (OpD.ldq (Pl.fld (off := 1) (α := Prefix) (β := Int) Pl.one)) rfl ?_; refine TR.s OpY.eql rfl ?_; refine TR.s OpY.move rfl ?_; refine TR.g 117 rfl (fun hg => OpY.move) rfl ?_; refine TR.g 117 rfl (fun hg => OpY.neq) rfl ?_; refine TR.s OpY.pickAnd rfl ?_; refine TR.s OpY.move rfl ?_; refine TR.g 121 rfl (fun hg => OpY.fieldAddr) rfl ?_; refine TR.g 121 rfl (fun hg => (OpD.ldq (Pl.fld (off := 1) (α := Prefix) (β := Int) Pl.one))) rfl ?_; refine TR.g 121 rfl (fun hg => OpY.gtr) rfl ?_; refine TR.g 121 rfl (fun hg => OpY.move) rfl ?_; refine TR.gg 125 rfl (fun hp hg => OpY.move) rfl ?_; refine TR.gg 125 rfl (fun hp hg => OpY.neq) rfl ?_; refine TR.gg 125 rfl (fun hp hg => OpY.move) rfl ?_; refine TR.gg 128 rfl (fun hp hg => haveI l0 := Ft.l hp; haveI r0 := Ft.r hp; (OpD.ldq Pl.one)) rfl ?_; refine TR.gg 128 rfl (fun hp hg => haveI l0 := Ft.l hp; haveI r0 := Ft.r hp; (OpD.ldq Pl.one)) rfl ?_
            obtain ⟨x_18, ex_18, H⟩ := bnd H
            refine TR.gg 128 rfl (fun hp hg => haveI l0 := Ft.l hp; haveI r0 := Ft.r hp; (OpY.call1 fun w v0 hA h0 => bywayref17_Whole_c w v0 hA (toD h0) (gb_some ex_18 (aT (aT (nF hp.h.1) hp.h.2) (nF hg.h))))) rfl ?_; refine TR.gg 128 rfl (fun hp hg => haveI l0 := Ft.l hp; haveI r0 := Ft.r hp; (OpY.neq_agg EqV_25 (by decide) EqG_25 rfl)) rfl ?_; refine TR.gg 125 rfl (fun hp hg => OpY.pickOr) rfl ?_; refine TR.g 121 rfl (fun hg => OpY.pickAnd) rfl ?_; refine TR.s OpY.pickOr rfl ?_; refine TR.nil ?_; refine TC.kp [2, 4, 5, 14, 15, 16, 17, 135] [b4_0, b5_1] ?_; refine TC.cond (fun hc => ?_) (fun hc => ?_)
            · replace H := cT H hc
              refine TC.seqS ?_; refine TS.s OpY.assign rfl ?_; refine TS.nil ?_; refine TE.then ?_; refine TC.kp [8] [] ?_; refine TC.ret ?_; refine TE.then_ret ?_
              obtain rfl := (Option.some.inj H)
              exact TE.ret1 rfl Cv.le
            · replace H := cF H hc
              refine TC.skip ?_; refine TE.then ?_; refine TC.kp [2, 4, 5, 14, 15, 16, 17] [b4_0, b5_1] ?_; refine TC.seq ?_
              obtain ⟨o_19, H19, H⟩ := bnd H
              refine TC.cutP (fun s : Unit => o_19 = .inl s) (fun (_ : Unit) (_ : Unit) => (Env.set (Env.set (Env.set (Env.set Env.nil 4 (Pt b4_0 0)) 5 (Pt b5_1 0)) 16 (D (r_10.1 : (List Prefix)))) 17 (D (r_10.2 : Int)))) (fun (_ : Unit) (_ : Unit) => [⟨b4_0, True, (One (p0 : Prefix))⟩, ⟨b5_1, True, (One (q0 : Prefix))⟩]) ?_ ?_
              · skip
                refine TC.block ?_; refine TC.seqS ?_; refine TS.s OpY.move rfl ?_; refine TS.s OpY.fieldAddr rfl ?_; refine TS.s (OpD.ldq (Pl.fld (off := 1) (α := Prefix) (β := Int) Pl.one)) rfl ?_; refine TS.s OpY.lss rfl ?_; refine TS.s OpY.move rfl ?_; refine TS.g 151 rfl (fun hg => OpY.move) rfl ?_; refine TS.g 151 rfl (fun hg => OpY.fieldAddr) rfl ?_; refine TS.g 151 rfl (fun hg => (OpD.ldq (Pl.fld (off := 0) (α := Prefix) (β := Int) Pl.one))) rfl ?_; refine TS.g 151 rfl (fun hg => OpY.gtr) rfl ?_; refine TS.s OpY.pickOr rfl ?_; refine TS.s OpY.assign rfl ?_; refine TS.nil ?_; refine TE.then ?_; refine TC.kp [2, 4, 5, 14, 15, 16, 17, 146] [b4_0, b5_1] ?_; refine TC.cond (fun hc => ?_) (fun hc => ?_)
                · replace H19 := cT H19 hc
                  refine TC.seqS ?_; refine TS.s OpY.move rfl ?_; refine TS.s OpY.neq rfl ?_; refine TS.s OpY.move rfl ?_; refine TS.g 159 rfl (fun hg => OpY.move) rfl ?_; refine TS.g 159 rfl (fun hg => OpD.len) rfl ?_; refine TS.g 159 rfl (fun hg => OpY.neq) rfl ?_; refine TS.s OpY.pickOr rfl ?_; refine TS.nil ?_; refine TE.then ?_; refine TC.kp [4, 5, 16, 17, 163] [b4_0, b5_1] ?_; refine TC.cond (fun hc => ?_) (fun hc => ?_)
                  · replace H19 := cT H19 hc
                    refine TC.seqS ?_; refine TS.s OpY.assign rfl ?_; refine TS.nil ?_; refine TE.then ?_; refine TC.kp [8] [] ?_; refine TC.ret ?_; refine TE.inBlock_ret ?_; refine TE.cut_ret ?_
                    have R19 := elS_r (Option.some.inj H19) H
                    refine TE.then_ret ?_
                    obtain rfl := (Option.some.inj R19)
                    exact TE.ret1 rfl Cv.le
                  · replace H19 := cF H19 hc
                    refine TC.skip ?_; refine TE.inBlock_normal ?_; exact TE.cutP () () (Option.some.inj H19).symm (Env.cv (Env.cv (Env.cv (Env.cv (Env.le_nil _))))) (Less.pk rfl (Less.pk rfl (Less.nil _)))
                · replace H19 := cF H19 hc
                  refine TC.seqS ?_; refine TS.s OpY.move rfl ?_; refine TS.s OpY.fieldAddr rfl ?_; refine TS.s (OpD.ldq (Pl.fld (off := 1) (α := Prefix) (β := Int) Pl.one)) rfl ?_
                  obtain ⟨x_21, ex_21, H19⟩ := bnd H19
                  refine TS.s (OpD.sub ex_21) rfl ?_; refine TS.s OpY.gtr rfl ?_; refine TS.s OpY.assign rfl ?_; refine TS.nil ?_; refine TE.then ?_; refine TC.kp [2, 4, 5, 14, 15, 16, 17, 164] [b4_0, b5_1] ?_; refine TC.cond (fun hc => ?_) (fun hc => ?_)
                  · replace H19 := cT H19 hc
                    refine TC.seqS ?_; refine TS.s OpY.move rfl ?_; refine TS.s OpY.neq rfl ?_; refine TS.s OpY.move rfl ?_; refine TS.g 172 rfl (fun hg => OpY.move) rfl ?_; refine TS.g 172 rfl (fun hg => OpD.len) rfl ?_; refine TS.g 172 rfl (fun hg => OpY.neq) rfl ?_; refine TS.s OpY.pickOr rfl ?_; refine TS.nil ?_; refine TE.then ?_; refine TC.kp [4, 5, 16, 17, 176] [b4_0, b5_1] ?_; refine TC.cond (fun hc => ?_) (fun hc => ?_)
                    · replace H19 := cT H19 hc
                      refine TC.seqS ?_; refine TS.s OpY.assign rfl ?_; refine TS.nil ?_; refine TE.then ?_; refine TC.kp [8] [] ?_; refine TC.ret ?_; refine TE.inBlock_ret ?_; refine TE.cut_ret ?_
                      have R21 := elS_r (Option.some.inj H19) H
                      refine TE.then_ret ?_
                      obtain rfl := (Option.some.inj R21)
                      exact TE.ret1 rfl Cv.le
                    · replace H19 := cF H19 hc
                      refine TC.skip ?_; refine TE.inBlock_normal ?_; exact TE.cutP () () (Option.some.inj H19).symm (Env.cv (Env.cv (Env.cv (Env.cv (Env.le_nil _))))) (Less.pk rfl (Less.pk rfl (Less.nil _)))
                  · replace H19 := cF H19 hc
                    refine TC.seqS ?_; refine TS.s OpY.move rfl ?_; refine TS.s OpY.neq rfl ?_; refine TS.s OpY.move rfl ?_; refine TS.g 138 rfl (fun hg => OpY.move) rfl ?_; refine TS.g 138 rfl (fun hg => (OpD.ldq Pl.one)) rfl ?_; refine TS.g 138 rfl (fun hg => OpY.move) rfl ?_
                    obtain ⟨x_23, ex_23, H19⟩ := bnd H19
                    refine TS.g 138 rfl (fun hg => (OpY.call2 fun w v0 v1 hA h0 h1 => bywayref17_Apart_c w v0 v1 hA (toD h0) (toD h1) (gb_some ex_23 (nF hg.h)))) rfl ?_
                    obtain ⟨x_24, ex_24, H19⟩ := bnd H19
                    refine TS.g 138 rfl (fun hg => (OpY.call2 fun w v0 v1 hA h0 h1 => bywayref17_Same_c w v0 v1 hA (toD h0) (toD h1) (gb_some ex_24 (nF hg.h)))) rfl ?_; refine TS.g 138 rfl (fun hg => OpY.notB) rfl ?_; refine TS.s OpY.pickOr rfl ?_; refine TS.nil ?_; refine TE.then ?_; refine TC.kp [4, 5, 16, 17, 145] [b4_0, b5_1] ?_; refine TC.cond (fun hc => ?_) (fun hc => ?_)
                    · replace H19 := cT H19 hc
                      refine TC.seqS ?_; refine TS.s OpY.assign rfl ?_; refine TS.nil ?_; refine TE.then ?_; refine TC.kp [8] [] ?_; refine TC.ret ?_; refine TE.inBlock_ret ?_; refine TE.cut_ret ?_
                      have R24 := elS_r (Option.some.inj H19) H
                      refine TE.then_ret ?_
                      obtain rfl := (Option.some.inj R24)
                      exact TE.ret1 rfl Cv.le
                    · replace H19 := cF H19 hc
                      refine TC.skip ?_; refine TE.inBlock_normal ?_; exact TE.cutP () () (Option.some.inj H19).symm (Env.cv (Env.cv (Env.cv (Env.cv (Env.le_nil _))))) (Less.pk rfl (Less.pk rfl (Less.nil _)))
              rintro ⟨⟩ ⟨⟩ hp
              replace H := elS_l hp H
              refine TE.then ?_; refine TC.kp [4, 5, 16, 17] [b4_0, b5_1] ?_; refine TC.seq ?_; refine TC.seqS ?_; refine TS.s (OpD.ldq Pl.one) rfl ?_; refine TS.s (OpD.ldq Pl.one) rfl ?_
              obtain ⟨x_26, ex_26, H⟩ := bnd H
              refine TS.s (OpY.call2 fun w v0 v1 hA h0 h1 => bywayref01_Covers_c w v0 v1 hA (toD h0) (toD h1) ex_26) rfl ?_; refine TS.s OpY.notB rfl ?_; refine TS.nil ?_; refine TE.then ?_; refine TC.kp [4, 5, 16, 17, 180] [b4_0, b5_1] ?_; refine TC.cond (fun hc => ?_) (fun hc => ?_)
              · replace H := cT H hc
                refine TC.seqS ?_; refine TS.s OpY.move rfl ?_; refine TS.s OpY.eql rfl ?_; refine TS.s OpY.move rfl ?_; refine TS.g 183 rfl (fun hg => OpY.move) rfl ?_; refine TS.g 183 rfl (fun hg => OpD.len) rfl ?_; refine TS.g 183 rfl (fun hg => OpY.eql) rfl ?_; refine TS.s OpY.pickAnd rfl ?_; refine TS.s OpY.assign rfl ?_; refine TS.nil ?_; refine TE.then ?_; refine TC.kp [8] [] ?_; refine TC.ret ?_; refine TE.then_ret ?_
                obtain rfl := (Option.some.inj H)
                exact TE.ret1 rfl Cv.le
              · replace H := cF H hc
                refine TC.skip ?_; refine TE.then ?_; refine TC.kp [4, 5, 16, 17] [b4_0, b5_1] ?_; refine TC.seqS ?_; refine TS.s OpY.move rfl ?_; refine TS.s OpY.eql rfl ?_; refine TS.s OpY.move rfl ?_; refine TS.g 190 rfl (fun hg => OpY.move) rfl ?_; refine TS.g 190 rfl (fun hg => (OpD.ldq Pl.one)) rfl ?_; refine TS.g 190 rfl (fun hg => (OpD.ldq Pl.one)) rfl ?_
                obtain ⟨x_27, ex_27, H⟩ := bnd H
                refine TS.g 190 rfl (fun hg => (OpY.call2 fun w v0 v1 hA h0 h1 => bywayref17_Without_c w v0 v1 hA (toD h0) (toD h1) (gb_some ex_27 hg.h))) rfl ?_
                obtain ⟨x_28, ex_28, H⟩ := bnd H
                refine TS.g 190 rfl (fun hg => (OpY.call2 fun w v0 v1 hA h0 h1 => bywayref17_Same_c w v0 v1 hA (toD h0) (toD h1) (gb_some ex_28 hg.h))) rfl ?_; refine TS.s OpY.pickAnd rfl ?_; refine TS.s OpY.assign rfl ?_; refine TS.nil ?_; refine TE.then ?_; refine TC.kp [8] [] ?_; refine TC.ret ?_
                obtain rfl := (Option.some.inj H)
                exact TE.ret1 rfl Cv.le
end Go.Proofs.Ytpknphecmahkaaa.Tr
namespace Go.Proofs.Ytpknphecmahkaaa.Tr
open Go
set_option maxRecDepth 100000
theorem split_awake_eq : bywaylaw17_awake = some true := by decide +kernel
def zP : Prefix := ⟨0, 0, Dat.z⟩
theorem Halves_eq (p : Prefix) : split_Halves p = some (if ¬ PM p then (zP, zP, 1) else if p.Len = p.Bits then (zP, zP, 6) else (loP p, hiP p, 0)) := by
  unfold split_Halves
  rw [key_May_eq, bind_s]
  by_cases h : PM p
  · rw [decide_eq_true h, Bool.not_true, cond_f, if_neg (fun g => g h)]
    by_cases h2 : p.Len = p.Bits
    · rw [decide_eq_true h2, cond_t, if_pos h2, bind_s, bind_s]; rfl
    · have := h.2.2.1
      rw [decide_eq_false h2, cond_f, if_neg h2, halves_eq h (by omega), bind_s]
  · rw [decide_eq_false h, Bool.not_false, cond_t, if_pos h, bind_s, bind_s]; rfl
theorem PM.small {p : Prefix} (h : PM p) : -9223372036854775807 ≤ p.Len ∧ p.Len ≤ 9223372036854775807 := by have := h.len; omega
theorem Whole_eq (p : Prefix) : split_Whole p = some (if ¬ PM p then (zP, 1) else if p.Len = 0 then (zP, 6) else (whP p, 0)) := by
  unfold split_Whole
  rw [key_May_eq, bind_s]
  by_cases h : PM p
  · rw [decide_eq_true h, Bool.not_true, cond_f, if_neg (fun g => g h)]
    by_cases h2 : p.Len = 0
    · rw [decide_eq_true h2, cond_t, if_pos h2, bind_s]; rfl
    · rw [decide_eq_false h2, cond_f, if_neg h2, whole_eq h.small, bind_s]
  · rw [decide_eq_false h, Bool.not_false, cond_t, if_pos h, bind_s]; rfl
def apN : Nat → Prefix → List Prefix
  | 0, p => [p]
  | k + 1, p => apN k (loP p) ++ apN k (hiP p)
theorem apN_flat : ∀ (k : Nat) (p : Prefix), apN (k + 1) p = (apN k p).flatMap fun x => [loP x, hiP x]
  | 0, p => rfl
  | k + 1, p => by
    rw [apN, apN_flat k, apN_flat k, ← List.flatMap_append]; rfl
theorem apN_length : ∀ (k : Nat) (p : Prefix), (apN k p).length = 2 ^ k
  | 0, p => rfl
  | k + 1, p => by rw [apN, List.length_append, apN_length k, apN_length k, Nat.pow_succ]; omega
theorem apN_mem : ∀ (k : Nat) {p : Prefix}, PM p → p.Len + k ≤ p.Bits → ∀ x ∈ apN k p, PM x ∧ x.Len = p.Len + k ∧ x.Bits = p.Bits
  | 0, p, h, hl, x, hx => by rw [apN, List.mem_singleton] at hx; subst hx; exact ⟨h, by omega, rfl⟩
  | k + 1, p, h, hl, x, hx => by
    rw [apN] at hx
    rcases List.mem_append.1 hx with hx | hx
    · obtain ⟨h1, h2, h3⟩ := apN_mem k (lo_PM h (by omega)) (by unfold loP; dsimp only; omega) x hx
      exact ⟨h1, by rw [h2]; unfold loP; dsimp only; omega, h3⟩
    · obtain ⟨h1, h2, h3⟩ := apN_mem k (hi_PM h (by omega)) (by unfold hiP; dsimp only; omega) x hx
      exact ⟨h1, by rw [h2]; unfold hiP; dsimp only; omega, h3⟩
theorem l2A_eq {l : List Prefix} (hl : l.length ≤ 1000) (hp : ∀ x ∈ l, PM x ∧ x.Len < x.Bits) : loopO (fun s => split_Apart_l2 l s.1 s.2) ((0 : Int), []) = some (l.flatMap fun x => [loP x, hiP x]) := by
  have hlen : ∀ m : List Prefix, (m.flatMap fun x => [loP x, hiP x]).length = 2 * m.length := fun m => by
    induction m with
    | nil => rfl
    | cons x m ih => rw [List.flatMap_cons, List.length_append, ih]; simp; omega
  refine loopO_iter (fun i => ((i : Int), (l.take i).flatMap fun x => [loP x, hiP x])) l.length (by omega) (fun i hi => ?_) ?_ rfl
  · unfold split_Apart_l2
    dsimp only
    obtain ⟨h1, h2⟩ := hp _ (List.getElem_mem hi)
    have hf := hlen (l.take i)
    rw [List.length_take, Nat.min_eq_left (by omega)] at hf
    rw [lt_t hi, cond_t, idx_nat hi, bind_s, halves_eq h1 h2, bind_s, room_ok (by omega) (by rw [hf]; simp only [List.length_cons, List.length_nil]; omega) (by rw [hf]; simp only [List.length_cons, List.length_nil]; omega), bind_s, bind_s, addI_1 (by omega), bind_s, List.take_succ_eq_append_getElem hi, List.flatMap_append, List.flatMap_singleton]
  · unfold split_Apart_l2
    dsimp only
    rw [lt_f, cond_f, List.take_length]
theorem Apart_eq (p : Prefix) (n : Int) : split_Apart p n = some (if ¬ (PM p ∧ p.Len ≤ n ∧ n ≤ p.Bits) then ([], 1) else if n - p.Len > 8 then ([], 3) else (apN (n - p.Len).toNat p, 0)) := by
  unfold split_Apart
  rw [key_May_eq, bind_s]
  by_cases h : PM p ∧ p.Len ≤ n ∧ n ≤ p.Bits
  · have hl := h.1.len
    rw [if_neg (fun g => g h), cond_false (by rw [decide_eq_true h.1, decide_eq_false (show ¬ n < p.Len by omega), decide_eq_false (show ¬ n > p.Bits by omega)]; rfl), subI_ok (by omega) (by omega), bind_s]
    by_cases h8 : n - p.Len > 8
    · rw [decide_eq_true h8, cond_t, if_pos h8]
    · rw [decide_eq_false h8, cond_f, if_neg h8, bind_s]
      obtain ⟨k, hk⟩ := Int.eq_ofNat_of_zero_le (show 0 ≤ n - p.Len by omega)
      rw [hk, Int.toNat_natCast]
      refine (bind_of (loopO_iter (f := fun s => split_Apart_l1 (k : Int) s.1 s.2) (fun i => (apN i p, (i : Int))) k (e := apN k p) (by omega) (fun i hi => ?_) ?_ rfl)).trans rfl
      · unfold split_Apart_l1
        dsimp only
        have hal := apN_length i p
        have h256 : 2 ^ i ≤ 2 ^ 8 := Nat.pow_le_pow_right (by omega) (by omega)
        rw [lt_t hi, cond_t, mulI_ok (by omega) (by omega), bind_s, room_ok (by omega) (by omega) (by omega), bind_s, cut_ok (by omega) (by omega) (by omega), bind_s, bind_s]
        rw [show ((List.replicate (Int.toNat (2 * ((apN i p).length : Int))) (Dat.z : Prefix)).take (Int.toNat (0 : Int))) = [] from List.take_zero, l2A_eq (by omega) (fun x hx => ?_), bind_s, addI_1 (by omega), bind_s, ← apN_flat]
        obtain ⟨h1, h2, h3⟩ := apN_mem i h.1 (by omega) x hx
        exact ⟨h1, by omega⟩
      · unfold split_Apart_l1
        dsimp only
        rw [lt_f, cond_f]
  · rw [if_pos h, cond_true (by
      simp only [Bool.or_eq_true, Bool.not_eq_true', decide_eq_true_eq, decide_eq_false_iff_not]
      by_cases h1 : PM p
      · by_cases h2 : n < p.Len
        · exact .inl (.inr h2)
        · right; exact Decidable.byContradiction fun h3 => h ⟨h1, by omega, by omega⟩
      · exact .inl (.inl h1))]
theorem refApart_n : ∀ (k : Nat) (f : Nat) {p : Prefix} {n : Int}, k < f → PM p → p.Len + k = n → n ≤ p.Bits → k ≤ 8 → bywayref17_Apart_n f p n = some (apN k p)
  | k, 0, p, n, h, _, _, _, _ => by omega
  | 0, f + 1, p, n, _, hp, hn, _, _ => by
    unfold bywayref17_Apart_n bywayref17_Apart_s
    rw [decide_eq_true (by omega), cond_t, bind_s]; rfl
  | k + 1, f + 1, p, n, hf, hp, hn, hb, h8 => by
    unfold bywayref17_Apart_n bywayref17_Apart_s
    have hl : p.Len < p.Bits := by omega
    have e0 := ref_Half_eq hp hl false
    have e1 := ref_Half_eq hp hl true
    rw [if_neg (by decide), if_neg (by decide)] at e0
    rw [if_pos rfl, if_pos rfl] at e1
    have a1 := apN_length k (loP p)
    have a2 := apN_length k (hiP p)
    have h256 : 2 ^ k ≤ 2 ^ 8 := Nat.pow_le_pow_right (by omega) (by omega)
    rw [decide_eq_false (by omega), cond_f, e0, bind_s, refApart_n k f (by omega) (lo_PM hp hl) (by unfold loP; dsimp only; omega) (by unfold loP; dsimp only; omega) (by omega), bind_s, e1, bind_s, refApart_n k f (by omega) (hi_PM hp hl) (by unfold hiP; dsimp only; omega) (by unfold hiP; dsimp only; omega) (by omega), bind_s, room_ok (by omega) (by omega) (by omega), bind_s, bind_s]
    rfl
theorem Reverse_eq {l : List Prefix} (hl : l.length ≤ 100000) : slices_Reverse_api_Prefix l = some l.reverse := by
  unfold slices_Reverse_api_Prefix
  rw [subI_ok (by omega) (by omega), bind_s]
  refine (bind_of (Gets.eq (Gets.loop (fun s => ∃ i : Nat, s.1 = (i : Int) ∧ s.2.1 = (l.length : Int) - 1 - i ∧ 2 * i ≤ l.length + 1 ∧ s.2.2.length = l.length ∧ ∀ j, j < l.length → s.2.2[j]? = if i ≤ j ∧ j < l.length - i then l[j]? else l[l.length - 1 - j]?) (fun s => l.length - s.1.toNat) ?_ ⟨0, rfl, by simp, by omega, rfl, fun j hj => by rw [if_pos ⟨Nat.zero_le _, by omega⟩]⟩ (by dsimp only; omega)))).trans rfl
  rintro ⟨n, m, s⟩ ⟨i, e1, e2, hi, hs, h⟩
  dsimp only at e1 e2 hs h ⊢
  subst e1 e2
  unfold slices_Reverse_api_Prefix_l1
  by_cases hlt : (i : Int) < (l.length : Int) - 1 - i
  · have hj : (l.length : Int) - 1 - i = ((l.length - 1 - i : Nat) : Int) := by omega
    rw [decide_eq_true hlt, cond_t, hj, idx_nat (by omega), bind_s, idx_nat (by omega), bind_s, bind_s, idx_nat (by rw [List.length_set]; omega), bind_s, bind_s, addI_1 (by omega), bind_s, subI_ok (by omega) (by omega), bind_s, Int.toNat_natCast, Int.toNat_natCast]
    refine Gets.l ⟨i + 1, rfl, by dsimp only; omega, by omega, by dsimp only; rw [List.length_set, List.length_set, hs], fun j hjl => ?_⟩ (by dsimp only; omega)
    dsimp only
    have g1 := h i (by omega)
    have g2 := h (l.length - 1 - i) (by omega)
    rw [if_pos ⟨by omega, by omega⟩, List.getElem?_eq_getElem (by omega)] at g1 g2
    rw [List.getElem?_set, List.length_set]
    by_cases c1 : l.length - 1 - i = j
    · subst c1
      rw [if_pos rfl, if_pos (by omega), if_neg (by omega), g1]
      congr 1; omega
    · rw [if_neg c1, List.getElem?_set]
      by_cases c2 : i = j
      · subst c2
        rw [if_pos rfl, if_pos (by omega), if_neg (by omega), g2]
      · rw [if_neg c2, h j hjl]
        by_cases c3 : i ≤ j ∧ j < l.length - i
        · rw [if_pos c3, if_pos ⟨by omega, by omega⟩]
        · rw [if_neg c3, if_neg (by omega)]
  · rw [decide_eq_false hlt, cond_f]
    refine Gets.r ?_
    apply List.ext_getElem?
    intro j
    rcases Nat.lt_or_ge j l.length with hjl | hjl
    · rw [h j hjl, List.getElem?_reverse hjl]
      by_cases c3 : i ≤ j ∧ j < l.length - i
      · rw [if_pos c3]
        congr 1; omega
      · rw [if_neg c3]
    · rw [List.getElem?_eq_none (by omega), List.getElem?_eq_none (by rw [List.length_reverse]; omega)]
def wo (q : Prefix) : Nat → Prefix → List Prefix
  | 0, _ => []
  | k + 1, p => if PC (loP p) q then wo q k (loP p) ++ [hiP p] else loP p :: wo q k (hiP p)
theorem wo_length (q : Prefix) : ∀ (k : Nat) (p : Prefix), (wo q k p).length = k
  | 0, p => rfl
  | k + 1, p => by
    rw [wo]
    split
    · rw [List.length_append, wo_length q k]; rfl
    · rw [List.length_cons, wo_length q k]
theorem half_PC {p q : Prefix} (h : PC p q) (hl : p.Len < q.Len) : ¬ PC (loP p) q → PC (hiP p) q := fun hn => by
  have hb : p.Len < p.Bits := by have := h.2.1.2.2.1; have := h.2.2.1; omega
  rcases (half_inn h.1 hb (pa q)).1 (h.inn (inn_lo q)) with hi | hi
  · exact absurd (PC.of_sub (lo_PM h.1 hb) h.2.1 h.2.2.1 (by unfold loP; dsimp only; omega) hi) hn
  · exact PC.of_sub (hi_PM h.1 hb) h.2.1 h.2.2.1 (by unfold hiP; dsimp only; omega) hi
theorem Without_eq (p q : Prefix) : split_Without p q = some (if PC p q then (wo q (q.Len - p.Len).toNat p, 0) else ([], 1)) := by
  unfold split_Without
  rw [key_May_eq, bind_s, gb_of2 (key_May_eq _), bind_s, gb_of2 (key_Covers_eq _ _), bind_s]
  by_cases h : PC p q
  · have lp := h.1.len
    have lq := h.2.1.len
    have hle := h.2.2.2.1
    rw [if_pos h, cond_false (by rw [decide_eq_true h.1, decide_eq_true h.2.1, decide_eq_true h]; rfl)]
    have hloop : Gets (loopO (fun s => split_Without_l1 q s.1 s.2.1 s.2.2) ([], [], p)) (fun o => o.1 ++ o.2.reverse = wo q (q.Len - p.Len).toNat p ∧ o.2.length ≤ 128 ∧ o.1.length ≤ 128) := by
      refine Gets.loop (fun s => PC s.2.2 q ∧ p.Len ≤ s.2.2.Len ∧ s.1 ++ wo q (q.Len - s.2.2.Len).toNat s.2.2 ++ s.2.1.reverse = wo q (q.Len - p.Len).toNat p ∧ (s.1.length : Int) + s.2.1.length = s.2.2.Len - p.Len) (fun s => (q.Len - s.2.2.Len).toNat) ?_ ⟨h, Int.le_refl _, by simp, by simp⟩ (by dsimp only; omega)
      rintro ⟨a, b, x⟩ ⟨h1, h2, h3, h4⟩
      dsimp only at h1 h2 h3 h4 ⊢
      have lx := h1.1.len
      have hbx : x.Bits = q.Bits := h1.2.2.1
      unfold split_Without_l1
      by_cases hlt : x.Len < q.Len
      · have hlb : x.Len < x.Bits := by omega
        obtain ⟨k, hk⟩ : ∃ k : Nat, (q.Len - x.Len).toNat = k + 1 := ⟨(q.Len - x.Len).toNat - 1, by omega⟩
        rw [hk, wo] at h3
        rw [decide_eq_true hlt, cond_t, halves_eq h1.1 hlb, bind_s, key_Covers_eq, bind_s]
        by_cases hc : PC (loP x) q
        · rw [decide_eq_true hc, cond_t, room_ok (by omega) (by simp only [List.length_singleton]; omega) (by simp only [List.length_singleton]; omega), bind_s, bind_s]
          rw [if_pos hc] at h3
          refine Gets.l ⟨hc, by unfold loP; dsimp only; omega, ?_, by unfold loP; dsimp only; simp; omega⟩ (by unfold loP; dsimp only; omega)
          dsimp only
          rw [show (q.Len - (loP x).Len).toNat = k by unfold loP; dsimp only; omega, ← h3]
          simp
        · rw [decide_eq_false hc, cond_f, room_ok (by omega) (by simp only [List.length_singleton]; omega) (by simp only [List.length_singleton]; omega), bind_s, bind_s]
          rw [if_neg hc] at h3
          refine Gets.l ⟨half_PC h1 hlt hc, by unfold hiP; dsimp only; omega, ?_, by unfold hiP; dsimp only; simp; omega⟩ (by unfold hiP; dsimp only; omega)
          dsimp only
          rw [show (q.Len - (hiP x).Len).toNat = k by unfold hiP; dsimp only; omega, ← h3]
          simp
      · rw [decide_eq_false hlt, cond_f]
        have := h1.2.2.2.1
        rw [show (q.Len - x.Len).toNat = 0 by omega, wo, List.append_nil] at h3
        exact Gets.r ⟨h3, by dsimp only; omega, by dsimp only; omega⟩
    obtain ⟨⟨a, b⟩, e, h1, h2, h3⟩ := hloop
    dsimp only at h1 h2 h3
    rw [e, bind_s, el2_at, Reverse_eq (by omega), bind_s, lenI_ok (by simp), bind_s, room_ok (by omega) (by rw [List.length_reverse]; omega) (by rw [List.length_reverse]; omega), bind_s, bind_s, h1]
  · rw [if_neg h, cond_true]
    by_cases h1 : PM p
    · by_cases h2 : PM q
      · rw [decide_eq_true h1, decide_eq_true h2, decide_eq_false h]; rfl
      · rw [decide_eq_true h1, decide_eq_false h2]; rfl
    · rw [decide_eq_false h1]; rfl
theorem refWithout_n : ∀ (k : Nat) (f : Nat) {p q : Prefix}, k < f → PC p q → p.Len + k = q.Len → bywayref17_Without_n f p q = some (wo q k p)
  | k, 0, p, q, h, _, _ => by omega
  | 0, f + 1, p, q, _, hp, hn => by
    have e : p = q := by
      have h5 := hp.2.2.2.2
      refine hp.antisymm ⟨hp.2.1, hp.1, hp.2.2.1.symm, by omega, ?_⟩
      unfold agree at h5 ⊢
      rw [← show p.Len = q.Len by omega]; exact h5.symm
    unfold bywayref17_Without_n bywayref17_Without_s
    rw [decide_eq_true e, cond_t]; rfl
  | k + 1, f + 1, p, q, hf, hp, hn => by
    unfold bywayref17_Without_n bywayref17_Without_s
    have hl : p.Len < p.Bits := by have := hp.2.1.2.2.1; have := hp.2.2.1; omega
    have hq := hp.2.1.len
    have e0 := ref_Half_eq hp.1 hl false
    have e1 := ref_Half_eq hp.1 hl true
    rw [if_neg (by decide), if_neg (by decide)] at e0
    rw [if_pos rfl, if_pos rfl] at e1
    have a1 := wo_length q k (loP p)
    have a2 := wo_length q k (hiP p)
    have hk : k ≤ 128 := by have := hp.1.2.1; omega
    rw [decide_eq_false (fun e => by subst e; omega), cond_f, e0, bind_s, e1, bind_s, ref_Covers_eq, bind_s, wo]
    by_cases hc : PC (loP p) q
    · rw [decide_eq_true hc, cond_t, refWithout_n k f (by omega) hc (by unfold loP; dsimp only; omega), bind_s, room_ok (by omega) (by simp only [List.length_singleton]; omega) (by simp only [List.length_singleton]; omega), bind_s, bind_s, if_pos hc]
    · rw [decide_eq_false hc, cond_f, refWithout_n k f (by omega) (half_PC hp (by omega) hc) (by unfold hiP; dsimp only; omega), bind_s, room_ok (by omega) (by simp only [List.length_singleton]; omega) (by simp only [List.length_singleton]; omega), bind_s, bind_s, if_neg hc]
      rfl
theorem splitRight_plain (p0 q0 : Prefix) (n0 : Int) (l0 : List Prefix) : bywaylaw17_SplitRight p0 q0 n0 l0 = some true := by
  unfold bywaylaw17_SplitRight
  rw [split_awake_eq, bind_s, Bool.not_true, cond_f]
  by_cases hl : (l0.length : Int) > 30
  · rw [decide_eq_true hl, cond_t]
  rw [decide_eq_false hl, cond_f, Halves_eq, bind_s, Whole_eq, bind_s, Apart_eq, bind_s, Without_eq, bind_s]
  obtain ⟨t, et, t1, t2, t3, t4⟩ := together_get sortP_get (l := l0) (by omega)
  obtain ⟨u, eu, u1, u2, u3⟩ := refTogether_get (l := l0) (by omega)
  have htu : t = u := t1.uniq u1 t2 u2 fun b k => (t4 b k).trans (u3 b k).symm
  subst htu
  rw [et, bind_s, eu, bind_s, ref_Same_eq _ _ (by omega), bind_s, decide_eq_true rfl, Bool.not_true, cond_f, ref_May_eq, bind_s]
  by_cases hp : PM p0
  · have lp := hp.len
    have h3 := hp.2.2.1
    rw [decide_eq_true hp, Bool.not_true, cond_f]
    simp only [hp, not_true_eq_false, if_false, true_and]
    have e0 : p0.Len < p0.Bits → bywayref17_Half p0 0 = some (loP p0) := fun h => by have := ref_Half_eq hp h false; rwa [if_neg (by decide), if_neg (by decide)] at this
    have e1 : p0.Len < p0.Bits → bywayref17_Half p0 1 = some (hiP p0) := fun h => by have := ref_Half_eq hp h true; rwa [if_pos rfl, if_pos rfl] at this
    -- the halves
    have s1 : ∀ K : Option Bool, ((gb (((!((decide (p0.Len = p0.Bits)) && ((decide ((if p0.Len = p0.Bits then (zP, zP, (6 : Int)) else (loP p0, hiP p0, 0)).2.2 ≠ (6 : Int))) || (decide ((if p0.Len = p0.Bits then (zP, zP, (6 : Int)) else (loP p0, hiP p0, 0)).1 ≠ (if p0.Len = p0.Bits then (zP, zP, (6 : Int)) else (loP p0, hiP p0, 0)).2.1))))) && (decide (p0.Len < p0.Bits))) && (!(decide ((if p0.Len = p0.Bits then (zP, zP, (6 : Int)) else (loP p0, hiP p0, 0)).2.2 ≠ (0 : Int))))) (bywayref17_Half p0 (0 : Int))).bind fun x_16 => (gb (((!((decide (p0.Len = p0.Bits)) && ((decide ((if p0.Len = p0.Bits then (zP, zP, (6 : Int)) else (loP p0, hiP p0, 0)).2.2 ≠ (6 : Int))) || (decide ((if p0.Len = p0.Bits then (zP, zP, (6 : Int)) else (loP p0, hiP p0, 0)).1 ≠ (if p0.Len = p0.Bits then (zP, zP, (6 : Int)) else (loP p0, hiP p0, 0)).2.1))))) && (decide (p0.Len < p0.Bits))) && (!((decide ((if p0.Len = p0.Bits then (zP, zP, (6 : Int)) else (loP p0, hiP p0, 0)).2.2 ≠ (0 : Int))) || (decide ((if p0.Len = p0.Bits then (zP, zP, (6 : Int)) else (loP p0, hiP p0, 0)).1 ≠ x_16))))) (bywayref17_Half p0 (1 : Int))).bind fun x_17 => bif (((decide (p0.Len = p0.Bits)) && ((decide ((if p0.Len = p0.Bits then (zP, zP, (6 : Int)) else (loP p0, hiP p0, 0)).2.2 ≠ (6 : Int))) || (decide ((if p0.Len = p0.Bits then (zP, zP, (6 : Int)) else (loP p0, hiP p0, 0)).1 ≠ (if p0.Len = p0.Bits then (zP, zP, (6 : Int)) else (loP p0, hiP p0, 0)).2.1)))) || ((decide (p0.Len < p0.Bits)) && (((decide ((if p0.Len = p0.Bits then (zP, zP, (6 : Int)) else (loP p0, hiP p0, 0)).2.2 ≠ (0 : Int))) || (decide ((if p0.Len = p0.Bits then (zP, zP, (6 : Int)) else (loP p0, hiP p0, 0)).1 ≠ x_16))) || (decide ((if p0.Len = p0.Bits then (zP, zP, (6 : Int)) else (loP p0, hiP p0, 0)).2.1 ≠ x_17))))) then (some false) else K) = K := by
      intro K
      by_cases h : p0.Len = p0.Bits
      · have : ¬ p0.Len < p0.Bits := by omega
        simp [h, gb_false, bind_s, cond_f]
      · have h2 : p0.Len < p0.Bits := by omega
        simp [h, h2, gb_true, bind_s, cond_f, e0 h2, e1 h2]
    rw [s1, gb_of2 (ref_Whole_eq hp.small), bind_s, cond_false (by
      by_cases h0 : p0.Len = 0
      · simp [h0]
      · have h1 : 0 < p0.Len := by have := hp.2.1; omega
        simp [h0, h1])]
    have s3 : (bif ((decide (n0 < p0.Len)) || (decide (n0 > p0.Bits))) then (bif ((decide ((if ¬ (p0.Len ≤ n0 ∧ n0 ≤ p0.Bits) then (([] : List Prefix), (1 : Int)) else if n0 - p0.Len > 8 then ([], 3) else (apN (n0 - p0.Len).toNat p0, 0)).2 ≠ (1 : Int))) || (decide (((if ¬ (p0.Len ≤ n0 ∧ n0 ≤ p0.Bits) then (([] : List Prefix), (1 : Int)) else if n0 - p0.Len > 8 then ([], 3) else (apN (n0 - p0.Len).toNat p0, 0)).1.length : Int) ≠ (0 : Int)))) then (some (.inr false)) else (some (.inl ()))) else ((subI n0 p0.Len).bind fun x_21 => bif (decide (x_21 > (8 : Int))) then (bif ((decide ((if ¬ (p0.Len ≤ n0 ∧ n0 ≤ p0.Bits) then (([] : List Prefix), (1 : Int)) else if n0 - p0.Len > 8 then ([], 3) else (apN (n0 - p0.Len).toNat p0, 0)).2 ≠ (3 : Int))) || (decide (((if ¬ (p0.Len ≤ n0 ∧ n0 ≤ p0.Bits) then (([] : List Prefix), (1 : Int)) else if n0 - p0.Len > 8 then ([], 3) else (apN (n0 - p0.Len).toNat p0, 0)).1.length : Int) ≠ (0 : Int)))) then (some (.inr false)) else (some (.inl ()))) else ((gb (!(decide ((if ¬ (p0.Len ≤ n0 ∧ n0 ≤ p0.Bits) then (([] : List Prefix), (1 : Int)) else if n0 - p0.Len > 8 then ([], 3) else (apN (n0 - p0.Len).toNat p0, 0)).2 ≠ (0 : Int)))) (bywayref17_Apart p0 n0)).bind fun x_23 => (gb (!(decide ((if ¬ (p0.Len ≤ n0 ∧ n0 ≤ p0.Bits) then (([] : List Prefix), (1 : Int)) else if n0 - p0.Len > 8 then ([], 3) else (apN (n0 - p0.Len).toNat p0, 0)).2 ≠ (0 : Int)))) (bywayref17_Same (if ¬ (p0.Len ≤ n0 ∧ n0 ≤ p0.Bits) then (([] : List Prefix), (1 : Int)) else if n0 - p0.Len > 8 then ([], 3) else (apN (n0 - p0.Len).toNat p0, 0)).1 x_23)).bind fun x_24 => bif ((decide ((if ¬ (p0.Len ≤ n0 ∧ n0 ≤ p0.Bits) then (([] : List Prefix), (1 : Int)) else if n0 - p0.Len > 8 then ([], 3) else (apN (n0 - p0.Len).toNat p0, 0)).2 ≠ (0 : Int))) || (!x_24)) then (some (.inr false)) else (some (.inl ()))))) = (some (.inl ()) : Option (Unit ⊕ Bool)) := by
      by_cases hn : p0.Len ≤ n0 ∧ n0 ≤ p0.Bits
      · have g1 : ¬ n0 < p0.Len := by omega
        have g2 : ¬ n0 > p0.Bits := by omega
        rw [if_neg (fun g => g hn), decide_eq_false g1, decide_eq_false g2, Bool.or_false, cond_f, subI_ok (by omega) (by omega), bind_s]
        by_cases h8 : n0 - p0.Len > 8
        · rw [if_pos h8, decide_eq_true h8, cond_t]; rfl
        · have hal := apN_length (n0 - p0.Len).toNat p0
          have h256 : 2 ^ (n0 - p0.Len).toNat ≤ 2 ^ 8 := Nat.pow_le_pow_right (by omega) (by omega)
          have ea : bywayref17_Apart p0 n0 = some (apN (n0 - p0.Len).toNat p0) := refApart_n _ _ (by omega) hp (by omega) (by omega) (by omega)
          rw [if_neg h8, decide_eq_false h8, cond_f, show (!(decide ((0 : Int) ≠ 0))) = true from rfl, gb_true, ea, bind_s, gb_true, ref_Same_eq _ _ (by dsimp only; omega), bind_s, decide_eq_true rfl]; rfl
      · rw [if_pos hn, cond_true (by simp only [Bool.or_eq_true, decide_eq_true_eq]; omega)]; rfl
    rw [s3, bind_s, elS_inl, ref_Covers_eq, bind_s]
    by_cases hc : PC p0 q0
    · have hle := hc.2.2.2.1
      have hw := wo_length q0 (q0.Len - p0.Len).toNat p0
      have lq := hc.2.1.len
      have ea : bywayref17_Without p0 q0 = some (wo q0 (q0.Len - p0.Len).toNat p0) := refWithout_n _ _ (by omega) hc (by omega)
      rw [decide_eq_true hc, Bool.not_true, cond_f, if_pos hc, show decide ((0 : Int) = 0) = true from rfl, gb_true, ea, bind_s, gb_true, ref_Same_eq _ _ (by dsimp only; omega), bind_s, decide_eq_true rfl]; rfl
    · rw [decide_eq_false hc, Bool.not_false, cond_t, if_neg hc]; rfl
  · simp [hp, gb_true, addI_ok, bind_s, PC]
end Go.Proofs.Ytpknphecmahkaaa.Tr
namespace Go.Proofs.Ytpknphecmahkaaa.Tr
open Go Go.RowKit Go.ChangeShapes Go.WideShapes Go.ChangeAt
set_option synthInstance.maxHeartbeats 400000
set_option synthInstance.maxSize 4096
theorem law_own : ownKnob Try.prog.godebug = none := by kernel_rfl
theorem law_laid : laidOutB Try.prog = true := by kernel_rfl
instance : TOpen Try.prog 3 Int inferInstance := topen_i64 (by kernel_rfl)
instance : TOpen Try.prog 5 UInt8 inferInstance := topen_u8 (by kernel_rfl)
instance : TOpen Try.prog 23 (Vec UInt8 16) inferInstance := topen_vec (e := 5) (by kernel_rfl) (by kernel_rfl) (by kernel_rfl)
instance : TOpen Try.prog 25 Prefix inferInstance := topen_struct (i := Prefix_dat) Prefix_to Prefix_of (fun _ => rfl) rfl Try.underlying25 rfl (by kernel_rfl) (topf_cons (o := 0) (inferInstance : TOpen Try.prog 3 Int inferInstance) (by kernel_rfl) (by rfl) (by rfl) (by rfl) (topf_cons (o := 1) (inferInstance : TOpen Try.prog 3 Int inferInstance) (by kernel_rfl) (by rfl) (by rfl) (by rfl) (topf_one (inferInstance : TOpen Try.prog 23 (Vec UInt8 16) inferInstance) (by kernel_rfl) (by rfl) (by rfl))))
instance : TOpen Try.prog 26 (List Prefix) inferInstance := topen_list (e := 25) (by kernel_rfl) (by kernel_rfl) (by decide +kernel)
set_option maxRecDepth 100000 in
theorem splitRight_lifted (os : Os) (started : os.Started) (H : Type) (enc : TypeId × Value → H) :
    ReturnsInHanded {} Try.checked os 3 .any (Rows.splitRightSpec.pre6 enc Try.prog Try.f3 Rows.splitRightRow.domain false) (Rows.splitRightSpec.post enc Try.prog Try.f3 false true false false) := by
  refine returnsInHanded_of_change_sized (C := Try.checked) law_own started (by kernel_rfl) Try.func3
    (ChangeSpec.witness6 (enc := enc) (C := Try.checked) false ⟨#[], #[.agg #[.int .i64 0, .int .i64 0, .int .u8 0, .int .u8 0, .int .u8 0, .int .u8 0, .int .u8 0, .int .u8 0, .int .u8 0, .int .u8 0, .int .u8 0, .int .u8 0, .int .u8 0, .int .u8 0, .int .u8 0, .int .u8 0, .int .u8 0, .int .u8 0], .agg #[.int .i64 0, .int .i64 0, .int .u8 0, .int .u8 0, .int .u8 0, .int .u8 0, .int .u8 0, .int .u8 0, .int .u8 0, .int .u8 0, .int .u8 0, .int .u8 0, .int .u8 0, .int .u8 0, .int .u8 0, .int .u8 0, .int .u8 0, .int .u8 0], .int .i64 0, .slice none 0 0], []⟩ 8 (by kernel_rfl) (by kernel_rfl) (by kernel_rfl) (by kernel_rfl)) ?_
  intro W base args ds gs before hval0 hW hcnd hsz0 _
  have hval : ∀ (j : Nat) t v, Try.f3.params[j]? = some t → args[j]? = some v → Value.okWide Try.prog W .any base t v := hval0
  have hW' := hW
  obtain ⟨p, q, hA0, hV, rfl, hfz, hnd⟩ := hW
  have hA : DataW.TrodAll enc Try.prog W 0 (fun _ => true) true Try.f3.params.toList args.toList ds p := hA0
  have hsz : ∀ n ∈ DataW.weightsEach Try.prog Try.f3.params.toList ds, n ≤ reachBytes := fun n hn => by
    obtain ⟨rfl, -⟩ := trodVars_none hV
    have := List.all_eq_true.1 hsz0 n (by
      show n ∈ DataW.weightsEach Try.prog (Try.f3.params.toList ++ []) (ds ++ [])
      rw [List.append_nil, List.append_nil]; exact hn)
    simpa using this
  rw [Try.params3] at hA hval hsz
  obtain ⟨v0, vs0, d0, ds0, p0, q0, hargs, rfl, rfl, h0, r0⟩ := trodAll_cons hA
  obtain ⟨v1, vs1, d1, ds1, p1, q1, rfl, rfl, rfl, h1, r1⟩ := trodAll_cons r0
  obtain ⟨v2, vs2, d2, ds2, p2, q2, rfl, rfl, rfl, h2, r2⟩ := trodAll_cons r1
  obtain ⟨v3, vs3, d3, ds3, p3, q3, rfl, rfl, rfl, h3, r3⟩ := trodAll_cons r2
  obtain ⟨rfl, rfl, rfl⟩ := trodAll_nil r3
  obtain rfl : args = #[v0, v1, v2, v3] := by cases args; simp_all
  obtain ⟨x0, y0⟩ := top_open h0 (hval 0 _ v0 rfl rfl) (fun n hn => hsz n (DataW.weights_mem_each (j := 0) rfl rfl n hn))
  obtain ⟨x1, y1⟩ := top_open h1 (hval 1 _ v1 rfl rfl) (fun n hn => hsz n (DataW.weights_mem_each (j := 1) rfl rfl n hn))
  obtain ⟨x2, y2⟩ := top_open h2 (hval 2 _ v2 rfl rfl) (fun n hn => hsz n (DataW.weights_mem_each (j := 2) rfl rfl n hn))
  obtain ⟨x3, y3⟩ := top_open h3 (hval 3 _ v3 rfl rfl) (fun n hn => hsz n (DataW.weights_mem_each (j := 3) rfl rfl n hn))
  refine (bywaylaw17_SplitRight_c W v0 v1 v2 v3 (fun _ _ => trivial) y0 y1 y2 y3 (splitRight_plain _ _ _ _)).mono fun e W1 h => ?_; refine law_post (tb := 4) law_laid (by kernel_rfl) (by kernel_rfl) rfl (by rw [Try.params3]; decide +kernel) rfl hW' h
end Go.Proofs.Ytpknphecmahkaaa.Tr
namespace Go.Proofs.Ytpknphecmahkaaa
open Go Go.RowKit Go.ChangeShapes Go.WideShapes Go.ChangeAt
theorem splitRight_holds : Rows.SplitRightSaid :=
  OpenClaim.holds_of_wide 3 Try.f3 rfl rfl rfl rfl rfl rfl rfl ⟨rfl, rfl, rfl, rfl, rfl⟩ rfl rfl rfl rfl rfl (by kernel_rfl) Try.func3 (by kernel_rfl)
    (of_decide_eq_true (by kernel_rfl)) (by unfold Func.isWrapper; first | (rw [if_pos (by decide +kernel)]; kernel_rfl) | (rw [if_neg (by decide +kernel)]; exact ⟨rfl, rfl⟩))
    (fun os started H enc _ => Tr.splitRight_lifted os started H enc)
#print axioms splitRight_holds
end Go.Proofs.Ytpknphecmahkaaa
