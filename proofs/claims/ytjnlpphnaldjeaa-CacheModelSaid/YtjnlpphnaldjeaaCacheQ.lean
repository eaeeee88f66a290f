/- The laws of the cache, in plain Lean: what is kept, looked for and forgotten, and the first law. Conditions: none. -/
import Derived.Test.YtjnlpphnaldjeaaCacheP
namespace Go.Proofs.Ytjnlpphnaldjeaa.Tr
open Go
set_option linter.unusedVariables false
set_option linter.unusedSimpArgs false

def without (l : List Item) (id : Int) : List Item := l.filter fun x => decide (x.Id ≠ id)
theorem without_none {l : List Item} {id : Int} (h : ∀ j, (hj : j < l.length) → l[j].Id ≠ id) : without l id = l := by
  unfold without
  rw [List.filter_eq_self]
  intro x hx
  obtain ⟨j, hj, rfl⟩ := List.getElem_of_mem hx
  simpa using h j hj
theorem erase_without {l : List Item} {id : Int} {i : Nat} (hi : i < l.length) (hid : l[i].Id = id) (hk : KOk l) : l.take i ++ l.drop (i + 1) = without l id := by
  have e : l = l.take i ++ l[i] :: l.drop (i + 1) := by rw [← List.drop_eq_getElem_cons hi, List.take_append_drop]
  have h1 : (l.take i).filter (fun x => decide (x.Id ≠ id)) = l.take i := by
    rw [List.filter_eq_self]
    intro x hx
    obtain ⟨j, hj, rfl⟩ := List.getElem_of_mem hx
    rw [List.length_take] at hj
    have := (hk i hi).2 j (by omega) (by omega)
    simp only [List.getElem_take, decide_eq_true_eq]
    rwa [hid] at this
  have h2 : (l.drop (i + 1)).filter (fun x => decide (x.Id ≠ id)) = l.drop (i + 1) := by
    rw [List.filter_eq_self]
    intro x hx
    obtain ⟨j, hj, rfl⟩ := List.getElem_of_mem hx
    rw [List.length_drop] at hj
    have := (hk (i + 1 + j) (by omega)).2 i hi (by omega)
    simp only [List.getElem_drop, decide_eq_true_eq]
    rw [hid] at this
    exact fun h => this h.symm
  unfold without
  conv => rhs; rw [e]
  rw [List.filter_append, List.filter_cons, h1, h2]
  simp [hid]
theorem delete_eq {l : List Item} {i : Nat} (hi : i < l.length) : slices_Delete_api_Item l (i : Int) ((i + 1 : Nat) : Int) = some (l.take i ++ l.drop (i + 1)) := by
  unfold slices_Delete_api_Item
  rw [cut_ok (by omega) (by omega) (by omega), bind_s, Int.toNat_natCast, Int.toNat_natCast]

/-- what looking finds -/
def LookR (k : Kept) (id : Int) (r : Kept × (List UInt8) × Bool) : Prop :=
  (∃ i, ∃ h : i < k.Items.length, k.Items[i].Id = id ∧ r = (⟨k.Most, without k.Items id ++ [k.Items[i]]⟩, k.Items[i].Body, true)) ∨ ((∀ j, (hj : j < k.Items.length) → k.Items[j].Id ≠ id) ∧ r = (k, [], false))
theorem KOk.same {l : List Item} (h : KOk l) {i j : Nat} (hi : i < l.length) (hj : j < l.length) (e : l[i].Id = l[j].Id) : i = j := by
  rcases Nat.lt_trichotomy i j with h1 | h1 | h1
  · exact absurd e ((h j hj).2 i hi h1)
  · exact h1
  · exact absurd e.symm ((h i hi).2 j hj h1)
theorem LookR.uniq {k : Kept} (hk : KOk k.Items) {id : Int} {r s : Kept × (List UInt8) × Bool} (hr : LookR k id r) (hs : LookR k id s) : r = s := by
  rcases hr with ⟨i, hi, h1, rfl⟩ | ⟨h1, rfl⟩ <;> rcases hs with ⟨j, hj, h2, rfl⟩ | ⟨h2, rfl⟩
  · obtain rfl := hk.same hi hj (by rw [h1, h2]); rfl
  · exact absurd h1 (h2 i hi)
  · exact absurd h2 (h1 j hj)
  · rfl
theorem look_right {k : Kept} (h : KR k) (hw : KW k.Items) (id : Int) : ∃ r, cache_Look k id = some r ∧ LookR k id r := by
  unfold cache_Look
  have hl := h.1
  obtain ⟨p, h1, h2⟩ := place_eq k.Items id hw.1
  rw [right_eq, bind_s, copied_eq hw, bind_s, bind_s, h1, bind_s, decide_eq_true h, Bool.not_true, Bool.false_or]
  rcases h2 with ⟨i, rfl, hi, h3, h4⟩ | ⟨rfl, h3⟩
  · have hlen : (k.Items.take i ++ k.Items.drop (i + 1)).length = k.Items.length - 1 := by simp; omega
    rw [show decide ((i : Int) < 0) = false by simp <;> omega, cond_f, idx_nat hi, bind_s, addI_nat (by omega), bind_s, delete_eq hi, bind_s, room_ok (by omega) (by simp only [hlen, List.length_singleton]; omega) (by simp only [hlen, List.length_singleton]; omega), bind_s, bind_s, clone_b (hw.2 _ (List.getElem_mem hi)), bind_s, erase_without hi h3 h.2]
    exact ⟨_, rfl, .inl ⟨i, hi, h3, rfl⟩⟩
  · rw [show decide ((-1 : Int) < 0) = true by decide, cond_t, bind_s]
    exact ⟨_, rfl, .inr ⟨h3, rfl⟩⟩
theorem look_wrong {k : Kept} (h : ¬ KR k) (hw : KW k.Items) (id : Int) : cache_Look k id = some (k, [], false) := by
  unfold cache_Look
  obtain ⟨p, h1, h2⟩ := place_eq k.Items id hw.1
  rw [right_eq, bind_s, copied_eq hw, bind_s, bind_s, h1, bind_s, decide_eq_false h, Bool.not_false, Bool.true_or, cond_t, bind_s]
theorem without_len {l : List Item} {id : Int} : (without l id).length ≤ l.length := List.length_filter_le ..
/-- what keeping leaves -/
def keepS (k : Kept) (x : Item) : Kept := ⟨k.Most, (if ((without k.Items x.Id).length : Int) = k.Most then (without k.Items x.Id).drop 1 else without k.Items x.Id) ++ [x]⟩
theorem keep_wrong {k : Kept} {x : Item} (hw : KW k.Items) (h : ¬ KR k ∨ x.Id < 0) : cache_Keep k x = some (k, 1) := by
  unfold cache_Keep
  rw [right_eq, bind_s, copied_eq hw, bind_s, bind_s]
  have : ((!decide (KR k)) || decide (x.Id < 0)) = true := by
    rcases h with h | h
    · rw [decide_eq_false h]; rfl
    · simp [h]
  rw [this, cond_t, bind_s]
theorem keep_right {k : Kept} {x : Item} (hw : KW k.Items) (hb : x.Body.length ≤ 140737488351232) (h : KR k) (hx : 0 ≤ x.Id) : cache_Keep k x = some (keepS k x, 0) := by
  unfold cache_Keep
  have hl := h.1
  obtain ⟨p, h1, h2⟩ := place_eq k.Items x.Id hw.1
  rw [right_eq, bind_s, copied_eq hw, bind_s, bind_s, decide_eq_true h, Bool.not_true, Bool.false_or, show decide (x.Id < 0) = false by simpa using hx, cond_f, h1, bind_s]
  have key : ∃ l, (bif decide (p ≥ 0) then ((addI p (1 : Int)).bind fun x_13 => (slices_Delete_api_Item k.Items p x_13).bind fun x_14 => some x_14) else (bif (decide ((k.Items.length : Int) = k.Most)) then ((slices_Delete_api_Item k.Items (0 : Int) (1 : Int)).bind fun x_16 => some x_16) else (some k.Items))) = some l ∧ l.length ≤ 64 ∧
      l = (if ((without k.Items x.Id).length : Int) = k.Most then (without k.Items x.Id).drop 1 else without k.Items x.Id) := by
    rcases h2 with ⟨i, rfl, hi, h3, h4⟩ | ⟨rfl, h3⟩
    · have hlen : (k.Items.take i ++ k.Items.drop (i + 1)).length = k.Items.length - 1 := by simp; omega
      refine ⟨_, by rw [show decide ((i : Int) ≥ 0) = true by simp, cond_t, addI_nat (by omega), bind_s, delete_eq hi, bind_s], by omega, ?_⟩
      rw [erase_without hi h3 h.2] at hlen ⊢
      rw [if_neg (by omega)]
    · rw [without_none h3, show decide ((-1 : Int) ≥ 0) = false by decide, cond_f]
      by_cases hm : (k.Items.length : Int) = k.Most
      · have hpos : 0 < k.Items.length := by omega
        have hdel := delete_eq (l := k.Items) (i := 0) hpos
        refine ⟨_, by rw [decide_eq_true hm, cond_t]; exact congrArg (fun z : Option (List Item) => z.bind fun y => some y) hdel, by simp; omega, ?_⟩
        rw [if_pos hm]; simp
      · refine ⟨_, by rw [decide_eq_false hm, cond_f], by omega, ?_⟩
        rw [if_neg hm]
  obtain ⟨l, e1, e2, e3⟩ := key
  rw [e1, bind_s, clone_b hb, bind_s, room_ok (by omega) (by simp only [List.length_singleton]; omega) (by simp only [List.length_singleton]; omega), bind_s, bind_s, bind_s, e3]
  rfl
theorem forget_eq {k : Kept} (hw : KW k.Items) (id : Int) (hl : KR k → k.Items.length ≤ 64) : (KR k → cache_Forget k id = some ⟨k.Most, without k.Items id⟩) ∧ (¬ KR k → cache_Forget k id = some k) := by
  unfold cache_Forget
  obtain ⟨p, h1, h2⟩ := place_eq k.Items id hw.1
  rw [right_eq, bind_s, copied_eq hw, bind_s, bind_s, h1, bind_s]
  constructor
  · intro h
    rw [decide_eq_true h, Bool.true_and]
    rcases h2 with ⟨i, rfl, hi, h3, h4⟩ | ⟨rfl, h3⟩
    · have := hl h
      rw [show decide ((i : Int) ≥ 0) = true by simp, cond_t, addI_nat (by omega), bind_s, delete_eq hi, bind_s, bind_s, bind_s, erase_without hi h3 h.2]
    · rw [show decide ((-1 : Int) ≥ 0) = false by decide, cond_f, bind_s, bind_s, without_none h3]
  · intro h
    rw [decide_eq_false h, Bool.false_and, cond_f, bind_s, bind_s]
theorem ids_eq (k : Kept) : (KR k → cache_Ids k = some (k.Items.map (·.Id))) ∧ (¬ KR k → cache_Ids k = some []) := by
  unfold cache_Ids
  rw [right_eq, bind_s]
  constructor
  · intro h
    have hl := h.1
    rw [decide_eq_true h, Bool.not_true, cond_f, room_ok (by omega) (by omega) (by omega), bind_s, bind_s, Int.toNat_natCast]
    obtain ⟨e, he, hQ⟩ := loopO_inv (f := fun s => cache_Ids_l1 k s.1 s.2) (I := fun s => ∃ i : Nat, s.1 = i ∧ i ≤ k.Items.length ∧ s.2.length = k.Items.length ∧ ∀ j, (hj : j < k.Items.length) → j < i → s.2[j]? = some k.Items[j].Id) (μ := fun s => (k.Items.length - s.1).toNat)
      (R := fun e => e = k.Items.map (·.Id)) (by
        rintro ⟨x, v⟩ ⟨i, hx, hil, hv, hI⟩
        obtain rfl : x = i := hx
        simp only at hv hI
        unfold cache_Ids_l1
        by_cases hx : i < k.Items.length
        · rw [show decide ((i : Int) < (k.Items.length : Int)) = true by simpa using hx, cond_t, idx_nat hx, bind_s, idx_nat (l := v) (by omega), bind_s, bind_s, addI_nat (show i < 9223372036854775807 by omega), bind_s, Int.toNat_natCast]
          left
          refine ⟨_, rfl, ⟨i + 1, rfl, by omega, by simpa using hv, fun j hj hji => ?_⟩, by simp only; omega⟩
          by_cases e : j = i
          · subst e; simp [hv, hj]
          · simp only [List.getElem?_set_ne (fun x => e x.symm)]
            exact hI j hj (by omega)
        · rw [show decide ((i : Int) < (k.Items.length : Int)) = false by simp; omega, cond_f]
          refine .inr ⟨_, rfl, ?_⟩
          apply List.ext_getElem?
          intro j
          by_cases hj : j < k.Items.length
          · rw [hI j hj (by omega)]; simp [hj]
          · rw [List.getElem?_eq_none (show v.length ≤ j by omega), List.getElem?_eq_none (by simp; omega)]) (s := ((0 : Int), List.replicate k.Items.length Dat.z)) ⟨0, rfl, by omega, by simp, fun j _ hj => by omega⟩ (by simp only; omega)
    rw [he, bind_s, hQ]
  · intro h
    rw [decide_eq_false h, Bool.not_false, cond_t]

/-! ### the reference -/
theorem ref_without_eq (k : Kept) (id : Int) (hl : k.Items.length ≤ 100) : bywayref13_Without k id = some ⟨k.Most, without k.Items id⟩ := by
  unfold bywayref13_Without
  obtain ⟨e, he, hQ⟩ := loopO_inv (f := fun s => bywayref13_Without_l1 k id s.1 s.2) (I := fun s => ∃ i : Nat, s.1 = i ∧ i ≤ k.Items.length ∧ s.2 = without (k.Items.take i) id) (μ := fun s => (k.Items.length - s.1).toNat) (R := fun e => e = without k.Items id) (by
    rintro ⟨x, v⟩ ⟨i, hx, hil, hv⟩
    obtain rfl : x = i := hx
    obtain rfl : v = _ := hv
    unfold bywayref13_Without_l1
    by_cases hx : i < k.Items.length
    · have ht : k.Items.take (i + 1) = k.Items.take i ++ [k.Items[i]] := (List.take_append_getElem hx).symm
      have hlen : (without (k.Items.take i) id).length ≤ 100 := Nat.le_trans without_len (by simp; omega)
      rw [show decide ((i : Int) < (k.Items.length : Int)) = true by simpa using hx, cond_t, idx_nat hx, bind_s, bind_s, room_ok (by omega) (by simp only [List.length_singleton]; omega) (by simp only [List.length_singleton]; omega), bind_s, bind_s, addI_nat (show i < 9223372036854775807 by omega)]
      left
      refine ⟨(((i + 1 : Nat) : Int), without (k.Items.take (i + 1)) id), ?_, ⟨i + 1, rfl, by omega, rfl⟩, by simp only; omega⟩
      have hf : without (k.Items.take (i + 1)) id = without (k.Items.take i) id ++ (if k.Items[i].Id ≠ id then [k.Items[i]] else []) := by
        rw [ht]; unfold without; rw [List.filter_append]
        by_cases e : k.Items[i].Id = id <;> simp [e]
      rw [hf]
      by_cases e : k.Items[i].Id = id
      · rw [show decide (k.Items[i].Id ≠ id) = false by simpa using e, cond_f, bind_s, bind_s, if_neg (by simpa using e), List.append_nil]
      · rw [show decide (k.Items[i].Id ≠ id) = true by simpa using e, cond_t, bind_s, bind_s, if_pos e]
    · rw [show decide ((i : Int) < (k.Items.length : Int)) = false by simp; omega, cond_f]
      exact .inr ⟨_, rfl, by rw [List.take_of_length_le (by omega)]⟩) (s := ((0 : Int), [])) ⟨0, rfl, by omega, rfl⟩ (by simp only; omega)
  rw [he, bind_s, bind_s, hQ]
theorem ref_look_eq (k : Kept) (id : Int) (hl : k.Items.length ≤ 80) : ∃ r, bywayref13_Look k id = some r ∧ LookR k id r := by
  unfold bywayref13_Look
  obtain ⟨e, he, hQ⟩ := loopO_inv (f := fun s => bywayref13_Look_l1 k id s) (I := fun s => ∃ i : Nat, s = i ∧ i ≤ k.Items.length ∧ ∀ j, (hj : j < k.Items.length) → j < i → k.Items[j].Id ≠ id) (μ := fun s => (k.Items.length - s).toNat)
    (R := fun e => (e = .inl () ∧ ∀ j, (hj : j < k.Items.length) → k.Items[j].Id ≠ id) ∨ ∃ r, e = .inr r ∧ LookR k id r) (by
    rintro x ⟨i, rfl, hil, hI⟩
    unfold bywayref13_Look_l1
    by_cases hx : i < k.Items.length
    · have hlen : (without k.Items id).length ≤ 80 := Nat.le_trans without_len hl
      rw [show decide ((i : Int) < (k.Items.length : Int)) = true by simpa using hx, cond_t, idx_nat hx, bind_s]
      by_cases e : k.Items[i].Id = id
      · rw [show decide (k.Items[i].Id = id) = true by simpa using e, cond_t, bind_s, ref_without_eq k id (by omega), bind_s, room_ok (by omega) (by simp; omega) (by simp; omega), bind_s, room_ok (by omega) (by simp; omega) (by simp; omega), bind_s, bind_s, List.nil_append]
        exact .inr ⟨_, rfl, .inr ⟨_, rfl, .inl ⟨i, hx, e, rfl⟩⟩⟩
      · rw [show decide (k.Items[i].Id = id) = false by simpa using e, cond_f, addI_nat (by omega), bind_s]
        left
        refine ⟨_, rfl, ⟨i + 1, rfl, by omega, fun j hj hji => ?_⟩, by omega⟩
        by_cases e' : j = i
        · subst e'; exact e
        · exact hI j hj (by omega)
    · rw [show decide ((i : Int) < (k.Items.length : Int)) = false by simp; omega, cond_f]
      exact .inr ⟨_, rfl, .inl ⟨rfl, fun j hj => hI j hj (by omega)⟩⟩) (s := (0 : Int)) ⟨0, rfl, by omega, fun j _ hj => by omega⟩ (by omega)
  rw [he, bind_s]
  rcases hQ with ⟨rfl, hQ⟩ | ⟨r, rfl, hQ⟩
  · rw [elS_inl]; exact ⟨_, rfl, .inr ⟨hQ, rfl⟩⟩
  · rw [elS_inr]; exact ⟨_, rfl, hQ⟩
theorem ref_keep_eq (k : Kept) (x : Item) (hl : k.Items.length ≤ 80) (hm : 1 ≤ k.Most) : bywayref13_Keep k x = some (keepS k x) := by
  unfold bywayref13_Keep keepS
  have hlen : (without k.Items x.Id).length ≤ 80 := Nat.le_trans without_len hl
  rw [ref_without_eq k _ (by omega), bind_s]
  by_cases h : ((without k.Items x.Id).length : Int) = k.Most
  · have hd : ((without k.Items x.Id).drop (Int.toNat 1)).length ≤ 80 := by rw [List.length_drop]; omega
    rw [decide_eq_true h, cond_t, cut_ok (n := (without k.Items x.Id).length) (l := 1) (r := ((without k.Items x.Id).length : Int)) (by omega) (by omega) (by omega), bind_s, bind_s, bind_s, room_ok (by omega) (by simp; omega) (by simp; omega), bind_s, room_ok (by omega) (by simp; omega) (by simp; omega), bind_s, bind_s, bind_s, if_pos h, List.nil_append]
    rfl
  · rw [decide_eq_false h, cond_f, bind_s, room_ok (by omega) (by simp; omega) (by simp; omega), bind_s, room_ok (by omega) (by simp; omega) (by simp; omega), bind_s, bind_s, bind_s, if_neg h, List.nil_append]
theorem ref_same_eq (a b : Kept) (hl : a.Items.length ≤ 1000) : bywayref13_Same a b = some (decide (a = b)) := by
  unfold bywayref13_Same
  by_cases h : a.Most = b.Most ∧ a.Items.length = b.Items.length
  · rw [show ((decide (a.Most ≠ b.Most)) || (decide ((a.Items.length : Int) ≠ (b.Items.length : Int)))) = false by simp; omega, cond_f]
    obtain ⟨e, he, hQ⟩ := loopO_inv (f := fun s => bywayref13_Same_l1 a b s) (I := fun s => ∃ i : Nat, s = i ∧ i ≤ a.Items.length ∧ ∀ j, (hj : j < a.Items.length) → j < i → b.Items[j]? = some a.Items[j]) (μ := fun s => (a.Items.length - s).toNat)
      (R := fun e => (e = .inl () ∧ a.Items = b.Items) ∨ (e = .inr false ∧ a.Items ≠ b.Items)) (by
      rintro x ⟨i, rfl, hil, hI⟩
      unfold bywayref13_Same_l1
      by_cases hx : i < a.Items.length
      · have hb : i < b.Items.length := by omega
        rw [show decide ((i : Int) < (a.Items.length : Int)) = true by simpa using hx, cond_t, idx_nat hx, bind_s, idx_nat hb, bind_s, addI_nat (by omega)]
        by_cases e1 : a.Items[i].Id = b.Items[i].Id
        · rw [show decide (a.Items[i].Id ≠ b.Items[i].Id) = false by simpa using e1, Bool.not_false, gb_true, bind_s, gb_true, bind_s, Bool.false_or, bind_s]
          by_cases e2 : a.Items[i].Body = b.Items[i].Body
          · left
            refine ⟨_, by rw [show decide (a.Items[i].Body ≠ b.Items[i].Body) = false by simpa using e2, cond_f], ⟨i + 1, rfl, by omega, fun j hj hji => ?_⟩, by omega⟩
            by_cases e' : j = i
            · subst e'
              rw [List.getElem?_eq_getElem hb]
              have : a.Items[j] = b.Items[j] := Item_inj (Prod.ext e1 e2)
              rw [this]
            · exact hI j hj (by omega)
          · refine .inr ⟨_, by rw [show decide (a.Items[i].Body ≠ b.Items[i].Body) = true by simpa using e2, cond_t], .inr ⟨rfl, fun h => e2 ?_⟩⟩
            simp only [h]
        · rw [show decide (a.Items[i].Id ≠ b.Items[i].Id) = true by simpa using e1, Bool.not_true, gb_false, bind_s, gb_false, bind_s, Bool.true_or, cond_t]
          exact .inr ⟨_, rfl, .inr ⟨rfl, fun h => e1 (by simp only [h])⟩⟩
      · rw [show decide ((i : Int) < (a.Items.length : Int)) = false by simp; omega, cond_f]
        refine .inr ⟨_, rfl, .inl ⟨rfl, ?_⟩⟩
        apply List.ext_getElem?
        intro j
        by_cases hj : j < a.Items.length
        · rw [hI j hj (by omega)]; simp [hj]
        · rw [List.getElem?_eq_none (by omega), List.getElem?_eq_none (by omega)]) (s := (0 : Int)) ⟨0, rfl, by omega, fun j _ hj => by omega⟩ (by omega)
    rw [he, bind_s]
    rcases hQ with ⟨rfl, hQ⟩ | ⟨rfl, hQ⟩
    · rw [elS_inl, decide_eq_true (show a = b from Kept_inj (Prod.ext h.1 hQ))]
    · rw [elS_inr, decide_eq_false (fun x : a = b => hQ (by rw [x]))]
  · rw [show ((decide (a.Most ≠ b.Most)) || (decide ((a.Items.length : Int) ≠ (b.Items.length : Int)))) = true by
      simp only [Bool.or_eq_true, decide_eq_true_eq]
      by_cases h1 : a.Most = b.Most
      · right; intro h2; exact h ⟨h1, by omega⟩
      · exact .inl h1, cond_t, decide_eq_false (fun x : a = b => h (by rw [x]; exact ⟨rfl, rfl⟩))]
theorem new_eq (m : Int) : cache_New m = some (if 1 ≤ m ∧ m ≤ 64 then (⟨m, []⟩, 0) else (⟨0, []⟩, 1)) := by
  unfold cache_New
  by_cases h : 1 ≤ m ∧ m ≤ 64
  · rw [show (decide (m < 1) || decide (m > 64)) = false by simp; omega, cond_f, bind_s, if_pos h]
  · rw [show (decide (m < 1) || decide (m > 64)) = true by simp; omega, cond_t, bind_s, if_neg h]
theorem cache_awake_eq : bywaylaw13_awake = some true := by decide +kernel
end Go.Proofs.Ytjnlpphnaldjeaa.Tr
