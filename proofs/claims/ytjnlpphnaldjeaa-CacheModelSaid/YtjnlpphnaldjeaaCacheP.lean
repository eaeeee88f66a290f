/- The laws of the cache, in plain Lean: what its functions answer, and the first law. Conditions: none. -/
import Derived.Test.YtjnlpphnaldjeaaPl
import Derived.Test.YtjnlpphnaldjeaaCacheW
namespace Go.Proofs.Ytjnlpphnaldjeaa.Tr
open Go
set_option linter.unusedVariables false
set_option linter.unusedSimpArgs false

/-- small enough to be laid anew -/
def KW (l : List Item) : Prop := l.length ≤ 100 ∧ ∀ x ∈ l, x.Body.length ≤ 140737488351232
theorem clone_b {b : List UInt8} (h : b.length ≤ 140737488351232) : bytes_Clone b = some b := by
  unfold bytes_Clone
  rw [room_ok (by omega) (by simp; omega) (by simp; omega), bind_s]
theorem copied_eq {k : Kept} (h : KW k.Items) : cache_copied k = some k := by
  obtain ⟨h1, h2⟩ := h
  unfold cache_copied slices_Clone_api_Item
  rw [room_ok (by omega) (by simp; omega) (by simp; omega), bind_s, bind_s]
  obtain ⟨e, he, hQ⟩ := loopO_inv (f := fun s => cache_copied_l1 k.Items s.1 s.2) (I := fun s => ∃ i : Nat, s.1 = i ∧ i ≤ k.Items.length ∧ s.2 = k.Items) (μ := fun s => (k.Items.length - s.1).toNat) (R := fun e => e = k.Items) (by
    rintro ⟨x, v⟩ ⟨i, hx, hil, hv⟩
    obtain rfl : x = i := hx
    obtain rfl : v = k.Items := hv
    unfold cache_copied_l1
    by_cases hx : i < k.Items.length
    · have hd : decide ((i : Int) < (k.Items.length : Int)) = true := by simpa using hx
      rw [hd, cond_t, idx_nat hx, bind_s, clone_b (h2 _ (List.getElem_mem hx)), bind_s, bind_s, bind_s, addI_nat (show i < 9223372036854775807 by omega), bind_s, Int.toNat_natCast]
      left
      refine ⟨_, rfl, ⟨i + 1, rfl, by omega, ?_⟩, by simp only; omega⟩
      exact List.set_getElem_self hx
    · have hd : decide ((i : Int) < (k.Items.length : Int)) = false := by simp; omega
      rw [hd, cond_f]
      exact .inr ⟨_, rfl, rfl⟩) (s := ((0 : Int), k.Items)) ⟨0, rfl, by omega, rfl⟩ (by simp only; omega)
  rw [he, bind_s, bind_s, hQ]

/-! ### places -/
def Plc (l : List Item) (id : Int) (r : Int) : Prop := (∃ i : Nat, r = i ∧ ∃ h : i < l.length, l[i].Id = id ∧ ∀ j, (hj : j < l.length) → j < i → l[j].Id ≠ id) ∨ (r = -1 ∧ ∀ j, (hj : j < l.length) → l[j].Id ≠ id)
theorem place_eq (l : List Item) (id : Int) (hl : l.length ≤ 100) : ∃ r, cache_place l id = some r ∧ Plc l id r := by
  unfold cache_place slices_IndexFunc_api_Item
  obtain ⟨e, he, hQ⟩ := loopO_inv (f := fun s => slices_IndexFunc_api_Item_l1 l ⟨fun x0 => cache_place_1 x0 id⟩ s) (I := fun s => ∃ i : Nat, s = i ∧ i ≤ l.length ∧ ∀ j, (hj : j < l.length) → j < i → l[j].Id ≠ id) (μ := fun s => (l.length - s).toNat)
    (R := fun e => (e = .inl () ∧ ∀ j, (hj : j < l.length) → l[j].Id ≠ id) ∨ ∃ i : Nat, e = .inr (i : Int) ∧ ∃ h : i < l.length, l[i].Id = id ∧ ∀ j, (hj : j < l.length) → j < i → l[j].Id ≠ id) (by
    rintro x ⟨i, rfl, hil, hI⟩
    unfold slices_IndexFunc_api_Item_l1
    by_cases hx : i < l.length
    · have hd : decide ((i : Int) < (l.length : Int)) = true := by simpa using hx
      rw [hd, cond_t, idx_nat hx, bind_s]
      show (∃ s', ((cache_place_1 l[i] id).bind _) = _ ∧ _) ∨ ∃ e, ((cache_place_1 l[i] id).bind _) = _ ∧ _
      unfold cache_place_1
      simp only [bind_s, addI_nat (show i < 9223372036854775807 by omega)]
      by_cases h : l[i].Id = id
      · right
        refine ⟨_, by rw [show decide (l[i].Id = id) = true by simpa using h, cond_t], .inr ⟨i, rfl, hx, h, hI⟩⟩
      · left
        refine ⟨_, by rw [show decide (l[i].Id = id) = false by simpa using h, cond_f], ⟨i + 1, rfl, by omega, fun j hj hji => ?_⟩, by omega⟩
        by_cases e : j = i
        · subst e; exact h
        · exact hI j hj (by omega)
    · have hd : decide ((i : Int) < (l.length : Int)) = false := by simp; omega
      rw [hd, cond_f]
      exact .inr ⟨_, rfl, .inl ⟨rfl, fun j hj => hI j hj (by omega)⟩⟩) (s := (0 : Int)) ⟨0, rfl, by omega, fun j _ hj => by omega⟩ (by omega)
  rw [he, bind_s]
  rcases hQ with ⟨rfl, hQ⟩ | ⟨i, rfl, hQ⟩
  · rw [elS_inl, bind_s]; exact ⟨_, rfl, .inr ⟨rfl, hQ⟩⟩
  · rw [elS_inr, bind_s]; exact ⟨_, rfl, .inl ⟨i, rfl, hQ⟩⟩

/-! ### what is right -/
def KOk (l : List Item) : Prop := ∀ i, (hi : i < l.length) → 0 ≤ l[i].Id ∧ ∀ j, (hj : j < l.length) → j < i → l[j].Id ≠ l[i].Id
def KR (k : Kept) : Prop := (1 ≤ k.Most ∧ k.Most ≤ 64 ∧ (k.Items.length : Int) ≤ k.Most) ∧ KOk k.Items
noncomputable instance (k : Kept) : Decidable (KR k) := Classical.propDecidable _
theorem right_loop {f : Int → Option (Int ⊕ (Unit ⊕ Bool))} {l : List Item} (hl : l.length ≤ 100)
    (h : ∀ i : Nat, (hi : i < l.length) → (∀ j, (hj : j < l.length) → j < i → 0 ≤ l[j].Id ∧ ∀ q, (hq : q < l.length) → q < j → l[q].Id ≠ l[j].Id) →
      ((0 ≤ l[i].Id ∧ ∀ j, (hj : j < l.length) → j < i → l[j].Id ≠ l[i].Id) ∧ f i = some (.inl ((i + 1 : Nat) : Int))) ∨ (¬ (0 ≤ l[i].Id ∧ ∀ j, (hj : j < l.length) → j < i → l[j].Id ≠ l[i].Id) ∧ f i = some (.inr (.inr false))))
    (hend : f (l.length : Int) = some (.inr (.inl ()))) : ∃ e, loopO f (0 : Int) = some e ∧ ((e = .inl () ∧ KOk l) ∨ (e = .inr false ∧ ¬ KOk l)) := by
  refine loopO_inv (f := f) (I := fun s => ∃ i : Nat, s = i ∧ i ≤ l.length ∧ ∀ j, (hj : j < l.length) → j < i → 0 ≤ l[j].Id ∧ ∀ q, (hq : q < l.length) → q < j → l[q].Id ≠ l[j].Id) (μ := fun s => (l.length - s).toNat)
    (R := fun e => (e = .inl () ∧ KOk l) ∨ (e = .inr false ∧ ¬ KOk l)) ?_ ⟨0, rfl, by omega, fun j _ hj => by omega⟩ (by omega)
  rintro x ⟨i, rfl, hil, hI⟩
  by_cases hx : i < l.length
  · rcases h i hx hI with ⟨h1, h2⟩ | ⟨h1, h2⟩
    · left
      refine ⟨_, h2, ⟨i + 1, rfl, by omega, fun j hj hji => ?_⟩, by omega⟩
      by_cases e : j = i
      · subst e; exact h1
      · exact hI j hj (by omega)
    · exact .inr ⟨_, h2, .inr ⟨rfl, fun h => h1 (h i hx)⟩⟩
  · obtain rfl : i = l.length := by omega
    exact .inr ⟨_, hend, .inl ⟨rfl, fun j hj => hI j hj hj⟩⟩
theorem right_eq (k : Kept) : cache_Right k = some (decide (KR k)) := by
  unfold cache_Right
  by_cases h : 1 ≤ k.Most ∧ k.Most ≤ 64 ∧ (k.Items.length : Int) ≤ k.Most
  · rw [show (((decide (k.Most < (1 : Int))) || (decide (k.Most > (64 : Int)))) || (decide ((k.Items.length : Int) > k.Most))) = false by simp; omega, cond_f]
    obtain ⟨e, he, hQ⟩ := right_loop (f := fun s => cache_Right_l1 k s) (l := k.Items) (by omega) (fun i hi hI => by
      unfold cache_Right_l1
      rw [show decide ((i : Int) < (k.Items.length : Int)) = true by simpa using hi, cond_t, idx_nat hi, bind_s, addI_nat (by omega), bind_s]
      obtain ⟨r, h1, h2⟩ := place_eq k.Items k.Items[i].Id (by omega)
      rw [h1]
      by_cases hn : k.Items[i].Id < 0
      · right
        refine ⟨fun x => by omega, ?_⟩
        rw [show decide (k.Items[i].Id < 0) = true by simpa using hn, Bool.not_true, gb_false, bind_s, Bool.true_or, cond_t]
      · rw [show decide (k.Items[i].Id < 0) = false by simpa using hn, Bool.not_false, gb_true, bind_s, Bool.false_or]
        rcases h2 with ⟨q, rfl, hq, hq1, hq2⟩ | ⟨rfl, hq⟩
        · by_cases e : q = i
          · subst e
            left
            refine ⟨⟨by omega, fun j hj hji => hq2 j hj hji⟩, ?_⟩
            rw [show decide ((q : Int) ≠ (q : Int)) = false by simp, cond_f]
          · right
            have hqi : q < i := by
              rcases Nat.lt_or_ge q i with h5 | h5
              · exact h5
              · exact absurd rfl (hq2 i hi (by omega))
            refine ⟨fun x => x.2 q hq hqi hq1, ?_⟩
            rw [show decide ((q : Int) ≠ (i : Int)) = true by simp; omega, cond_t]
        · exact absurd rfl (hq i hi)) (by unfold cache_Right_l1; simp)
    rw [he, bind_s]
    rcases hQ with ⟨rfl, hQ⟩ | ⟨rfl, hQ⟩
    · rw [elS_inl, decide_eq_true (show KR k from ⟨h, hQ⟩)]
    · rw [elS_inr, decide_eq_false (fun x : KR k => hQ x.2)]
  · rw [show (((decide (k.Most < (1 : Int))) || (decide (k.Most > (64 : Int)))) || (decide ((k.Items.length : Int) > k.Most))) = true by simp; omega, cond_t, decide_eq_false (fun x : KR k => h x.1)]
theorem ref13_right_eq (k : Kept) : bywayref13_Right k = some (decide (KR k)) := by
  unfold bywayref13_Right
  by_cases h : 1 ≤ k.Most ∧ k.Most ≤ 64 ∧ (k.Items.length : Int) ≤ k.Most
  · rw [show (((decide (k.Most < (1 : Int))) || (decide (k.Most > (64 : Int)))) || (decide ((k.Items.length : Int) > k.Most))) = false by simp; omega, cond_f]
    obtain ⟨e, he, hQ⟩ := right_loop (f := fun s => bywayref13_Right_l1 k s) (l := k.Items) (by omega) (fun i hi hI => by
      unfold bywayref13_Right_l1
      rw [show decide ((i : Int) < (k.Items.length : Int)) = true by simpa using hi, cond_t, idx_nat hi, bind_s]
      by_cases hn : k.Items[i].Id < 0
      · right
        refine ⟨fun x => by omega, ?_⟩
        rw [show decide (k.Items[i].Id < 0) = true by simpa using hn, cond_t]
      · rw [show decide (k.Items[i].Id < 0) = false by simpa using hn, cond_f]
        obtain ⟨e, he, hQ⟩ := loopO_inv (f := fun s => bywayref13_Right_l2 k (i : Int) s) (I := fun s => ∃ n : Nat, s = n ∧ n ≤ i ∧ ∀ j, (hj : j < k.Items.length) → j < n → k.Items[j].Id ≠ k.Items[i].Id) (μ := fun s => (i - s).toNat)
          (R := fun e => (e = .inl () ∧ ∀ j, (hj : j < k.Items.length) → j < i → k.Items[j].Id ≠ k.Items[i].Id) ∨ (e = .inr false ∧ ¬ ∀ j, (hj : j < k.Items.length) → j < i → k.Items[j].Id ≠ k.Items[i].Id)) (by
            rintro x ⟨n, rfl, hni, hn⟩
            unfold bywayref13_Right_l2
            by_cases hx : n < i
            · have hxl : n < k.Items.length := by omega
              rw [show decide ((n : Int) < (i : Int)) = true by simpa using hx, cond_t, idx_nat hxl, bind_s, idx_nat hi, bind_s, addI_nat (by omega), bind_s]
              by_cases e : k.Items[n].Id = k.Items[i].Id
              · exact .inr ⟨_, by rw [show decide (k.Items[n].Id = k.Items[i].Id) = true by simpa using e, cond_t], .inr ⟨rfl, fun h => h n hxl hx e⟩⟩
              · left
                refine ⟨_, by rw [show decide (k.Items[n].Id = k.Items[i].Id) = false by simpa using e, cond_f], ⟨n + 1, rfl, by omega, fun j hj hjn => ?_⟩, by omega⟩
                by_cases e' : j = n
                · subst e'; exact e
                · exact hn j hj (by omega)
            · rw [show decide ((n : Int) < (i : Int)) = false by simp; omega, cond_f]
              exact .inr ⟨_, rfl, .inl ⟨rfl, fun j hj hji => hn j hj (by omega)⟩⟩) (s := (0 : Int)) ⟨0, rfl, by omega, fun j _ hj => by omega⟩ (by omega)
        rw [he, bind_s]
        rcases hQ with ⟨rfl, hQ⟩ | ⟨rfl, hQ⟩
        · left
          refine ⟨⟨by omega, hQ⟩, ?_⟩
          rw [elS_inl, addI_nat (by omega), bind_s]
        · right
          exact ⟨fun x => hQ x.2, by rw [elS_inr]⟩) (by unfold bywayref13_Right_l1; simp)
    rw [he, bind_s]
    rcases hQ with ⟨rfl, hQ⟩ | ⟨rfl, hQ⟩
    · rw [elS_inl, decide_eq_true (show KR k from ⟨h, hQ⟩)]
    · rw [elS_inr, decide_eq_false (fun x : KR k => hQ x.2)]
  · rw [show (((decide (k.Most < (1 : Int))) || (decide (k.Most > (64 : Int)))) || (decide ((k.Items.length : Int) > k.Most))) = true by simp; omega, cond_t, decide_eq_false (fun x : KR k => h x.1)]
end Go.Proofs.Ytjnlpphnaldjeaa.Tr
