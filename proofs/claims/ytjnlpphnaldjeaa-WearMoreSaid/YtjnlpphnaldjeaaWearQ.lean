/- The laws of wear, in plain Lean: room, spread, and the laws. Conditions: none. -/
import Derived.Test.YtjnlpphnaldjeaaWearP
namespace Go.Proofs.Ytjnlpphnaldjeaa.Tr
open Go
set_option linter.unusedVariables false
set_option linter.unusedSimpArgs false

/-! ### room -/
def sumTo (g : Nat → Int) : Nat → Int
  | 0 => 0
  | n + 1 => sumTo g n + g n
theorem sumTo_le {g : Nat → Int} {c : Int} : ∀ {n : Nat}, (∀ k, k < n → 0 ≤ g k ∧ g k ≤ c) → 0 ≤ sumTo g n ∧ sumTo g n ≤ c * n
  | 0, _ => by simp [sumTo]
  | n + 1, h => by
    have := sumTo_le (n := n) fun k hk => h k (by omega)
    have h2 := h n (by omega)
    simp only [sumTo]
    rw [show ((n + 1 : Nat) : Int) = (n : Int) + 1 from rfl, Int.mul_add]
    omega
def wroom (p : Int) (w : Wear) : Int := bif w.Bad then 0 else bif decide (w.Live = 0) then p else p - w.Used
def roomG (l : List Wear) (p : Int) (k : Nat) : Int := if h : k < l.length then wroom p l[k] else 0
def RoomV (l : List Wear) (p : Int) : Int := if WRight l p then sumTo (roomG l p) l.length else 0
theorem roomG_le {l : List Wear} {p : Int} (h : WRight l p) (k : Nat) : 0 ≤ roomG l p k ∧ roomG l p k ≤ p := by
  unfold roomG
  split
  · have := h.2 _ (List.getElem_mem (by assumption : k < l.length))
    have hp := h.1
    unfold WOk at this
    unfold wroom
    cases l[k].Bad
    · by_cases h : l[k].Live = 0 <;> simp [h] <;> omega
    · simp; omega
  · have := h.1; omega
theorem wear_Room_eq (l : List Wear) (p : Int) : wear_Room l p = some (RoomV l p) := by
  unfold wear_Room RoomV
  rw [wear_Right_eq, bind_s]
  by_cases hw : WRight l p
  · rw [show (!decide (WRight l p)) = false by simp [hw], cond_f, if_pos hw]
    have hn := hw.1
    obtain ⟨e, he, hQ⟩ := loopO_inv (f := fun s => wear_Room_l1 l p s.1 s.2) (I := fun s => ∃ i : Nat, s.2 = i ∧ i ≤ l.length ∧ s.1 = sumTo (roomG l p) i) (μ := fun s => (l.length - s.2).toNat)
      (R := fun e => e = sumTo (roomG l p) l.length) (by
        rintro ⟨r, x⟩ ⟨i, hi, hil, hI⟩
        obtain rfl : x = i := hi
        obtain rfl : r = _ := hI
        unfold wear_Room_l1
        have hs := sumTo_le (n := i) fun k _ => roomG_le hw k
        have hp := Int.mul_le_mul_of_nonneg_right hn.2.2.2 (show (0 : Int) ≤ (i : Int) by omega)
        by_cases hx : i < l.length
        · have hd : decide ((i : Int) < (l.length : Int)) = true := by simpa using hx
          have ok := hw.2 _ (List.getElem_mem hx)
          unfold WOk at ok
          have hg : roomG l p i = wroom p l[i] := by unfold roomG; rw [dif_pos hx]
          rw [hd, cond_t, idx_nat hx, bind_s, bind_s]
          left
          refine ⟨(sumTo (roomG l p) (i + 1), ((i + 1 : Nat) : Int)), ?_, ⟨i + 1, rfl, by omega, rfl⟩, by simp only; omega⟩
          have hx1 := addI_nat (show i < 9223372036854775807 by omega)
          simp only [sumTo, hg]
          unfold wear_block_dead wear_block_free wroom
          simp only [bind_s]
          cases hb : l[i].Bad with
          | true => simp only [Bool.not_true, Bool.false_and, cond_f, bind_s, hx1, cond_t]; simp
          | false =>
            by_cases h0 : l[i].Live = 0
            · by_cases hu : l[i].Used > 0
              · simp only [h0, hu, decide_true, Bool.not_false, Bool.true_and, cond_t, cond_f]
                rw [addI_ok (by omega) (by omega), bind_s, bind_s, hx1, bind_s]
              · have hu0 : l[i].Used = 0 := by omega
                have hp1 : (0 : Int) < p := by omega
                simp only [h0, hu0, hp1, decide_true, decide_false, Bool.not_false, Bool.true_and, Bool.and_false, cond_t, cond_f, show ¬ ((0 : Int) > 0) by omega]
                rw [subI_ok (by omega) (by omega), bind_s, addI_ok (by omega) (by omega), bind_s, bind_s, hx1, bind_s, Int.sub_zero]
            · by_cases hu : l[i].Used < p
              · simp only [h0, hu, decide_true, decide_false, Bool.not_false, Bool.true_and, Bool.and_false, Bool.false_and, cond_t, cond_f]
                rw [subI_ok (by omega) (by omega), bind_s, addI_ok (by omega) (by omega), bind_s, bind_s, hx1, bind_s]
              · simp only [h0, hu, decide_true, decide_false, Bool.not_false, Bool.true_and, Bool.and_false, Bool.false_and, cond_t, cond_f]
                rw [bind_s, hx1, bind_s, show p - l[i].Used = 0 by omega, Int.add_zero]
        · have hd : decide ((i : Int) < (l.length : Int)) = false := by simp; omega
          rw [hd, cond_f]
          right
          refine ⟨_, rfl, ?_⟩
          rw [show i = l.length by omega]) (s := ((0 : Int), (0 : Int))) ⟨0, rfl, by omega, rfl⟩ (by simp only; omega)
    rw [he, bind_s, hQ]
  · rw [show (!decide (WRight l p)) = true by simp [hw], cond_t, if_neg hw]
theorem ref_Room_eq (l : List Wear) (p : Int) : bywayref09_Room l p = some (RoomV l p) := by
  unfold bywayref09_Room RoomV
  rw [ref_Right_eq, bind_s]
  by_cases hw : WRight l p
  · rw [show (!decide (WRight l p)) = false by simp [hw], cond_f, if_pos hw]
    have hn := hw.1
    obtain ⟨e, he, hQ⟩ := loopO_inv (f := fun s => bywayref09_Room_l1 l p s.1 s.2) (I := fun s => ∃ i : Nat, s.2 = i ∧ i ≤ l.length ∧ s.1 = sumTo (roomG l p) i) (μ := fun s => (l.length - s.2).toNat)
      (R := fun e => e = sumTo (roomG l p) l.length) (by
        rintro ⟨r, x⟩ ⟨i, hi, hil, hI⟩
        obtain rfl : x = i := hi
        obtain rfl : r = _ := hI
        unfold bywayref09_Room_l1
        have hs := sumTo_le (n := i) fun k _ => roomG_le hw k
        have hp := Int.mul_le_mul_of_nonneg_right hn.2.2.2 (show (0 : Int) ≤ (i : Int) by omega)
        by_cases hx : i < l.length
        · have hd : decide ((i : Int) < (l.length : Int)) = true := by simpa using hx
          have ok := hw.2 _ (List.getElem_mem hx)
          unfold WOk at ok
          have hg : roomG l p i = wroom p l[i] := by unfold roomG; rw [dif_pos hx]
          rw [hd, cond_t, idx_nat hx, bind_s]
          left
          refine ⟨(sumTo (roomG l p) (i + 1), ((i + 1 : Nat) : Int)), ?_, ⟨i + 1, rfl, by omega, rfl⟩, by simp only; omega⟩
          have hx1 := addI_nat (show i < 9223372036854775807 by omega)
          simp only [sumTo, hg]
          unfold wroom
          cases hb : l[i].Bad with
          | true => simp only [Bool.not_true, gb_false, Bool.false_and, cond_f, bind_s, hb, hx1, cond_t]; simp
          | false =>
            by_cases h0 : l[i].Live = 0
            · simp only [Bool.not_false, gb_true, bind_s, h0, decide_true, Bool.true_and, cond_t, cond_f, hb]
              rw [addI_ok (by omega) (by omega), bind_s, bind_s]
              simp only [Bool.not_false, gb_true, bind_s, h0, decide_true, decide_false, Bool.true_and, cond_t, cond_f, hb, Bool.and_false, ne_eq, not_true_eq_false]
              rw [hx1, bind_s]
            · simp only [Bool.not_false, gb_true, bind_s, h0, decide_true, decide_false, Bool.true_and, cond_t, cond_f, hb, Bool.and_false, ne_eq, not_true_eq_false, not_false_eq_true]
              rw [subI_ok (by omega) (by omega), bind_s, addI_ok (by omega) (by omega), bind_s, bind_s, hx1, bind_s]
        · have hd : decide ((i : Int) < (l.length : Int)) = false := by simp; omega
          rw [hd, cond_f]
          right
          refine ⟨_, rfl, ?_⟩
          rw [show i = l.length by omega]) (s := ((0 : Int), (0 : Int))) ⟨0, rfl, by omega, rfl⟩ (by simp only; omega)
    rw [he, bind_s, hQ]
  · rw [show (!decide (WRight l p)) = true by simp [hw], cond_t, if_neg hw]

/-! ### spread -/
def SpreadOf (l : List Wear) (m : Int) : Prop :=
  (WRight l 16 ∧ 0 ≤ m ∧ (∀ i k, (hi : i < l.length) → (hk : k < l.length) → l[i].Bad = false → l[k].Bad = false → l[i].Worn - l[k].Worn ≤ m) ∧
    (m = 0 ∨ ∃ i k, ∃ hi : i < l.length, ∃ hk : k < l.length, l[i].Bad = false ∧ l[k].Bad = false ∧ m = l[i].Worn - l[k].Worn)) ∨ (¬ WRight l 16 ∧ m = 0)
theorem SpreadOf.uniq {l : List Wear} {m n : Int} (h : SpreadOf l m) (g : SpreadOf l n) : m = n := by
  rcases h with ⟨w, h0, h1, h2⟩ | ⟨w, rfl⟩ <;> rcases g with ⟨w', g0, g1, g2⟩ | ⟨w', rfl⟩
  · have a : m ≤ n := by
      rcases h2 with rfl | ⟨i, k, hi, hk, b1, b2, rfl⟩
      · exact g0
      · exact g1 i k hi hk b1 b2
    have b : n ≤ m := by
      rcases g2 with rfl | ⟨i, k, hi, hk, b1, b2, rfl⟩
      · exact h0
      · exact h1 i k hi hk b1 b2
    omega
  · exact absurd w w'
  · exact absurd w' w
  · rfl
theorem wear_Spread_eq (l : List Wear) : ∃ m, wear_Spread l = some m ∧ SpreadOf l m := by
  unfold wear_Spread
  rw [wear_Right_eq, bind_s]
  by_cases hw : WRight l 16
  · rw [show (!decide (WRight l 16)) = false by simp [hw], cond_f]
    have hn := hw.1
    have hok := fun i (hi : i < l.length) => hw.2 _ (List.getElem_mem hi)
    obtain ⟨e, he, hQ⟩ := loopO_inv (f := fun s => wear_Spread_l1 l s.1 s.2.1 s.2.2.1 s.2.2.2)
      (I := fun s => ∃ i : Nat, s.2.2.2 = i ∧ i ≤ l.length ∧ ((s.2.2.1 = false ∧ s.1 = 0 ∧ s.2.1 = 0 ∧ ∀ k, (hk : k < l.length) → k < i → l[k].Bad = true) ∨
        (s.2.2.1 = true ∧ (∃ a, ∃ ha : a < l.length, l[a].Bad = false ∧ s.1 = l[a].Worn) ∧ (∃ a, ∃ ha : a < l.length, l[a].Bad = false ∧ s.2.1 = l[a].Worn) ∧ ∀ k, (hk : k < l.length) → k < i → l[k].Bad = false → s.1 ≤ l[k].Worn ∧ l[k].Worn ≤ s.2.1)))
      (μ := fun s => (l.length - s.2.2.2).toNat)
      (R := fun e => (e = ((0 : Int), (0 : Int)) ∧ ∀ k, (hk : k < l.length) → l[k].Bad = true) ∨
        ((∃ a, ∃ ha : a < l.length, l[a].Bad = false ∧ e.1 = l[a].Worn) ∧ (∃ a, ∃ ha : a < l.length, l[a].Bad = false ∧ e.2 = l[a].Worn) ∧ ∀ k, (hk : k < l.length) → l[k].Bad = false → e.1 ≤ l[k].Worn ∧ l[k].Worn ≤ e.2)) (by
        rintro ⟨le, mo, fo, x⟩ ⟨i, hi, hil, hI⟩
        obtain rfl : x = i := hi
        simp only at hI
        unfold wear_Spread_l1
        by_cases hx : i < l.length
        · have hd : decide ((i : Int) < (l.length : Int)) = true := by simpa using hx
          have hx1 := addI_nat (show i < 9223372036854775807 by omega)
          rw [hd, cond_t, idx_nat hx, bind_s]
          left
          cases hb : l[i].Bad with
          | true =>
            rw [cond_t, bind_s, el3_at, hx1, bind_s]
            refine ⟨_, rfl, ⟨i + 1, rfl, by omega, ?_⟩, by simp only; omega⟩
            rcases hI with ⟨rfl, rfl, rfl, hI⟩ | ⟨rfl, h1, h2, hI⟩
            · refine .inl ⟨rfl, rfl, rfl, fun k hk hki => ?_⟩
              by_cases e : k = i
              · subst e; exact hb
              · exact hI k hk (by omega)
            · refine .inr ⟨rfl, h1, h2, fun k hk hki hkb => ?_⟩
              by_cases e : k = i
              · subst e; rw [hb] at hkb; cases hkb
              · exact hI k hk (by omega) hkb
          | false =>
            rw [cond_f]
            rcases hI with ⟨rfl, rfl, rfl, hI⟩ | ⟨rfl, ⟨a, ha, hab, rfl⟩, ⟨b, hb', hbb, rfl⟩, hI⟩
            · rw [Bool.not_false, cond_t, bind_s, el3_at, bind_s, el3_at, hx1, bind_s]
              refine ⟨_, rfl, ⟨i + 1, rfl, by omega, .inr ⟨rfl, ⟨i, hx, hb, by simp⟩, ⟨i, hx, hb, by simp⟩, fun k hk hki hkb => ?_⟩⟩, by simp only; omega⟩
              by_cases e : k = i
              · subst e; simp
              · rw [hI k hk (by omega)] at hkb; cases hkb
            · rw [Bool.not_true, cond_f, bind_s, el3_at, bind_s, el3_at, hx1, bind_s]
              refine ⟨_, rfl, ⟨i + 1, rfl, by omega, .inr ⟨rfl, ?_, ?_, fun k hk hki hkb => ?_⟩⟩, by simp only; omega⟩
              · by_cases h : l[a].Worn ≤ l[i].Worn
                · exact ⟨a, ha, hab, by simp only; omega⟩
                · exact ⟨i, hx, hb, by simp only; omega⟩
              · by_cases h : l[i].Worn ≤ l[b].Worn
                · exact ⟨b, hb', hbb, by simp only; omega⟩
                · exact ⟨i, hx, hb, by simp only; omega⟩
              · by_cases e : k = i
                · subst e; simp only; omega
                · have := hI k hk (by omega) hkb; simp only; omega
        · have hd : decide ((i : Int) < (l.length : Int)) = false := by simp; omega
          rw [hd, cond_f]
          right
          refine ⟨_, rfl, ?_⟩
          rcases hI with ⟨rfl, rfl, rfl, hI⟩ | ⟨rfl, h1, h2, hI⟩
          · exact .inl ⟨rfl, fun k hk => hI k hk (by omega)⟩
          · exact .inr ⟨h1, h2, fun k hk hkb => hI k hk (by omega) hkb⟩) (s := ((0 : Int), (0 : Int), false, (0 : Int))) ⟨0, rfl, by omega, .inl ⟨rfl, rfl, rfl, fun k _ hk => by omega⟩⟩ (by simp only; omega)
    rw [he, bind_s, el2_eq]
    rcases hQ with ⟨rfl, hQ⟩ | ⟨⟨a, ha, hab, e1⟩, ⟨b, hb, hbb, e2⟩, hQ⟩
    · refine ⟨0, by rw [subI_ok (by simp) (by simp)]; rfl, .inl ⟨hw, by omega, fun i k hi hk hib => ?_, .inl rfl⟩⟩
      rw [hQ i hi] at hib; cases hib
    · have oa := hok a ha; have ob := hok b hb
      unfold WOk at oa ob
      rw [e1, e2] at hQ
      have hab' := hQ a ha hab
      rw [e1, e2, subI_ok (by omega) (by omega), bind_s]
      refine ⟨_, rfl, .inl ⟨hw, by omega, fun i k hi hk hib hkb => ?_, .inr ⟨b, a, hb, ha, hbb, hab, rfl⟩⟩⟩
      have h1 := hQ i hi hib; have h2 := hQ k hk hkb
      omega
  · rw [show (!decide (WRight l 16)) = true by simp [hw], cond_t]
    exact ⟨_, rfl, .inr ⟨hw, rfl⟩⟩

theorem ref_Spread2 (l : List Wear) (hw : WRight l 16) (i : Nat) (hi : i < l.length) (m0 : Int) :
    ∃ m, loopO (fun s => bywayref09_Spread_l2 l (i : Int) s.1 s.2) (m0, (0 : Int)) = some m ∧ m0 ≤ m ∧ (l[i].Bad = false → ∀ k, (hk : k < l.length) → l[k].Bad = false → l[i].Worn - l[k].Worn ≤ m) ∧
      (m = m0 ∨ ∃ k, ∃ hk : k < l.length, l[i].Bad = false ∧ l[k].Bad = false ∧ m = l[i].Worn - l[k].Worn) := by
  have hn := hw.1
  have hok := fun i (hi : i < l.length) => hw.2 _ (List.getElem_mem hi)
  refine loopO_inv (f := fun s => bywayref09_Spread_l2 l (i : Int) s.1 s.2)
    (I := fun s => ∃ n : Nat, s.2 = n ∧ n ≤ l.length ∧ m0 ≤ s.1 ∧ (l[i].Bad = false → ∀ k, (hk : k < l.length) → k < n → l[k].Bad = false → l[i].Worn - l[k].Worn ≤ s.1) ∧
      (s.1 = m0 ∨ ∃ k, ∃ hk : k < l.length, l[i].Bad = false ∧ l[k].Bad = false ∧ s.1 = l[i].Worn - l[k].Worn))
    (μ := fun s => (l.length - s.2).toNat) (R := fun m => m0 ≤ m ∧ (l[i].Bad = false → ∀ k, (hk : k < l.length) → l[k].Bad = false → l[i].Worn - l[k].Worn ≤ m) ∧
      (m = m0 ∨ ∃ k, ∃ hk : k < l.length, l[i].Bad = false ∧ l[k].Bad = false ∧ m = l[i].Worn - l[k].Worn)) ?_ ⟨0, rfl, by omega, by simp only; omega, fun _ k _ hk => by omega, .inl rfl⟩ (by simp only; omega)
  rintro ⟨m, x⟩ ⟨n, hx, hnl, h0, hI, hE⟩
  obtain rfl : x = n := hx
  simp only at h0 hI hE
  unfold bywayref09_Spread_l2
  by_cases hx : n < l.length
  · have hd : decide ((n : Int) < (l.length : Int)) = true := by simpa using hx
    have hx1 := addI_nat (show n < 9223372036854775807 by omega)
    have oi := hok i hi; have on := hok n hx
    unfold WOk at oi on
    have hsub : subI l[i].Worn l[n].Worn = some (l[i].Worn - l[n].Worn) := subI_ok (by omega) (by omega)
    rw [hd, cond_t]
    simp only [idx_nat hi, idx_nat hx, bind_s]
    left
    cases hb : l[i].Bad with
    | true =>
      simp only [Bool.not_true, gb_false, bind_s, Bool.false_and, cond_f, hx1]
      exact ⟨_, rfl, ⟨n + 1, rfl, by omega, h0, (fun h => by simp at h), by simpa [hb] using hE⟩, by simp only; omega⟩
    | false =>
      cases hb' : l[n].Bad with
      | true =>
        simp only [Bool.not_false, gb_true, bind_s, hb', Bool.not_true, Bool.and_false, gb_false, Bool.false_and, cond_f, hx1]
        refine ⟨_, rfl, ⟨n + 1, rfl, by omega, h0, fun _ k hk hkn hkb => ?_, by simpa [hb] using hE⟩, by simp only; omega⟩
        by_cases e : k = n
        · subst e; rw [hb'] at hkb; cases hkb
        · exact hI hb k hk (by omega) hkb
      | false =>
        by_cases hm : l[i].Worn - l[n].Worn > m
        · simp only [Bool.not_false, gb_true, bind_s, hb', Bool.and_true, Bool.true_and, hsub, hm, decide_true, cond_t, hx1]
          refine ⟨_, rfl, ⟨n + 1, rfl, by omega, by simp only; omega, fun _ k hk hkn hkb => ?_, .inr ⟨n, hx, trivial, hb', rfl⟩⟩, by simp only; omega⟩
          by_cases e : k = n
          · subst e; simp
          · have := hI hb k hk (by omega) hkb; simp only; omega
        · simp only [Bool.not_false, gb_true, bind_s, hb', Bool.and_true, Bool.true_and, hsub, hm, decide_false, cond_f, hx1]
          refine ⟨_, rfl, ⟨n + 1, rfl, by omega, h0, fun _ k hk hkn hkb => ?_, by simpa [hb] using hE⟩, by simp only; omega⟩
          by_cases e : k = n
          · subst e; simp only; omega
          · exact hI hb k hk (by omega) hkb
  · have hd : decide ((n : Int) < (l.length : Int)) = false := by simp; omega
    rw [hd, cond_f]
    exact .inr ⟨_, rfl, h0, fun h k hk hkb => hI h k hk (by omega) hkb, hE⟩
theorem ref_Spread_eq (l : List Wear) : ∃ m, bywayref09_Spread l = some m ∧ SpreadOf l m := by
  unfold bywayref09_Spread
  rw [ref_Right_eq, bind_s]
  by_cases hw : WRight l 16
  · rw [show (!decide (WRight l 16)) = false by simp [hw], cond_f]
    have hn := hw.1
    obtain ⟨e, he, hQ⟩ := loopO_inv (f := fun s => bywayref09_Spread_l1 l s.1 s.2)
      (I := fun s => ∃ n : Nat, s.2 = n ∧ n ≤ l.length ∧ 0 ≤ s.1 ∧ (∀ i k, (hi : i < l.length) → (hk : k < l.length) → i < n → l[i].Bad = false → l[k].Bad = false → l[i].Worn - l[k].Worn ≤ s.1) ∧
        (s.1 = 0 ∨ ∃ i k, ∃ hi : i < l.length, ∃ hk : k < l.length, l[i].Bad = false ∧ l[k].Bad = false ∧ s.1 = l[i].Worn - l[k].Worn))
      (μ := fun s => (l.length - s.2).toNat) (R := fun m => SpreadOf l m) (by
        rintro ⟨m, x⟩ ⟨n, hx, hnl, h0, hI, hE⟩
        obtain rfl : x = n := hx
        simp only at h0 hI hE
        unfold bywayref09_Spread_l1
        by_cases hx : n < l.length
        · have hd : decide ((n : Int) < (l.length : Int)) = true := by simpa using hx
          obtain ⟨m', e1, e2, e3, e4⟩ := ref_Spread2 l hw n hx m
          rw [hd, cond_t, e1, bind_s, addI_nat (by omega), bind_s]
          left
          refine ⟨_, rfl, ⟨n + 1, rfl, by omega, by simp only; omega, fun i k hi hk hin hib hkb => ?_, ?_⟩, by simp only; omega⟩
          · by_cases e : i = n
            · subst e; exact e3 hib k hk hkb
            · have := hI i k hi hk (by omega) hib hkb; simp only; omega
          · rcases e4 with rfl | ⟨k, hk, b1, b2, rfl⟩
            · exact hE
            · exact .inr ⟨n, k, hx, hk, b1, b2, rfl⟩
        · have hd : decide ((n : Int) < (l.length : Int)) = false := by simp; omega
          rw [hd, cond_f]
          exact .inr ⟨_, rfl, .inl ⟨hw, h0, fun i k hi hk hib hkb => hI i k hi hk (by omega) hib hkb, hE⟩⟩) (s := ((0 : Int), (0 : Int))) ⟨0, rfl, by omega, by simp only; omega, fun i k _ _ hk => by omega, .inl rfl⟩ (by simp only; omega)
    rw [he, bind_s]
    exact ⟨_, rfl, hQ⟩
  · rw [show (!decide (WRight l 16)) = true by simp [hw], cond_t]
    exact ⟨_, rfl, .inr ⟨hw, rfl⟩⟩

theorem wear_awake_eq : bywaylaw09_awake = some true := by decide +kernel

theorem wearRight_plain {l : List Wear} {p : Int} (w0 : Dat.wf l) (w1 : Dat.wf p) : bywaylaw09_WearRight l p = some true := by
  unfold bywaylaw09_WearRight
  rw [wear_awake_eq, bind_s, Bool.not_true, cond_f]
  cases decide ((l.length : Int) > (40 : Int)) with
  | true => rw [cond_t]
  | false =>
    obtain ⟨a, a1, a2⟩ := wear_Front_eq l p
    obtain ⟨b, b1, b2⟩ := wear_Dead_eq l p
    obtain ⟨c, c1, c2⟩ := wear_Victim_eq l p
    obtain ⟨m, m1, m2⟩ := wear_Spread_eq l
    obtain ⟨n, n1, n2⟩ := ref_Spread_eq l
    obtain rfl := SpreadOf.uniq m2 n2
    have f1 := ref_First_eq l p 1 ltUsed ref_ahead1 (rFree p) (fun hw w hw' => by
      have := hw.2 w hw'
      unfold WOk at this
      simp only [rFree, rRef, decide_true, cond_t]
      rw [show decide (w.Used < p) = decide (w.Used ≠ p) from decide_eq_decide.2 (by omega)]) a2
    have f2 := ref_First_eq l p 2 ltWorn ref_ahead2 rDead (fun hw w hw' => by
      have := hw.2 w hw'
      unfold WOk at this
      simp only [rDead, rRef, show ¬ ((2 : Int) = 1) by omega, decide_true, decide_false, cond_t, cond_f]
      rw [show decide (w.Used > 0) = decide (w.Used ≠ 0) from decide_eq_decide.2 (by omega)]) b2
    have f3 := ref_First_eq l p 3 ltBad ref_ahead3 (rMix p) (fun hw w hw' => by
      have := hw.2 w hw'
      unfold WOk at this
      simp only [rMix, rRef, show ¬ ((3 : Int) = 1) by omega, show ¬ ((3 : Int) = 2) by omega, decide_true, decide_false, cond_t, cond_f]
      cases hb : w.Bad with
      | true => simp
      | false =>
        by_cases h1 : w.Used = p
        · rw [show decide (w.Live < p) = decide (w.Live ≠ p) from decide_eq_decide.2 (by omega)]; simp
        · simp [h1]) c2
    simp only [cond_f, a1, b1, c1, f1, f2, f3, m1, n1, bind_s, wear_Right_eq, ref_Right_eq, wear_Room_eq, ref_Room_eq, decide_true, Bool.and_true, gb_true]
end Go.Proofs.Ytjnlpphnaldjeaa.Tr
