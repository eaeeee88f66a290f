/- The laws of wear, in plain Lean: the second and the third. Conditions: none. -/
import Derived.Test.YtjnlpphnaldjeaaWearQ
namespace Go.Proofs.Ytjnlpphnaldjeaa.Tr
open Go
set_option linter.unusedVariables false
set_option linter.unusedSimpArgs false

theorem sumTo_pos {g : Nat → Int} (h : ∀ k, 0 ≤ g k) : ∀ {n : Nat}, 0 < sumTo g n ↔ ∃ k, k < n ∧ 0 < g k
  | 0 => ⟨fun x => by simp [sumTo] at x, fun ⟨k, hk, _⟩ => by omega⟩
  | n + 1 => by
    have ih := sumTo_pos h (n := n)
    have h0 : 0 ≤ sumTo g n := by
      clear ih
      induction n with
      | zero => simp [sumTo]
      | succ n ih => simp only [sumTo]; have := h n; omega
    have hn := h n
    constructor
    · intro x
      by_cases hg : 0 < g n
      · exact ⟨n, by omega, hg⟩
      · simp only [sumTo] at x
        obtain ⟨k, hk, hk'⟩ := ih.1 (by omega)
        exact ⟨k, by omega, hk'⟩
    · rintro ⟨k, hk, hg⟩
      simp only [sumTo]
      by_cases e : k = n
      · subst e; omega
      · have := ih.2 ⟨k, by omega, hg⟩; omega
theorem sumTo_set {g g' : Nat → Int} {k : Nat} : ∀ {n : Nat}, (∀ j, j < n → j ≠ k → g' j = g j) → k < n → sumTo g' n = sumTo g n - g k + g' k
  | n + 1, h, hk => by
    simp only [sumTo]
    by_cases e : k = n
    · subst e
      have : ∀ {m : Nat}, m ≤ k → sumTo g' m = sumTo g m := by
        intro m
        induction m with
        | zero => intro _; rfl
        | succ m ih => intro hm; simp only [sumTo]; rw [ih (by omega), h m (by omega) (by omega)]
      rw [this (Nat.le_refl _)]; omega
    · rw [sumTo_set (n := n) (fun j hj hjk => h j (by omega) hjk) (by omega), h n (by omega) (fun x => e x.symm)]; omega
theorem roomG_pos {l : List Wear} {p : Int} (hw : WRight l p) (k : Nat) : 0 < roomG l p k ↔ ∃ h : k < l.length, rFree p l[k] = true ∨ rDead l[k] = true := by
  unfold roomG
  by_cases h : k < l.length
  · have ok := hw.2 _ (List.getElem_mem h)
    have hp := hw.1
    unfold WOk at ok
    simp only [h, dif_pos, exists_true_left, wroom, rFree, rDead]
    cases hb : l[k].Bad with
    | true => simp [hb]
    | false =>
      by_cases h0 : l[k].Live = 0
      · simp [h0, hb] <;> omega
      · simp [h0, hb] <;> omega
  · simp [h]
theorem first_idx {l : List Wear} {p : Int} {R : Wear → Bool} {lt : Wear → Wear → Bool} {r : Int × Bool} (h : FirstOf l p R lt r) : (∃ i : Nat, r = ((i : Int), true) ∧ IsFirst l R lt i ∧ i < l.length) ∨ (r = ((0 : Int), false) ∧ (WRight l p → ∀ k, (hk : k < l.length) → R l[k] = false)) := by
  rcases h with ⟨w, i, rfl, hi⟩ | ⟨rfl, h⟩
  · exact .inl ⟨i, rfl, hi, hi.1⟩
  · exact .inr ⟨rfl, h⟩

theorem wearLeast_loop {l : List Wear} {p : Int} (hw : WRight l p) {r s : Int × Bool} (hr : FirstOf l p (rFree p) ltUsed r) (hs : FirstOf l p rDead ltWorn s) :
    loopO (fun i => bywaylaw09_WearLeast_l1 l p r s i) (0 : Int) = some (.inl ()) := by
  have hn := hw.1
  obtain ⟨e, he, hQ⟩ := loopO_inv (f := fun i => bywaylaw09_WearLeast_l1 l p r s i) (I := fun s => ∃ i : Nat, s = i ∧ i ≤ l.length) (μ := fun s => (l.length - s).toNat) (R := fun e => e = .inl ()) (by
    rintro x ⟨i, rfl, hil⟩
    unfold bywaylaw09_WearLeast_l1
    by_cases hx : i < l.length
    · have hd : decide ((i : Int) < (l.length : Int)) = true := by simpa using hx
      have hx1 := addI_nat (show i < 9223372036854775807 by omega)
      left
      refine ⟨((i + 1 : Nat) : Int), ?_, ⟨i + 1, rfl, by omega⟩, by omega⟩
      rw [hd, cond_t]
      have e1 : ∀ F : Option (Int ⊕ (Unit ⊕ Bool)), ((gb s.2 (idx l i)).bind fun x_14 => (gb (s.2 && (!x_14.Bad)) (idx l i)).bind fun x_15 => (gb ((s.2 && (!x_14.Bad)) && (decide (x_15.Live = (0 : Int)))) (idx l i)).bind fun x_16 => (gb (((s.2 && (!x_14.Bad)) && (decide (x_15.Live = (0 : Int)))) && (decide (x_16.Used > (0 : Int)))) (idx l i)).bind fun x_17 => (gb (((s.2 && (!x_14.Bad)) && (decide (x_15.Live = (0 : Int)))) && (decide (x_16.Used > (0 : Int)))) (idx l s.1)).bind fun x_18 => bif ((((s.2 && (!x_14.Bad)) && (decide (x_15.Live = (0 : Int)))) && (decide (x_16.Used > (0 : Int)))) && (decide (x_17.Worn < x_18.Worn))) then (some (.inr (.inr false))) else F) = F := by
        intro F
        rcases first_idx hs with ⟨j, rfl, hj, hjl⟩ | ⟨rfl, hs⟩
        · simp only [gb_true, idx_nat hx, bind_s, Bool.true_and]
          cases hb : l[i].Bad with
          | true => simp [gb_false, bind_s, cond_f]
          | false =>
            by_cases h0 : l[i].Live = 0
            · by_cases hu : l[i].Used > 0
              · obtain ⟨q1, q2, q3⟩ := hj
                have hlt := (q3 i hx (by simp [rDead, hb, h0, hu])).1
                simp only [ltWorn] at hlt
                simp only [Bool.not_false, gb_true, bind_s, h0, hu, decide_true, Bool.true_and, idx_nat hjl, hlt, cond_f]
              · simp [gb_true, gb_false, bind_s, cond_f, h0, hu]
            · simp [gb_true, gb_false, bind_s, cond_f, h0]
        · simp [gb_false, bind_s, cond_f]
      rw [e1]
      rcases first_idx hr with ⟨j, rfl, hj, hjl⟩ | ⟨rfl, hr⟩
      · simp only [gb_true, idx_nat hx, bind_s, Bool.true_and]
        cases hb : l[i].Bad with
        | true => simp only [Bool.not_true, Bool.false_and, gb_false, bind_s, cond_f, hx1]
        | false =>
          by_cases hu : l[i].Used < p
          · obtain ⟨q1, q2, q3⟩ := hj
            have hlt := (q3 i hx (by simp [rFree, hb, hu])).1
            simp only [ltUsed, decide_eq_false_iff_not] at hlt
            have : decide (l[i].Used > l[j].Used) = false := by simp; omega
            simp only [Bool.not_false, gb_true, bind_s, hu, decide_true, Bool.true_and, idx_nat hjl, this, cond_f, hx1]
          · simp only [Bool.not_false, gb_true, bind_s, hu, decide_false, Bool.true_and, Bool.false_and, gb_false, cond_f, hx1]
      · simp only [gb_false, bind_s, Bool.false_and, cond_f, hx1]
    · have hd : decide ((i : Int) < (l.length : Int)) = false := by simp; omega
      rw [hd, cond_f]
      exact .inr ⟨_, rfl, rfl⟩) (s := (0 : Int)) ⟨0, rfl, by omega⟩ (by omega)
  rw [he, hQ]

theorem wearLeast_plain {l : List Wear} {p : Int} (w0 : Dat.wf l) (w1 : Dat.wf p) : bywaylaw09_WearLeast l p = some true := by
  unfold bywaylaw09_WearLeast
  rw [wear_awake_eq, bind_s, Bool.not_true, cond_f]
  cases h40 : decide ((l.length : Int) > (40 : Int)) with
  | true => rw [Bool.not_true, gb_false, bind_s, Bool.true_or, cond_t]
  | false =>
    rw [Bool.not_false, gb_true, wear_Right_eq, bind_s, Bool.false_or]
    by_cases hw : WRight l p
    · have hn := hw.1
      obtain ⟨a, a1, a2⟩ := wear_Front_eq l p
      obtain ⟨b, b1, b2⟩ := wear_Dead_eq l p
      obtain ⟨c, c1, c2⟩ := wear_Victim_eq l p
      have hloop := wearLeast_loop hw a2 b2
      have hmul : mulI p (l.length : Int) = some (p * l.length) := by
        have h1 := Int.mul_nonneg (show (0 : Int) ≤ p by omega) (show (0 : Int) ≤ (l.length : Int) by omega)
        have h2 := Int.mul_le_mul hn.2.2.2 (show (l.length : Int) ≤ 32 by omega) (by omega) (by omega)
        exact mulI_ok (by omega) (by omega)
      have hle : RoomV l p ≤ p * l.length := by
        unfold RoomV; rw [if_pos hw]; exact (sumTo_le fun k _ => roomG_le hw k).2
      have hpos : decide (RoomV l p > 0) = (a.2 || b.2) := by
        have e : RoomV l p > 0 ↔ ∃ k, k < l.length ∧ 0 < roomG l p k := by
          unfold RoomV; rw [if_pos hw]; exact sumTo_pos fun k => (roomG_le hw k).1
        rcases first_idx a2 with ⟨i, rfl, hi, hil⟩ | ⟨rfl, ha⟩
        · obtain ⟨q1, q2, q3⟩ := hi
          have : RoomV l p > 0 := e.2 ⟨i, hil, (roomG_pos hw i).2 ⟨hil, .inl q2⟩⟩
          simp [this]
        · rcases first_idx b2 with ⟨i, rfl, hi, hil⟩ | ⟨rfl, hb⟩
          · obtain ⟨q1, q2, q3⟩ := hi
            have : RoomV l p > 0 := e.2 ⟨i, hil, (roomG_pos hw i).2 ⟨hil, .inr q2⟩⟩
            simp [this]
          · have : ¬ RoomV l p > 0 := fun h => by
              obtain ⟨k, hk, hg⟩ := e.1 h
              obtain ⟨hk', h1 | h1⟩ := (roomG_pos hw k).1 hg
              · rw [ha hw k hk] at h1; cases h1
              · rw [hb hw k hk] at h1; cases h1
            simp [this]
      rw [show (!decide (WRight l p)) = false by simp [hw], cond_f, a1, bind_s, b1, bind_s, c1, bind_s]
      have g1 : ∃ x6 x7, gb a.2 (idx l a.1) = some x6 ∧ gb (a.2 && !x6.Bad) (idx l a.1) = some x7 ∧ (a.2 && (x6.Bad || decide (x7.Used ≥ p))) = false := by
        rcases first_idx a2 with ⟨i, rfl, hi, hil⟩ | ⟨rfl, ha⟩
        · obtain ⟨q1, q2, q3⟩ := hi
          simp only [rFree, Bool.and_eq_true, Bool.not_eq_true', decide_eq_true_eq] at q2
          exact ⟨_, _, idx_nat hil, by rw [q2.1]; exact idx_nat hil, by simp [q2.1]; omega⟩
        · exact ⟨_, _, rfl, rfl, rfl⟩
      obtain ⟨x6, x7, e6, e7, e67⟩ := g1
      rw [e6, bind_s, e7, bind_s, e67, Bool.not_false, Bool.true_and]
      simp only [Bool.false_or]
      have g2 : ∃ x8 x9, gb b.2 (idx l b.1) = some x8 ∧ gb (b.2 && !x8.Bad) (idx l b.1) = some x9 ∧ (b.2 && (x8.Bad || decide (x9.Live ≠ (0 : Int)))) = false := by
        rcases first_idx b2 with ⟨i, rfl, hi, hil⟩ | ⟨rfl, ha⟩
        · obtain ⟨q1, q2, q3⟩ := hi
          simp only [rDead, Bool.and_eq_true, Bool.not_eq_true', decide_eq_true_eq] at q2
          exact ⟨_, _, idx_nat hil, by rw [q2.1.1]; exact idx_nat hil, by simp [q2.1.1, q2.1.2]⟩
        · exact ⟨_, _, rfl, rfl, rfl⟩
      obtain ⟨x8, x9, e8, e9, e89⟩ := g2
      rw [e8, bind_s, e9, bind_s, e89, Bool.not_false, Bool.true_and]
      simp only [Bool.false_or]
      have g3 : ∃ x10, gb c.2 (idx l c.1) = some x10 ∧ (c.2 && decide (x10.Live = (0 : Int))) = false := by
        rcases first_idx c2 with ⟨i, rfl, hi, hil⟩ | ⟨rfl, ha⟩
        · obtain ⟨q1, q2, q3⟩ := hi
          refine ⟨_, idx_nat hil, ?_⟩
          cases hb : l[i].Bad with
          | true => simp [rMix, hb] at q2; simp; omega
          | false => simp [rMix, hb] at q2; simp; omega
        · exact ⟨_, rfl, rfl⟩
      obtain ⟨x10, e10, e11⟩ := g3
      rw [e10, bind_s, e11, cond_f, hloop, bind_s, elS_inl, wear_Room_eq, bind_s, hpos, show decide ((a.2 || b.2) = (a.2 || b.2)) = true by simp, gb_true, bind_s, gb_true, hmul, bind_s]
      simp [hle]
    · rw [show (!decide (WRight l p)) = true by simp [hw], cond_t]

theorem wright_set {l : List Wear} {p : Int} {k : Nat} {w : Wear} (h : WRight l p) (hw : WOk p w) : WRight (l.set k w) p := by
  refine ⟨by rw [List.length_set]; exact h.1, fun x hx => ?_⟩
  rcases List.mem_or_eq_of_mem_set hx with hx | rfl
  · exact h.2 x hx
  · exact hw
theorem room_set {l : List Wear} {p : Int} {k : Nat} {w : Wear} (h : WRight l p) (hw : WOk p w) (hk : k < l.length) : RoomV (l.set k w) p = RoomV l p - wroom p l[k] + wroom p w := by
  unfold RoomV
  rw [if_pos h, if_pos (wright_set h hw), List.length_set]
  have e1 : roomG l p k = wroom p l[k] := by unfold roomG; rw [dif_pos hk]
  have e2 : roomG (l.set k w) p k = wroom p w := by unfold roomG; rw [dif_pos (by rw [List.length_set]; exact hk), List.getElem_set_self]
  rw [← e1, ← e2]
  refine sumTo_set (fun j hj hjk => ?_) hk
  unfold roomG
  rw [dif_pos hj, dif_pos (by rw [List.length_set]; exact hj), List.getElem_set_ne (fun x => hjk x.symm)]
/-- one that is worn more is no sooner dead -/
theorem dead_more {l w : List Wear} {p : Int} {k : Nat} (hl : w.length = l.length) (hw : WRight l p) (hw' : WRight w p)
    (hne : ∀ j, (h : j < l.length) → j ≠ k → w[j]'(by omega) = l[j]) (hk : ∀ h : k < l.length, rDead (w[k]'(by omega)) = rDead l[k] ∧ l[k].Worn ≤ (w[k]'(by omega)).Worn)
    {r s : Int × Bool} (hr : FirstOf l p rDead ltWorn r) (hs : FirstOf w p rDead ltWorn s) : r.2 = s.2 ∧ ((r.2 && decide (s.1 ≠ r.1)) = true → r.1 = k) := by
  have hd : ∀ j, (h : j < l.length) → rDead (w[j]'(by omega)) = rDead l[j] ∧ l[j].Worn ≤ (w[j]'(by omega)).Worn := fun j h => by
    by_cases e : j = k
    · subst e; exact hk h
    · rw [hne j h e]; exact ⟨rfl, by omega⟩
  rcases first_idx hr with ⟨i, rfl, ⟨q1, q2, q3⟩, hil⟩ | ⟨rfl, hr'⟩
  · rcases first_idx hs with ⟨j, rfl, ⟨p1, p2, p3⟩, hjl⟩ | ⟨rfl, hs'⟩
    · refine ⟨rfl, fun h => ?_⟩
      have hij : j ≠ i := fun e => by subst e; simp at h
      by_cases e : i = k
      · simp [e]
      · exfalso
        have hwi := hne i q1 e
        have a1 := p3 i (by omega) (by rw [(hd i q1).1]; exact q2)
        have a2 := q3 j (by omega) (by rw [← (hd j (by omega)).1]; exact p2)
        have a3 := (hd j (by omega)).2
        rw [hwi] at a1
        simp only [ltWorn, decide_eq_true_eq, decide_eq_false_iff_not] at a1 a2
        omega
    · have := hs' hw' i (by omega)
      rw [(hd i q1).1, q2] at this; cases this
  · rcases first_idx hs with ⟨j, rfl, ⟨p1, p2, p3⟩, hjl⟩ | ⟨rfl, hs'⟩
    · have := hr' hw j (by omega)
      rw [← (hd j (by omega)).1, p2] at this; cases this
    · exact ⟨rfl, fun h => by simp at h⟩
theorem wearMore_loop (w : List Wear) (h : w.length ≤ 32) : ∃ e, loopO (fun s => bywaylaw09_WearMore_l1 s.1 s.2) ((0 : Int), w) = some e ∧ ∀ j, (hj : j < e.length) → e[j].Worn = 7 := by
  obtain ⟨e, he, hQ⟩ := loopO_inv (f := fun s => bywaylaw09_WearMore_l1 s.1 s.2) (I := fun s => ∃ i : Nat, s.1 = i ∧ s.2.length = w.length ∧ i ≤ w.length ∧ ∀ j, (hj : j < s.2.length) → j < i → s.2[j].Worn = 7) (μ := fun s => (w.length - s.1).toNat)
    (R := fun e => ∀ j, (hj : j < e.length) → e[j].Worn = 7) (by
      rintro ⟨x, v⟩ ⟨i, hx, hvl, hil, hI⟩
      obtain rfl : x = i := hx
      simp only at hvl hI
      unfold bywaylaw09_WearMore_l1
      by_cases hx : i < v.length
      · have hd : decide ((i : Int) < (v.length : Int)) = true := by simpa using hx
        rw [hd, cond_t, idx_nat hx, bind_s, bind_s, addI_nat (show i < 9223372036854775807 by omega), bind_s, Int.toNat_natCast]
        left
        refine ⟨_, rfl, ⟨i + 1, rfl, by simp [hvl], by omega, fun j hj hji => ?_⟩, by simp only; omega⟩
        by_cases e : j = i
        · subst e; simp
        · simp only [List.getElem_set_ne (fun x => e x.symm)]
          exact hI j (by simpa using hj) (by omega)
      · have hd : decide ((i : Int) < (v.length : Int)) = false := by simp; omega
        rw [hd, cond_f]
        exact .inr ⟨_, rfl, fun j (hj : j < v.length) => hI j hj (by omega)⟩) (s := ((0 : Int), w)) ⟨0, rfl, rfl, by omega, fun j _ hj => by omega⟩ (by simp only; omega)
  exact ⟨e, he, hQ⟩

theorem wearMore_plain {l : List Wear} {p : Int} {at_ : UInt8} (w0 : Dat.wf l) (w1 : Dat.wf p) (w2 : Dat.wf at_) : bywaylaw09_WearMore l p at_ = some true := by
  unfold bywaylaw09_WearMore
  rw [wear_awake_eq, bind_s, Bool.not_true, cond_f]
  cases h40 : decide ((l.length : Int) > (40 : Int)) with
  | true => rw [Bool.not_true, gb_false, bind_s, Bool.true_or, cond_t]
  | false =>
    rw [Bool.not_false, gb_true, wear_Right_eq, bind_s, Bool.false_or]
    by_cases hw : WRight l p
    · have hn := hw.1
      rw [show (!decide (WRight l p)) = false by simp [hw], cond_f, remI_ok (by omega) (by omega), bind_s]
      obtain ⟨k, hk, hkl⟩ : ∃ k : Nat, (at_.toNat : Int) % (l.length : Int) = (k : Int) ∧ k < l.length := ⟨at_.toNat % l.length, by omega, Nat.mod_lt _ (by omega)⟩
      have ok := hw.2 _ (List.getElem_mem hkl)
      have okk := ok
      unfold WOk at ok
      rw [hk, room_ok (by simp <;> omega) (by simp <;> omega) (by simp <;> omega), bind_s, bind_s, List.nil_append, idx_nat hkl, bind_s, bind_s, Int.toNat_natCast, bind_s]
      have hroom : (bif !l[k].Bad then ((some l[k]).bind fun x_13 => (subI p x_13.Used).bind fun x_14 => (some l[k]).bind fun x_15 => bif (decide (x_15.Live = (0 : Int))) then (some p) else (some x_14)) else (some (0 : Int))) = some (wroom p l[k]) := by
        unfold wroom
        rw [bind_s, subI_ok (by omega) (by omega), bind_s, bind_s]
        cases l[k].Bad <;> cases decide (l[k].Live = 0) <;> rfl
      rw [hroom, bind_s, wear_Room_eq, bind_s, wear_Room_eq, bind_s]
      have okb : WOk p ⟨l[k].Live, l[k].Used, l[k].Worn, true⟩ := okk
      have hset := room_set hw okb hkl
      have hwr : wroom p ⟨l[k].Live, l[k].Used, l[k].Worn, true⟩ = 0 := rfl
      have hle : 0 ≤ RoomV l p ∧ RoomV l p ≤ 512 := by
        unfold RoomV; rw [if_pos hw]
        have := sumTo_le (n := l.length) fun k _ => roomG_le hw k
        have h2 := Int.mul_le_mul hn.2.2.2 (show (l.length : Int) ≤ 32 by omega) (by omega) (by omega)
        omega
      have hwk : 0 ≤ wroom p l[k] ∧ wroom p l[k] ≤ p := by
        have := roomG_le hw k
        unfold roomG at this; rw [dif_pos hkl] at this; exact this
      rw [subI_ok (by omega) (by omega), bind_s, hset, hwr, Int.add_zero]
      rw [show decide (RoomV l p - wroom p l[k] ≠ RoomV l p - wroom p l[k]) = false by simp, cond_f]
      obtain ⟨r, r1, r2⟩ := wear_Dead_eq l p
      rw [r1, bind_s, bind_s, bind_s, idx_nat hkl]
      obtain ⟨w, hwe, hwl, hww, hne, hkk⟩ : ∃ w : List Wear, ((some l[k]).bind fun x_26 => bif (decide (x_26.Worn < (549755813888 : Int))) then ((some l[k]).bind fun x_27 => (addI x_27.Worn (1 : Int)).bind fun x_28 => (some l[k]).bind fun x_29 => (some ((l.set k (⟨x_29.Live, x_29.Used, x_28, x_29.Bad⟩ : Wear)) : (List Wear))).bind fun l_30 => some l_30) else (some l)) = some w ∧ w.length = l.length ∧ WRight w p ∧
          (∀ j, (h : j < l.length) → j ≠ k → w[j]? = some l[j]) ∧ ∃ x, w[k]? = some x ∧ rDead x = rDead l[k] ∧ l[k].Worn ≤ x.Worn := by
        by_cases hs : l[k].Worn < 549755813888
        · have okw : WOk p ⟨l[k].Live, l[k].Used, l[k].Worn + 1, l[k].Bad⟩ := by unfold WOk; simp only; omega
          refine ⟨l.set k ⟨l[k].Live, l[k].Used, l[k].Worn + 1, l[k].Bad⟩, by rw [bind_s, show decide (l[k].Worn < 549755813888) = true by simpa using hs, cond_t, bind_s, addI_ok (by omega) (by omega), bind_s, bind_s, bind_s], by rw [List.length_set], wright_set hw okw, fun j hj hjk => ?_, ⟨⟨l[k].Live, l[k].Used, l[k].Worn + 1, l[k].Bad⟩, by rw [List.getElem?_eq_getElem (by rw [List.length_set]; exact hkl), List.getElem_set_self], rfl, by simp only; omega⟩⟩
          rw [List.getElem?_eq_getElem (by rw [List.length_set]; exact hj), List.getElem_set_ne (fun x => hjk x.symm)]
        · refine ⟨l, by rw [bind_s, show decide (l[k].Worn < 549755813888) = false by simpa using hs, cond_f], rfl, hw, fun j hj _ => List.getElem?_eq_getElem hj, ⟨_, List.getElem?_eq_getElem hkl, rfl, by omega⟩⟩
      rw [hwe, bind_s]
      obtain ⟨s, s1, s2⟩ := wear_Dead_eq w p
      rw [s1, bind_s]
      obtain ⟨x, hx, hx1, hx2⟩ := hkk
      have hd := dead_more hwl hw hww (fun j h hjk => by
          have := hne j h hjk
          rw [List.getElem?_eq_getElem (by omega)] at this
          exact Option.some.inj this) (fun h => by
          rw [List.getElem?_eq_getElem (by omega)] at hx
          have := Option.some.inj hx
          rw [this]; exact ⟨hx1, hx2⟩) r2 s2
      have : ((decide (r.2 ≠ s.2)) || ((r.2 && (decide (s.1 ≠ r.1))) && (decide ((k : Int) ≠ r.1)))) = false := by
        rw [show decide (r.2 ≠ s.2) = false by simp [hd.1], Bool.false_or]
        cases h : (r.2 && decide (s.1 ≠ r.1)) with
        | false => rfl
        | true => rw [hd.2 h]; simp
      rw [this, cond_f]
      obtain ⟨e, he, hE⟩ := wearMore_loop w (by omega)
      obtain ⟨m, m1, m2⟩ := wear_Spread_eq e
      rw [he, bind_s, m1, bind_s]
      have : m = 0 := by
        rcases m2 with ⟨_, _, _, rfl | ⟨i, k, hi, hk, _, _, rfl⟩⟩ | ⟨_, rfl⟩
        · rfl
        · rw [hE i hi, hE k hk]; rfl
        · rfl
      simp [this]
    · rw [show (!decide (WRight l p)) = true by simp [hw], cond_t]
end Go.Proofs.Ytjnlpphnaldjeaa.Tr
