/- What the program's functions of pages answer, and those of the document. Conditions: none. -/
import Derived.Test.YtfdmajkeihdhnaaSumE
namespace Go.Proofs.Ytfdmajkeihdhnaa.Tr
open Go
set_option linter.unusedVariables false
set_option linter.unusedSimpArgs false

def PFits (s : Int) : Prop := 24 ≤ s ∧ s ≤ 256
instance {s : Int} : Decidable (PFits s) := by unfold PFits; exact inferInstance
def PMay (p : Page) (s : Int) : Prop := PFits s ∧ (p.Kind = 1 ∨ p.Kind = 2) ∧ 0 ≤ p.Id ∧ p.Id < 64 ∧ p.Gen < UInt64.ofNat 281474976710656 ∧ (p.Body.length : Int) ≤ s - 16
instance {p : Page} {s : Int} : Decidable (PMay p s) := by unfold PMay; exact inferInstance
theorem page_fits_eq (s : Int) : page_fits s = some (decide (PFits s)) := by
  unfold page_fits
  congr 1
  rw [Bool.eq_iff_iff]
  simp only [Bool.and_eq_true, decide_eq_true_eq, ge_iff_le]
  rfl
theorem and_gb {c : Bool} {r d : Int} {P : Int → Bool} : (c && P (bif c then r else d)) = (c && P r) := by cases c <;> rfl
def RoomOf (s : Int) : Int := if PFits s then s - 16 else 0
theorem page_Room_eq (s : Int) : page_Room s = some (RoomOf s) := by
  unfold page_Room RoomOf
  rw [page_fits_eq, bind_s]
  by_cases h : PFits s
  · have h2 := h; unfold PFits at h2
    rw [cond_false (by simp [h]), subI_ok (by omega) (by omega), bind_s, if_pos h]
  · rw [cond_true (by simp [h]), if_neg h]
theorem page_May_eq (p : Page) (s : Int) : page_May p s = some (decide (PMay p s)) := by
  unfold page_May
  rw [page_fits_eq, bind_s, gb_of2 (page_Room_eq s), bind_s, and_gb (P := fun r => decide ((p.Body.length : Int) ≤ r))]
  congr 1
  rw [Bool.eq_iff_iff]
  simp only [Bool.and_eq_true, Bool.or_eq_true, decide_eq_true_eq]
  unfold PMay RoomOf
  constructor
  · rintro ⟨⟨⟨⟨⟨h1, h2⟩, h3⟩, h4⟩, h5⟩, h6⟩
    rw [if_pos h1] at h6
    exact ⟨h1, h2, h3, h4, h5, h6⟩
  · rintro ⟨h1, h2, h3, h4, h5, h6⟩
    rw [if_pos h1]
    exact ⟨⟨⟨⟨⟨h1, h2⟩, h3⟩, h4⟩, h5⟩, h6⟩
theorem ref_May_eq (p : Page) (s : Int) : bywayref07_May p s = some (decide (PMay p s)) := by
  unfold bywayref07_May
  by_cases h : PFits s
  · have h0 := h; unfold PFits at h0
    rw [gb_of2 (subI_ok (by omega) (by omega)), bind_s, and_gb (P := fun r => decide ((p.Body.length : Int) ≤ r))]
    congr 1
    rw [Bool.eq_iff_iff]
    simp only [Bool.and_eq_true, Bool.or_eq_true, decide_eq_true_eq]
    unfold PMay
    constructor
    · rintro ⟨⟨⟨⟨⟨h1, h2⟩, h3⟩, h4⟩, h5⟩, h6⟩
      exact ⟨h, h2, h3, by omega, h5, h6⟩
    · rintro ⟨h1, h2, h3, h4, h5, h6⟩
      exact ⟨⟨⟨⟨⟨h0, h2⟩, h3⟩, by omega⟩, h5⟩, h6⟩
  · have hf : ((decide (s ≥ (24 : Int))) && (decide (s ≤ (256 : Int)))) = false := by
      unfold PFits at h; simp; omega
    have : ¬ PMay p s := fun x => h x.1
    simp only [hf, Bool.false_and, gb_false, bind_s, this, decide_false]
theorem ref_Room_eq (s : Int) : bywayref07_Room s = some (RoomOf s) := by
  unfold bywayref07_Room RoomOf
  by_cases h : PFits s
  · have h2 := h; unfold PFits at h2
    rw [cond_false (by simp; omega), subI_ok (by omega) (by omega), bind_s, if_pos h]
  · rw [cond_true (by unfold PFits at h; simp; omega), if_neg h]
theorem blank_loop {f : Int → Option (Int ⊕ (Unit ⊕ Bool))} {b : List UInt8} (hb : b.length ≤ 1000000000000000)
    (h1 : ∀ i, (hi : i < b.length) → b[i] ≠ 255 → f (i : Int) = some (.inr (.inr false))) (h2 : ∀ i, (hi : i < b.length) → b[i] = 255 → f (i : Int) = some (.inl ((i + 1 : Nat) : Int))) (h3 : f (b.length : Int) = some (.inr (.inl ()))) :
    ((loopO f (0 : Int)).bind fun o => elS o (fun _ => some true) (fun q => some q)) = some (decide (∀ x ∈ b, x = 255)) := by
  rcases loopO_find (f := f) (fun i => (i : Int)) b.length (fun i => decide (b.getD i 255 ≠ 255)) (fun _ => .inr false) (y := .inl ()) (by omega)
    (fun i hi hp => h2 i hi (by simpa [List.getD_eq_getElem?_getD, List.getElem?_eq_getElem hi] using hp))
    (fun i hi hp => h1 i hi (by simpa [List.getD_eq_getElem?_getD, List.getElem?_eq_getElem hi] using hp)) h3 (s := (0 : Int)) rfl with ⟨i, hi, hp, -, e⟩ | ⟨hall, e⟩
  · rw [e, bind_s, elS_inr]
    congr 1
    symm
    simp only [decide_eq_false_iff_not]
    intro h
    have := h _ (List.getElem_mem hi)
    simp [List.getD_eq_getElem?_getD, List.getElem?_eq_getElem hi, this] at hp
  · rw [e, bind_s, elS_inl]
    congr 1
    symm
    simp only [decide_eq_true_eq]
    intro x hx
    obtain ⟨j, hj, rfl⟩ := List.getElem_of_mem hx
    have := hall j hj
    simpa [List.getD_eq_getElem?_getD, List.getElem?_eq_getElem hj] using this
theorem page_Blank_eq (b : List UInt8) (hb : b.length ≤ 1000000000000000) : page_Blank b = some (decide (∀ x ∈ b, x = 255)) := by
  unfold page_Blank
  refine blank_loop hb (fun i hi hx => ?_) (fun i hi hx => ?_) ?_ <;> unfold page_Blank_l1
  · rw [lt_t hi, cond_t, idx_nat hi, bind_s, cond_true (by simpa using hx)]
  · rw [lt_t hi, cond_t, idx_nat hi, bind_s, cond_false (by simpa using hx), addI_1 (by omega), bind_s]
  · rw [lt_f, cond_f]
theorem ref_Blank_eq (b : List UInt8) (hb : b.length ≤ 1000000000000000) : bywayref07_Blank b = some (decide (∀ x ∈ b, x = 255)) := by
  unfold bywayref07_Blank
  refine blank_loop hb (fun i hi hx => ?_) (fun i hi hx => ?_) ?_ <;> unfold bywayref07_Blank_l1
  · rw [lt_t hi, cond_t, idx_nat hi, bind_s, cond_true (by simpa using hx)]
  · rw [lt_t hi, cond_t, idx_nat hi, bind_s, cond_false (by simpa using hx), addI_1 (by omega), bind_s]
  · rw [lt_f, cond_f]

/-! ### a page's bytes -/
def pHead (p : Page) : List UInt8 := [UInt8.ofInt p.Kind, UInt8.ofInt p.Id] ++ putNum p.Gen 6 ++ putNum (UInt64.ofNat p.Body.length) 2
def pInner (p : Page) (n : Nat) : List UInt8 := pHead p ++ p.Body ++ List.replicate (n - 14 - p.Body.length) 0
def PutV (p : Page) (s : Int) : List UInt8 × Int := if PMay p s then (sealed (pInner p s.toNat), 0) else ([], 1)
theorem pHead_length (p : Page) : (pHead p).length = 10 := by simp [pHead, putNum_length]
theorem pInner_length {p : Page} {s : Int} (h : PMay p s) : (pInner p s.toNat).length = s.toNat - 4 := by
  obtain ⟨⟨h1, h2⟩, -, -, -, -, h3⟩ := h
  simp [pInner, pHead_length]; omega
theorem splice_at {a b ys : List UInt8} {k m : Nat} (hk : k = a.length) (hm : m ≤ b.length) (hy : ys.length ≤ m) : splice (a ++ b) k (over (((a ++ b).drop k).take m) ys) = a ++ ys ++ b.drop ys.length := by
  subst hk
  unfold splice over
  rw [List.drop_left, List.take_left]
  have e1 : (b.take m).length = m := by simp; omega
  rw [e1, List.take_of_length_le hy]
  have e2 : (ys ++ (b.take m).drop ys.length).length = m := by simp; omega
  rw [e2, ← List.drop_drop, List.drop_left, List.append_assoc, List.append_assoc, List.append_assoc]
  congr 2
  have : b.drop ys.length = (b.take m).drop ys.length ++ b.drop m := by
    have h := congrArg (List.drop ys.length) (List.take_append_drop m b)
    rw [List.drop_append_of_le_length (by omega)] at h
    exact h.symm
  rw [this]
theorem page_Put_eq (p : Page) (s : Int) : page_Put p s = some (PutV p s) := by
  unfold page_Put PutV
  rw [page_May_eq, bind_s]
  by_cases h : PMay p s
  · rw [cond_false (by simp [h]), if_pos h]
    have hm := h
    obtain ⟨⟨h1, h2⟩, h3, h4, h5, h6, h7⟩ := h
    obtain ⟨n, rfl⟩ := Int.eq_ofNat_of_zero_le (show 0 ≤ s by omega)
    rw [subI_ok (by omega) (by omega), bind_s, room_ok (by omega) (by omega) (by omega), bind_s, bind_s]
    have e0 : List.replicate (Int.toNat ((n : Int) - 4)) (Dat.z : UInt8) = [0, 0] ++ List.replicate (n - 6) 0 := by
      rw [show ((n : Int) - 4).toNat = (n - 6) + 1 + 1 by omega, List.replicate_succ, List.replicate_succ]; rfl
    rw [e0, idx_of (by omega) (by simp; omega), bind_s]
    rw [idx_of (by omega) (by simp; omega), bind_s, bind_s]
    have e1 : (([0, 0] ++ List.replicate (n - 6) (0 : UInt8)).set (Int.toNat (0 : Int)) (UInt8.ofInt p.Kind)).set (Int.toNat (1 : Int)) (UInt8.ofInt p.Id) = [UInt8.ofInt p.Kind, UInt8.ofInt p.Id] ++ List.replicate (n - 6) (0 : UInt8) := rfl
    rw [e1, cut_ok (by omega) (by omega) (by simp; omega), bind_s, sum_Put_eq, bind_s, bind_s]
    have e2 : splice ([UInt8.ofInt p.Kind, UInt8.ofInt p.Id] ++ List.replicate (n - 6) (0 : UInt8)) (Int.toNat 2) (over ((([UInt8.ofInt p.Kind, UInt8.ofInt p.Id] ++ List.replicate (n - 6) (0 : UInt8)).drop (Int.toNat 2)).take ((8 : Int) - 2).toNat) (putOf p.Gen 6)) = ([UInt8.ofInt p.Kind, UInt8.ofInt p.Id] ++ putNum p.Gen 6) ++ List.replicate (n - 12) (0 : UInt8) := by
      rw [putOf_some (by omega) (by omega), splice_at (k := Int.toNat 2) rfl (by simp; omega) (by simp [putNum_length]), putNum_length, List.drop_replicate]
      congr 2
    rw [e2, cut_ok (by omega) (by omega) (by simp [putNum_length]; omega), bind_s, sum_Put_eq, bind_s, bind_s]
    have e3 : splice (([UInt8.ofInt p.Kind, UInt8.ofInt p.Id] ++ putNum p.Gen 6) ++ List.replicate (n - 12) (0 : UInt8)) (Int.toNat 8) (over (((([UInt8.ofInt p.Kind, UInt8.ofInt p.Id] ++ putNum p.Gen 6) ++ List.replicate (n - 12) (0 : UInt8)).drop (Int.toNat 8)).take ((10 : Int) - 8).toNat) (putOf (UInt64.ofInt (p.Body.length : Int)) 2)) = pHead p ++ List.replicate (n - 14) (0 : UInt8) := by
      rw [putOf_some (by omega) (by omega), splice_at (by simp [putNum_length]) (by simp; omega) (by simp [putNum_length]), putNum_length, List.drop_replicate]
      unfold pHead
      have e9 : UInt64.ofInt (p.Body.length : Int) = UInt64.ofNat p.Body.length := by
        unfold UInt64.ofInt
        rw [← UInt64.toNat_inj, UInt64.toNat_ofNat', UInt64.toNat_ofNat']; omega
      rw [e9]
      congr 2
    rw [e3]
    have hl : (pHead p ++ List.replicate (n - 14) (0 : UInt8)).length = n - 4 := by simp [pHead_length]; omega
    rw [cut_ok (by omega) (by omega) (by omega), bind_s, bind_s]
    have e4 : splice (pHead p ++ List.replicate (n - 14) (0 : UInt8)) (Int.toNat 10) (over (((pHead p ++ List.replicate (n - 14) (0 : UInt8)).drop (Int.toNat 10)).take (((pHead p ++ List.replicate (n - 14) (0 : UInt8)).length : Nat) - (10 : Int) : Int).toNat) p.Body) = pInner p n := by
      rw [splice_at (by rw [pHead_length]; rfl) (by rw [hl]; simp; omega) (by rw [hl]; omega), List.drop_replicate]; rfl
    rw [e4]
    have hi := pInner_length hm
    rw [Int.toNat_natCast] at hi
    rw [sum_Of_eq _ (by omega), bind_s, sum_Put_eq, bind_s, concat2_eq _ _ (by omega) (by have := putOf_le (crcOn 0 (pInner p n)).toUInt64 4; omega), bind_s, Int.toNat_natCast]
    rfl
  · rw [cond_true (by simp [h]), if_neg h]
theorem ref_PutP_eq (p : Page) (s : Int) : bywayref07_Put p s = some (PutV p s) := by
  unfold bywayref07_Put PutV
  rw [ref_May_eq, bind_s]
  by_cases h : PMay p s
  · rw [cond_false (by simp [h]), if_pos h]
    have hm := h
    obtain ⟨⟨h1, h2⟩, h3, h4, h5, h6, h7⟩ := h
    obtain ⟨n, rfl⟩ := Int.eq_ofNat_of_zero_le (show 0 ≤ s by omega)
    have l1 := putOf_length (n := p.Gen) (z := 6) (k := 6) rfl (by omega) (by omega)
    have l2 := putOf_length (n := UInt64.ofInt (p.Body.length : Int)) (z := 2) (k := 2) rfl (by omega) (by omega)
    rw [ref_Put_eq, bind_s, room_ok (by omega) (by simp [l1]) (by simp [l1]), bind_s, bind_s, ref_Put_eq, bind_s, room_ok (by omega) (by simp [l1, l2]) (by simp [l1, l2]), bind_s, bind_s,
      room_ok (by omega) (by simp [l1, l2]; omega) (by simp [l1, l2]; omega), bind_s, bind_s]
    have e0 : ([UInt8.ofInt p.Kind, UInt8.ofInt p.Id] ++ putOf p.Gen 6 ++ putOf (UInt64.ofInt (p.Body.length : Int)) 2) = pHead p := by
      unfold pHead
      rw [putOf_some (by omega) (by omega), putOf_some (by omega) (by omega)]
      have e9 : UInt64.ofInt (p.Body.length : Int) = UInt64.ofNat p.Body.length := by
        unfold UInt64.ofInt
        rw [← UInt64.toNat_inj, UInt64.toNat_ofNat', UInt64.toNat_ofNat']; omega
      rw [e9]; rfl
    rw [e0]
    refine (bind_of (loopO_iter (fun i => pHead p ++ p.Body ++ List.replicate i (0 : UInt8)) (n - 14 - p.Body.length) (e := pInner p n) (by omega) (fun i hi => ?_) ?_ (by simp))).trans ?_
    · unfold bywayref07_Put_l1
      have hl : (pHead p ++ p.Body ++ List.replicate i (0 : UInt8)).length = 10 + p.Body.length + i := by simp [pHead_length]; omega
      rw [subI_ok (by omega) (by omega), bind_s, cond_true (by rw [hl]; simp; omega), room_ok (by omega) (by rw [hl]; simp; omega) (by rw [hl]; simp; omega), bind_s, bind_s, List.append_assoc (pHead p ++ p.Body)]
      have : List.replicate i (0 : UInt8) ++ [UInt8.ofNat 0] = List.replicate (i + 1) 0 := by rw [List.replicate_succ']; rfl
      rw [this]
    · unfold bywayref07_Put_l1
      have hl : (pHead p ++ p.Body ++ List.replicate (n - 14 - p.Body.length) (0 : UInt8)).length = 10 + p.Body.length + (n - 14 - p.Body.length) := by simp [pHead_length]; omega
      rw [subI_ok (by omega) (by omega), bind_s, cond_false (by rw [hl]; simp; omega)]; rfl
    · have hi := pInner_length hm
      rw [Int.toNat_natCast] at hi
      rw [ref_Sealed_eq _ (by omega), bind_s, Int.toNat_natCast]
  · rw [cond_true (by simp [h]), if_neg h]
end Go.Proofs.Ytfdmajkeihdhnaa.Tr
