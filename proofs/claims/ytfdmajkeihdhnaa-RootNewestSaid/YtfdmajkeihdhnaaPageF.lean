/- Pages are read. Conditions: none. -/
import Derived.Test.YtfdmajkeihdhnaaPageE
import Derived.Test.YtfdmajkeihdhnaaPageW
namespace Go.Proofs.Ytfdmajkeihdhnaa.Tr
open Go
set_option linter.unusedVariables false
set_option linter.unusedSimpArgs false

def Page0 : Page := ⟨0, 0, 0, []⟩
def pMany (b : List UInt8) : Nat := (getNum ((b.take 10).drop 8)).toNat
def pOf (b : List UInt8) : Page := ⟨((b.getD 0 0).toNat : Int), ((b.getD 1 0).toNat : Int), getNum ((b.take 8).drop 2), (b.take (10 + pMany b)).drop 10⟩
def PForm (b : List UInt8) : Prop := (b.getD 0 0 = 1 ∨ b.getD 0 0 = 2) ∧ (b.getD 1 0).toNat < 64 ∧ 16 + pMany b ≤ b.length ∧ ∀ x ∈ (b.take (b.length - 4)).drop (10 + pMany b), x = 0
instance {b : List UInt8} : Decidable (PForm b) := by unfold PForm; exact inferInstance
def PSum (b : List UInt8) : Prop := getNum (b.drop (b.length - 4)) = (crcOn 0 (b.take (b.length - 4))).toUInt64
instance {b : List UInt8} : Decidable (PSum b) := by unfold PSum; exact inferInstance
def ReadV (b : List UInt8) : Page × Int :=
  if ¬ PFits b.length then (Page0, 3) else if ∀ x ∈ b, x = 255 then (Page0, 0) else if ¬ PSum b then (Page0, 4) else if ¬ PForm b then (Page0, 2) else (pOf b, 0)

theorem two_num (b : List UInt8) (h : 10 ≤ b.length) : pMany b = 256 * (b.getD 8 0).toNat + (b.getD 9 0).toNat := by
  unfold pMany
  have e : (b.take 10).drop 8 = [b.getD 8 0, b.getD 9 0] := by
    have h8 : 8 < b.length := by omega
    have h9 : 9 < b.length := by omega
    rw [List.getD_eq_getElem?_getD, List.getD_eq_getElem?_getD, List.getElem?_eq_getElem h8, List.getElem?_eq_getElem h9]
    apply List.ext_getElem
    · simp; omega
    · intro j h1 h2
      simp at h2
      rcases (by omega : j = 0 ∨ j = 1) with rfl | rfl
      · simp
      · simp
  rw [e, getNum_nat]
  unfold natNum
  simp only [List.foldl_cons, List.foldl_nil]
  have h1 := (b.getD 8 0).toNat_lt
  have h2 := (b.getD 9 0).toNat_lt
  omega
theorem pMany_lt (b : List UInt8) : pMany b < 65536 := by
  unfold pMany
  rw [getNum_nat]
  have h := natNum_lt ((b.take 10).drop 8)
  have h2 : ((b.take 10).drop 8).length ≤ 2 := by simp; omega
  have h3 : 256 ^ ((b.take 10).drop 8).length ≤ 256 ^ 2 := Nat.pow_le_pow_right (by omega) h2
  omega
theorem gen_lt (b : List UInt8) : getNum ((b.take 8).drop 2) < UInt64.ofNat 281474976710656 := by
  rw [UInt64.lt_iff_toNat_lt, getNum_nat]
  have h := natNum_lt ((b.take 8).drop 2)
  have h2 : ((b.take 8).drop 2).length ≤ 6 := by simp; omega
  have h3 : 256 ^ ((b.take 8).drop 2).length ≤ 256 ^ 6 := Nat.pow_le_pow_right (by omega) h2
  have h4 : (UInt64.ofNat 281474976710656).toNat = 281474976710656 := by decide
  omega
/-- the search for a byte that isn't 0, in each of its forms -/
theorem zeros_loop {f : Int → Option (Int ⊕ (Unit ⊕ (Page × Int)))} {c : List UInt8} {k : Nat} {y : Page × Int} (hc : c.length ≤ 1000000)
    (h1 : ∀ i, (hi : i < c.length) → c[i] ≠ 0 → f ((k + i : Nat) : Int) = some (.inr (.inr y))) (h2 : ∀ i, (hi : i < c.length) → c[i] = 0 → f ((k + i : Nat) : Int) = some (.inl ((k + (i + 1) : Nat) : Int))) (h3 : f ((k + c.length : Nat) : Int) = some (.inr (.inl ()))) :
    ((∀ x ∈ c, x = 0) ∧ loopO f (k : Int) = some (.inl ())) ∨ ((¬ ∀ x ∈ c, x = 0) ∧ loopO f (k : Int) = some (.inr y)) := by
  rcases loopO_find (f := f) (fun i => ((k + i : Nat) : Int)) c.length (fun i => decide (c.getD i 0 ≠ 0)) (fun _ => .inr y) (y := .inl ()) (by omega)
    (fun i hi hp => h2 i hi (by simpa [List.getD_eq_getElem?_getD, List.getElem?_eq_getElem hi] using hp))
    (fun i hi hp => h1 i hi (by simpa [List.getD_eq_getElem?_getD, List.getElem?_eq_getElem hi] using hp)) h3 (s := (k : Int)) rfl with ⟨i, hi, hp, -, e⟩ | ⟨hall, e⟩
  · refine .inr ⟨fun h => ?_, e⟩
    have := h _ (List.getElem_mem hi)
    simp [List.getD_eq_getElem?_getD, List.getElem?_eq_getElem hi, this] at hp
  · refine .inl ⟨fun x hx => ?_, e⟩
    obtain ⟨j, hj, rfl⟩ := List.getElem_of_mem hx
    have := hall j hj
    simpa [List.getD_eq_getElem?_getD, List.getElem?_eq_getElem hj] using this
theorem getD_of {b : List UInt8} {i : Nat} (h : i < b.length) : b.getD i 0 = b[i] := by rw [List.getD_eq_getElem?_getD, List.getElem?_eq_getElem h]; rfl
theorem idx_D {b : List UInt8} {i : Nat} {k : Int} (hk : k = i) (h : i < b.length) : idx b k = some (b.getD i 0) := by subst hk; rw [idx_nat h, getD_of h]
theorem u8_kind (x : UInt8) : ((x.toNat : Int) = 1 ↔ x = 1) ∧ ((x.toNat : Int) = 2 ↔ x = 2) := by
  constructor
  · rw [← UInt8.toNat_inj]; show _ ↔ x.toNat = 1; omega
  · rw [← UInt8.toNat_inj]; show _ ↔ x.toNat = 2; omega

/-- what is left of reading, when the sum fits: alike for each of the ways to read -/
theorem page_Read_eq (b : List UInt8) (hb : b.length ≤ 1000000) : page_Read b = some (ReadV b) := by
  unfold page_Read ReadV
  rw [page_fits_eq, bind_s]
  by_cases h1 : PFits b.length
  · have h1' := h1; unfold PFits at h1'
    rw [cond_false (by simp [h1]), if_neg (by simp [h1]), page_Blank_eq b (by omega), bind_s]
    by_cases h2 : ∀ x ∈ b, x = 255
    · rw [cond_true (by simpa using h2), if_pos h2, bind_s]; rfl
    · rw [cond_false (by simpa using h2), if_neg h2, subI_ok (by omega) (by omega), bind_s, cut_ok (by omega) (by omega) (by omega), bind_s, bind_s, cut_ok (by omega) (by omega) (by omega), bind_s, bind_s, bind_s,
        sum_Get_eq _ (by simp; omega), bind_s, sum_Of_eq _ (by simp; omega), bind_s]
      rw [show ((b.length : Int) - 4).toNat = b.length - 4 by omega]
      by_cases h3 : PSum b
      · rw [cond_false (by unfold PSum at h3; simpa using h3), if_neg (by simp [h3]), idx_D (b := b) (i := 0) (k := 0) rfl (by omega), bind_s, idx_D (b := b) (i := 1) (k := 1) rfl (by omega), bind_s, cut_ok (by omega) (by omega) (by omega), bind_s, sum_Get_eq _ (by simp; omega), bind_s, bind_s,
          cut_ok (by omega) (by omega) (by omega), bind_s, sum_Get_eq _ (by simp; omega), bind_s]
        have hm := pMany_lt b
        have e0 : ((getNum ((b.take (Int.toNat 10)).drop (Int.toNat 8))).toNat : Int) = (pMany b : Int) := rfl
        rw [e0, ok64_ok (by omega) (by omega), bind_s, page_Room_eq, bind_s, gb_of2 (page_May_eq _ _), bind_s]
        have hr : RoomOf b.length = b.length - 16 := by unfold RoomOf; rw [if_pos h1]
        rw [hr]
        by_cases h4 : (b.getD 0 0 = 1 ∨ b.getD 0 0 = 2) ∧ (b.getD 1 0).toNat < 64 ∧ 16 + pMany b ≤ b.length
        · obtain ⟨g1, g2, g3⟩ := h4
          have hmay : PMay ⟨((b.getD 0 0).toNat : Int), ((b.getD 1 0).toNat : Int), getNum ((b.take (Int.toNat 8)).drop (Int.toNat 2)), []⟩ b.length := by
            refine ⟨h1, ?_, by dsimp only; omega, by dsimp only; omega, gen_lt b, by simp; omega⟩
            rcases g1 with g | g
            · exact .inl ((u8_kind _).1.2 g)
            · exact .inr ((u8_kind _).2.2 g)
          have d0 : decide ((pMany b : Int) > (b.length : Int) - 16) = false := by simp; omega
          rw [d0, decide_eq_true hmay]
          rw [show ((false || !bif !false then true else default) : Bool) = false from rfl, cond_f, addI_ok (by omega) (by omega), bind_s, cut_ok (by omega) (by simp; omega) (by simp), bind_s]
          have hz := zeros_loop (f := fun s => page_Read_l1 (b.take (b.length - 4)) (10 + (pMany b : Int)) s) (c := (b.take (b.length - 4)).drop (10 + pMany b)) (k := 0) (y := (Page0, 2)) (by simp; omega) (fun i hi hx => by
              unfold page_Read_l1
              rw [show (10 + (pMany b : Int)).toNat = 10 + pMany b by omega, Nat.zero_add, lt_t hi, cond_t, idx_nat hi, bind_s, cond_true (by simpa using hx), bind_s]; rfl) (fun i hi hx => by
              unfold page_Read_l1
              rw [show (10 + (pMany b : Int)).toNat = 10 + pMany b by omega, Nat.zero_add, Nat.zero_add, lt_t hi, cond_t, idx_nat hi, bind_s, cond_false (by simpa using hx), addI_1 (by simp at hi; omega), bind_s]) (by
              unfold page_Read_l1
              rw [show (10 + (pMany b : Int)).toNat = 10 + pMany b by omega, Nat.zero_add, lt_f, cond_f])
          rcases hz with ⟨z1, z2⟩ | ⟨z1, z2⟩
          · rw [show ((0 : Int)) = ((0 : Nat) : Int) from rfl, z2, bind_s, elS_inl, if_neg (by rw [Decidable.not_not]; exact ⟨g1, g2, g3, z1⟩)]
            by_cases hp : pMany b = 0
            · rw [cond_false (by simp [hp]), bind_s]
              congr 2
              unfold pOf
              rw [hp]
              simp
            · rw [cond_true (by simp; omega), bind_s, cut_ok (by omega) (by omega) (by omega), bind_s]
              unfold slices_Clone_byte
              rw [room_ok (by omega) (by simp; omega) (by simp; omega), bind_s, bind_s, bind_s, bind_s]
              rw [show (10 + (pMany b : Int)).toNat = 10 + pMany b by omega]
              rfl
          · rw [show ((0 : Int)) = ((0 : Nat) : Int) from rfl, z2, bind_s, elS_inr, if_pos (fun h => z1 h.2.2.2)]
        · have hnm : (decide ((pMany b : Int) > (b.length : Int) - 16) || !(bif !(decide ((pMany b : Int) > (b.length : Int) - 16)) then decide (PMay ⟨((b.getD 0 0).toNat : Int), ((b.getD 1 0).toNat : Int), getNum ((b.take (Int.toNat 8)).drop (Int.toNat 2)), []⟩ b.length) else default)) = true := by
            by_cases g3 : (pMany b : Int) > (b.length : Int) - 16
            · simp [g3]
            · rw [decide_eq_false g3]
              have : ¬ PMay ⟨((b.getD 0 0).toNat : Int), ((b.getD 1 0).toNat : Int), getNum ((b.take (Int.toNat 8)).drop (Int.toNat 2)), []⟩ b.length := fun hp => h4 (by
                obtain ⟨q1, q2, q3, q4, q5, q6⟩ := hp
                dsimp only at q2 q3 q4
                refine ⟨?_, by omega, by omega⟩
                rcases q2 with q | q
                · exact .inl ((u8_kind _).1.1 q)
                · exact .inr ((u8_kind _).2.1 q))
              rw [decide_eq_false this]; rfl
          rw [hnm, cond_t, bind_s, if_pos (fun h => h4 ⟨h.1, h.2.1, h.2.2.1⟩)]; rfl
      · rw [cond_true (by unfold PSum at h3; simpa using h3), bind_s, if_pos h3]; rfl
  · rw [cond_true (by simp [h1]), if_pos h1, bind_s]; rfl
theorem openOf_sum2 {b : List UInt8} (h : 4 ≤ b.length) : (openOf b).2 = if PSum b then 0 else 4 := by
  unfold openOf
  rw [if_neg (by omega)]
  by_cases h2 : PSum b
  · have h3 := h2; unfold PSum at h3
    rw [if_pos h2, if_neg (by rw [h3]; simp)]
  · have h3 := h2; unfold PSum at h3
    rw [if_neg h2, if_pos (fun e => h3 e.symm)]
theorem ref_cond (b0 b1 : UInt8) (m r : Int) : ((((decide (b0 ≠ (UInt8.ofNat 1))) && (decide ((bif decide (b0 ≠ (UInt8.ofNat 1)) then b0 else default) ≠ (UInt8.ofNat 2)))) || (decide ((UInt8.ofNat 63) < (bif !((decide (b0 ≠ (UInt8.ofNat 1))) && (decide ((bif decide (b0 ≠ (UInt8.ofNat 1)) then b0 else default) ≠ (UInt8.ofNat 2)))) then b1 else default)))) ||
    (decide (m > (bif !(((decide (b0 ≠ (UInt8.ofNat 1))) && (decide ((bif decide (b0 ≠ (UInt8.ofNat 1)) then b0 else default) ≠ (UInt8.ofNat 2)))) || (decide ((UInt8.ofNat 63) < (bif !((decide (b0 ≠ (UInt8.ofNat 1))) && (decide ((bif decide (b0 ≠ (UInt8.ofNat 1)) then b0 else default) ≠ (UInt8.ofNat 2)))) then b1 else default)))) then r else default)))) =
    !decide ((b0 = 1 ∨ b0 = 2) ∧ b1.toNat < 64 ∧ m ≤ r) := by
  have e1 : (UInt8.ofNat 1) = 1 := rfl
  have e2 : (UInt8.ofNat 2) = 2 := rfl
  have e3 : decide (UInt8.ofNat 63 < b1) = !decide (b1.toNat < 64) := by
    rw [Bool.eq_iff_iff]
    simp only [decide_eq_true_eq, Bool.not_eq_true', decide_eq_false_iff_not, UInt8.lt_iff_toNat_lt]
    show 63 < b1.toNat ↔ _
    omega
  rw [e1, e2]
  by_cases h1 : b0 = 1
  · subst h1
    simp only [ne_eq, not_true_eq_false, decide_false, Bool.false_and, Bool.not_false, cond_t, Bool.false_or, e3]
    by_cases h2 : b1.toNat < 64
    · simp [h2]
      rw [Bool.eq_iff_iff]; simp
    · simp [h2]
  · by_cases h3 : b0 = 2
    · subst h3
      simp only [ne_eq, h1, not_false_eq_true, decide_true, Bool.true_and, not_true_eq_false, decide_false, cond_t, Bool.not_false, Bool.false_or, e3]
      by_cases h2 : b1.toNat < 64
      · simp [h2]
        rw [Bool.eq_iff_iff]; simp
      · simp [h2]
    · simp [h1, h3]
theorem ref_Read_eq (b : List UInt8) (hb : b.length ≤ 1000000) : bywayref07_Read b = some (ReadV b) := by
  unfold bywayref07_Read ReadV
  rw [bind_s]
  by_cases h1 : PFits b.length
  · have h1' := h1; unfold PFits at h1'
    rw [cond_false (by simp; omega), if_neg (by simp [h1]), ref_Blank_eq b (by omega), bind_s]
    by_cases h2 : ∀ x ∈ b, x = 255
    · rw [cond_true (by simpa using h2), if_pos h2]; rfl
    · rw [cond_false (by simpa using h2), if_neg h2, ref_Open_eq b hb, bind_s, openOf_sum2 (by omega)]
      by_cases h3 : PSum b
      · rw [if_pos h3, cond_false (by simp), if_neg (by simp [h3]), idx_D (b := b) (i := 8) (k := 8) rfl (by omega), bind_s]
        have q8 := (b.getD 8 0).toNat_lt
        have q9 := (b.getD 9 0).toNat_lt
        have hm := two_num b (by omega)
        rw [mulI_ok (by omega) (by omega), bind_s, idx_D (b := b) (i := 9) (k := 9) rfl (by omega), bind_s, addI_ok (by omega) (by omega), bind_s]
        rw [show ((256 : Int) * ((b.getD 8 0).toNat : Int) + ((b.getD 9 0).toNat : Int)) = (pMany b : Int) by omega]
        rw [idx_D (b := b) (i := 0) (k := 0) rfl (by omega), bind_s, gb_of2 rfl, bind_s, idx_D (b := b) (i := 1) (k := 1) rfl (by omega), gb_of2 rfl, bind_s, gb_of2 (subI_ok (by omega) (by omega)), bind_s, ref_cond]
        by_cases h4 : (b.getD 0 0 = 1 ∨ b.getD 0 0 = 2) ∧ (b.getD 1 0).toNat < 64 ∧ (pMany b : Int) ≤ (b.length : Int) - 16
        · rw [decide_eq_true h4, Bool.not_true, cond_f]
          obtain ⟨g1, g2, g3⟩ := h4
          have hz := zeros_loop (f := fun s => bywayref07_Read_l1 b (⟨0, 0, 0, []⟩ : Page) s) (c := (b.take (b.length - 4)).drop (10 + pMany b)) (k := 10 + pMany b) (y := (Page0, 2)) (by simp; omega) (fun i hi hx => by
              simp at hi
              unfold bywayref07_Read_l1
              rw [subI_ok (by omega) (by omega), bind_s, cond_true (by simp; omega), idx_nat (by omega), bind_s, cond_true (by simpa using hx)]; rfl) (fun i hi hx => by
              simp at hi
              unfold bywayref07_Read_l1
              rw [subI_ok (by omega) (by omega), bind_s, cond_true (by simp; omega), idx_nat (by omega), bind_s, cond_false (by simpa using hx), addI_1 (by omega), bind_s]; rfl) (by
              unfold bywayref07_Read_l1
              rw [subI_ok (by omega) (by omega), bind_s, cond_false (by simp; omega)])
          rw [addI_ok (by omega) (by omega), bind_s, show (10 + (pMany b : Int)) = ((10 + pMany b : Nat) : Int) by omega]
          rcases hz with ⟨z1, z2⟩ | ⟨z1, z2⟩
          · rw [z2, bind_s, elS_inl, if_neg (by rw [Decidable.not_not]; exact ⟨g1, g2, by omega, z1⟩), bind_s, bind_s, cut_ok (by omega) (by omega) (by omega), bind_s, ref_Get_eq _ (by simp; omega), bind_s,
              bind_s, cut_ok (by omega) (by omega) (by omega), bind_s, bind_s, Int.toNat_natCast]
            rfl
          · rw [z2, bind_s, elS_inr, if_pos (fun h => z1 h.2.2.2)]
        · rw [decide_eq_false h4, Bool.not_false, cond_t, if_pos (fun h => h4 ⟨h.1, h.2.1, by have := h.2.2.1; omega⟩)]; rfl
      · rw [if_neg h3, cond_true (by simp), if_pos h3]; rfl
  · rw [cond_true (by unfold PFits at h1; simp; omega), if_pos h1]; rfl
theorem page_Read_v1_eq (b : List UInt8) (hb : b.length ≤ 1000000) : page_Read_v1 b = some (ReadV b) := by
  unfold page_Read_v1 ReadV
  rw [page_fits_eq, bind_s]
  by_cases h1 : PFits b.length
  · have h1' := h1; unfold PFits at h1'
    rw [cond_false (by simp [h1]), if_neg (by simp [h1]), page_Blank_eq b (by omega), bind_s]
    by_cases h2 : ∀ x ∈ b, x = 255
    · rw [cond_true (by simpa using h2), if_pos h2, bind_s]; rfl
    · rw [cond_false (by simpa using h2), if_neg h2, subI_ok (by omega) (by omega), bind_s, cut_ok (by omega) (by omega) (by omega), bind_s, bind_s, cut_ok (by omega) (by omega) (by omega), bind_s]
      have e1 : (b.drop (Int.toNat ((b.length : Int) - 4))).take (((b.length : Nat) - ((b.length : Int) - 4) : Int).toNat) = b.drop (Int.toNat ((b.length : Int) - 4)) := List.take_of_length_le (by simp; omega)
      have e2 : (b.drop (Int.toNat 2)).take ((8 : Int) - 2).toNat = (b.take (Int.toNat 8)).drop (Int.toNat 2) := by rw [List.drop_take]; rfl
      have e3 : (b.drop (Int.toNat 8)).take ((10 : Int) - 8).toNat = (b.take (Int.toNat 10)).drop (Int.toNat 8) := by rw [List.drop_take]; rfl
      rw [e1, e2, e3, sum_Get_eq _ (by simp; omega), bind_s, sum_Of_eq _ (by simp; omega), bind_s]
      rw [show ((b.length : Int) - 4).toNat = b.length - 4 by omega]
      by_cases h3 : PSum b
      · rw [cond_false (by unfold PSum at h3; simpa using h3), if_neg (by simp [h3]), idx_D (b := b) (i := 0) (k := 0) rfl (by omega), bind_s, idx_D (b := b) (i := 1) (k := 1) rfl (by omega), bind_s, cut_ok (by omega) (by omega) (by omega), bind_s, sum_Get_eq _ (by simp; omega), bind_s, bind_s,
          cut_ok (by omega) (by omega) (by omega), bind_s, sum_Get_eq _ (by simp; omega), bind_s]
        have hm := pMany_lt b
        have e0 : ((getNum ((b.take (Int.toNat 10)).drop (Int.toNat 8))).toNat : Int) = (pMany b : Int) := rfl
        rw [e0, ok64_ok (by omega) (by omega), bind_s, page_Room_eq, bind_s, gb_of2 (page_May_eq _ _), bind_s]
        have hr : RoomOf b.length = b.length - 16 := by unfold RoomOf; rw [if_pos h1]
        rw [hr]
        by_cases h4 : (b.getD 0 0 = 1 ∨ b.getD 0 0 = 2) ∧ (b.getD 1 0).toNat < 64 ∧ 16 + pMany b ≤ b.length
        · obtain ⟨g1, g2, g3⟩ := h4
          have hmay : PMay ⟨((b.getD 0 0).toNat : Int), ((b.getD 1 0).toNat : Int), getNum ((b.take (Int.toNat 8)).drop (Int.toNat 2)), []⟩ b.length := by
            refine ⟨h1, ?_, by dsimp only; omega, by dsimp only; omega, gen_lt b, by simp; omega⟩
            rcases g1 with g | g
            · exact .inl ((u8_kind _).1.2 g)
            · exact .inr ((u8_kind _).2.2 g)
          have d0 : decide ((pMany b : Int) > (b.length : Int) - 16) = false := by simp; omega
          rw [d0, decide_eq_true hmay]
          rw [show ((false || !bif !false then true else default) : Bool) = false from rfl, cond_f, addI_ok (by omega) (by omega), bind_s, cut_ok (by omega) (by omega) (by omega), bind_s]
          have e5 : ((b.drop (Int.toNat (10 + (pMany b : Int)))).take ((((b.length - 4 : Nat) : Int) - (10 + (pMany b : Int))).toNat)) = (b.take (b.length - 4)).drop (10 + pMany b) := by
            rw [List.drop_take, show (10 + (pMany b : Int)).toNat = 10 + pMany b by omega]; congr 1; omega
          have e6 : ((b.take (b.length - 4)).drop (10 + pMany b)).length = (((b.length - 4 : Nat) : Int) - (10 + (pMany b : Int))).toNat := by simp; omega
          have hz := zeros_loop (f := fun s => page_Read_v1_l1 b (((b.length : Int) - 4)) (10 + (pMany b : Int)) s) (c := (b.take (b.length - 4)).drop (10 + pMany b)) (k := 0) (y := (Page0, 2)) (by simp; omega) (fun i hi hx => by
              unfold page_Read_v1_l1
              rw [show ((b.length : Int) - 4).toNat = b.length - 4 by omega, e5, ← e6, Nat.zero_add, lt_t hi, cond_t, idx_nat hi, bind_s, cond_true (by simpa using hx), bind_s]; rfl) (fun i hi hx => by
              unfold page_Read_v1_l1
              rw [show ((b.length : Int) - 4).toNat = b.length - 4 by omega, e5, ← e6, Nat.zero_add, Nat.zero_add, lt_t hi, cond_t, idx_nat hi, bind_s, cond_false (by simpa using hx), addI_1 (by simp at hi; omega), bind_s]) (by
              unfold page_Read_v1_l1
              rw [show ((b.length : Int) - 4).toNat = b.length - 4 by omega, e5, ← e6, Nat.zero_add, lt_f, cond_f])
          rcases hz with ⟨z1, z2⟩ | ⟨z1, z2⟩
          · rw [show ((0 : Int)) = ((0 : Nat) : Int) from rfl, z2, bind_s, elS_inl, if_neg (by rw [Decidable.not_not]; exact ⟨g1, g2, g3, z1⟩)]
            by_cases hp : pMany b = 0
            · rw [cond_false (by simp [hp]), bind_s]
              congr 2
              unfold pOf
              rw [hp]
              simp
            · rw [cond_true (by simp; omega), bind_s, cut_ok (by omega) (by omega) (by omega), bind_s]
              have e7 : (b.drop (Int.toNat 10)).take ((10 + (pMany b : Int)) - 10).toNat = (b.take (Int.toNat (10 + (pMany b : Int)))).drop (Int.toNat 10) := by rw [List.drop_take]; congr 1; simp; omega
              rw [e7]
              unfold slices_Clone_byte
              rw [room_ok (by omega) (by simp; omega) (by simp; omega), bind_s, bind_s, bind_s]
              rw [show (10 + (pMany b : Int)).toNat = 10 + pMany b by omega]
              rfl
          · rw [show ((0 : Int)) = ((0 : Nat) : Int) from rfl, z2, bind_s, elS_inr, if_pos (fun h => z1 h.2.2.2)]
        · have hnm : (decide ((pMany b : Int) > (b.length : Int) - 16) || !(bif !(decide ((pMany b : Int) > (b.length : Int) - 16)) then decide (PMay ⟨((b.getD 0 0).toNat : Int), ((b.getD 1 0).toNat : Int), getNum ((b.take (Int.toNat 8)).drop (Int.toNat 2)), []⟩ b.length) else default)) = true := by
            by_cases g3 : (pMany b : Int) > (b.length : Int) - 16
            · simp [g3]
            · rw [decide_eq_false g3]
              have : ¬ PMay ⟨((b.getD 0 0).toNat : Int), ((b.getD 1 0).toNat : Int), getNum ((b.take (Int.toNat 8)).drop (Int.toNat 2)), []⟩ b.length := fun hp => h4 (by
                obtain ⟨q1, q2, q3, q4, q5, q6⟩ := hp
                dsimp only at q2 q3 q4
                refine ⟨?_, by omega, by omega⟩
                rcases q2 with q | q
                · exact .inl ((u8_kind _).1.1 q)
                · exact .inr ((u8_kind _).2.1 q))
              rw [decide_eq_false this]; rfl
          rw [hnm, cond_t, bind_s, if_pos (fun h => h4 ⟨h.1, h.2.1, h.2.2.1⟩)]; rfl
      · rw [cond_true (by unfold PSum at h3; simpa using h3), bind_s, if_pos h3]; rfl
  · rw [cond_true (by simp [h1]), if_pos h1, bind_s]; rfl
end Go.Proofs.Ytfdmajkeihdhnaa.Tr
