/- The laws of pages, in plain Lean. Conditions: none. -/
import Derived.Test.YtfdmajkeihdhnaaPageF
namespace Go.Proofs.Ytfdmajkeihdhnaa.Tr
open Go
set_option linter.unusedVariables false
set_option linter.unusedSimpArgs false

theorem page_awake_eq : bywaylaw07_awake = some true := by decide +kernel
def SameV (a b : Page) : Bool := ((((decide (a.Kind = b.Kind)) && (decide (a.Id = b.Id))) && (decide (a.Gen = b.Gen))) && (decide (a.Body = b.Body)))
theorem same_eq (a b : Page) : bywayref07_Same a b = some (SameV a b) := rfl
theorem sameV_iff {a b : Page} : SameV a b = true ↔ a = b := by
  unfold SameV
  simp only [Bool.and_eq_true, decide_eq_true_eq]
  constructor
  · rintro ⟨⟨⟨h1, h2⟩, h3⟩, h4⟩
    cases a; cases b; simp_all
  · rintro rfl; exact ⟨⟨⟨rfl, rfl⟩, rfl⟩, rfl⟩
theorem sameV_self (a : Page) : SameV a a = true := sameV_iff.2 rfl
theorem pageRight_plain (p : Page) (s : Int) (b : List UInt8) : bywaylaw07_PageRight p s b = some true := by
  unfold bywaylaw07_PageRight
  rw [page_awake_eq, bind_s, Bool.not_true, cond_f]
  by_cases h : p.Body.length > 400 ∨ b.length > 400
  · rw [cond_true (by simp; omega)]
  · have h1 : b.length ≤ 400 := by omega
    rw [cond_false (by simp; omega), page_Put_eq, bind_s, ref_PutP_eq, bind_s, page_Read_eq b (by omega), bind_s, ref_Read_eq b (by omega), bind_s, same_eq, page_May_eq, ref_May_eq, page_Room_eq, ref_Room_eq, page_Blank_eq b (by omega), ref_Blank_eq b (by omega), sameV_self]
    simp only [decide_true, Bool.and_true, gb_true, bind_s, Bool.true_and]

/-! ### what was put is read -/
theorem getNum_put {n : UInt64} {k : Nat} (hk : k ≤ 8) (h : n.toNat < 256 ^ k) : getNum (putNum n k) = n := by
  rw [← UInt64.toNat_inj, get_put n hk, Nat.mod_eq_of_lt h]
theorem u8_of_kind {z : Int} (h0 : 0 ≤ z) (h : z < 256) : ((UInt8.ofInt z).toNat : Int) = z := by rw [ofIntU8]; omega
theorem sealed_take (xs : List UInt8) : (sealed xs).take ((sealed xs).length - 4) = xs := by
  rw [sealed_length, sealed_st]; unfold stOf; simp
theorem sealed_drop (xs : List UInt8) : (sealed xs).drop ((sealed xs).length - 4) = putNum (crcOn 0 xs).toUInt64 4 := by
  rw [sealed_length, sealed_st]; unfold stOf; simp
theorem sealed_sum (xs : List UInt8) : PSum (sealed xs) := by
  unfold PSum
  rw [sealed_take, sealed_drop, getNum_put (by omega)]
  have := (crcOn 0 xs).toNat_lt
  rw [UInt32.toNat_toUInt64]; omega
theorem put_head {p : Page} {n : Nat} (h : PMay p n) {x : List UInt8} (hx : x = sealed (pInner p n)) :
    x.length = n ∧ x.getD 0 0 = UInt8.ofInt p.Kind ∧ x.getD 1 0 = UInt8.ofInt p.Id ∧ (x.take 8).drop 2 = putNum p.Gen 6 ∧ (x.take 10).drop 8 = putNum (UInt64.ofNat p.Body.length) 2 ∧ (x.take (10 + p.Body.length)).drop 10 = p.Body ∧ (x.take (x.length - 4)).drop (10 + p.Body.length) = List.replicate (n - 14 - p.Body.length) 0 := by
  have hl := pInner_length h
  rw [Int.toNat_natCast] at hl
  obtain ⟨⟨h1, h2⟩, h3, h4, h5, h6, h7⟩ := h
  have hn : x.length = n := by rw [hx, sealed_length]; omega
  have e0 : x = pHead p ++ (p.Body ++ (List.replicate (n - 14 - p.Body.length) 0 ++ putNum (crcOn 0 (pInner p n)).toUInt64 4)) := by
    rw [hx, sealed_st]; unfold stOf pInner; simp only [List.append_assoc]
  have eh : pHead p = [UInt8.ofInt p.Kind, UInt8.ofInt p.Id] ++ (putNum p.Gen 6 ++ putNum (UInt64.ofNat p.Body.length) 2) := by unfold pHead; rw [List.append_assoc]
  have hh := pHead_length p
  have t8 : x.take 8 = [UInt8.ofInt p.Kind, UInt8.ofInt p.Id] ++ putNum p.Gen 6 := by
    rw [e0, List.take_append_of_le_length (by omega), eh, ← List.append_assoc, List.take_append_of_le_length (by simp [putNum_length]), List.take_of_length_le (by simp [putNum_length])]
  have t10 : x.take 10 = pHead p := by
    rw [e0, List.take_append_of_le_length (by omega), List.take_of_length_le (by omega)]
  have tb : x.take (10 + p.Body.length) = pHead p ++ p.Body := by
    rw [e0, ← List.append_assoc, List.take_append_of_le_length (by simp [hh]), List.take_of_length_le (by simp [hh])]
  refine ⟨hn, ?_, ?_, ?_, ?_, ?_, ?_⟩
  · rw [e0, eh]; rfl
  · rw [e0, eh]; rfl
  · rw [t8]; rfl
  · rw [t10]
    unfold pHead
    exact List.drop_left' (by simp [putNum_length])
  · rw [tb]; exact List.drop_left' hh
  · have e1 : x.take (x.length - 4) = pInner p n := by rw [hx, sealed_take]
    rw [e1]
    unfold pInner
    exact List.drop_left' (by simp [hh])
theorem read_put {p : Page} {n : Nat} (h : PMay p n) : ReadV (sealed (pInner p n)) = (p, 0) := by
  generalize hx : sealed (pInner p n) = x
  obtain ⟨g1, g2, g3, g4, g5, g6, g7⟩ := put_head h hx.symm
  obtain ⟨⟨h1, h2⟩, h3, h4, h5, h6, h7⟩ := h
  have hk : p.Kind = 1 ∨ p.Kind = 2 := h3
  have hm : pMany x = p.Body.length := by
    unfold pMany
    have hb : (UInt64.ofNat p.Body.length).toNat = p.Body.length := UInt64.toNat_ofNat_of_lt' (show p.Body.length < 18446744073709551616 by omega)
    rw [g5, getNum_put (k := 2) (by omega) (by rw [hb]; omega), hb]
  have hid : ((UInt8.ofInt p.Id).toNat : Int) = p.Id := u8_of_kind (by omega) (by omega)
  have hkd : ((UInt8.ofInt p.Kind).toNat : Int) = p.Kind := u8_of_kind (by omega) (by omega)
  have k1 : UInt8.ofInt p.Kind = 1 ∨ UInt8.ofInt p.Kind = 2 := by
    rcases hk with e | e
    · left; rw [e]; rfl
    · right; rw [e]; rfl
  unfold ReadV
  rw [if_neg (by rw [Decidable.not_not]; unfold PFits; omega), if_neg (fun hall => by
    have h0 : x.getD 0 0 = 255 := by rw [getD_of (by omega)]; exact hall _ (List.getElem_mem _)
    rw [g2] at h0
    rcases k1 with e | e <;> rw [e] at h0 <;> exact absurd h0 (by decide)), if_neg (by rw [Decidable.not_not, ← hx]; exact sealed_sum _), if_neg (by
    rw [Decidable.not_not]
    refine ⟨by rw [g2]; exact k1, by rw [g3]; omega, by rw [hm]; omega, fun y hy => ?_⟩
    rw [hm, g7] at hy
    exact List.eq_of_mem_replicate hy)]
  congr 1
  unfold pOf
  rw [hm, g2, g3, g4, g6, hid, hkd, getNum_put (by omega) (by
    rw [UInt64.lt_iff_toNat_lt] at h6
    have : (UInt64.ofNat 281474976710656).toNat = 281474976710656 := by decide
    omega)]

/-- what is read was put so -/
theorem read_ok {b : List UInt8} (h : (ReadV b).2 = 0) (hk : (ReadV b).1.Kind ≠ 0) : PMay (ReadV b).1 b.length ∧ sealed (pInner (ReadV b).1 b.length) = b := by
  unfold ReadV at *
  by_cases h1 : PFits b.length
  · rw [if_neg (by simp [h1])] at *
    by_cases h2 : ∀ x ∈ b, x = 255
    · rw [if_pos h2] at hk; exact absurd rfl hk
    · rw [if_neg h2] at *
      by_cases h3 : PSum b
      · rw [if_neg (by simp [h3])] at *
        by_cases h4 : PForm b
        · rw [if_neg (by simp [h4])] at *
          dsimp only
          obtain ⟨g1, g2, g3, g4⟩ := h4
          have h1' := h1; unfold PFits at h1'
          have hbl : (pOf b).Body.length = pMany b := by unfold pOf; simp; omega
          have hmay : PMay (pOf b) b.length := by
            refine ⟨h1, ?_, by unfold pOf; dsimp only; omega, by unfold pOf; dsimp only; omega, gen_lt b, by rw [hbl]; omega⟩
            rcases g1 with g | g
            · exact .inl ((u8_kind _).1.2 g)
            · exact .inr ((u8_kind _).2.2 g)
          refine ⟨hmay, ?_⟩
          have key : pInner (pOf b) b.length = b.take (b.length - 4) := by
            unfold pInner
            rw [hbl]
            have e0 : pHead (pOf b) = b.take 10 := by
              unfold pHead
              rw [hbl]
              have a1 : UInt8.ofInt (pOf b).Kind = b.getD 0 0 := by
                rw [← UInt8.toNat_inj]
                have : ((UInt8.ofInt (pOf b).Kind).toNat : Int) = (b.getD 0 0).toNat := by
                  have q := (b.getD 0 0).toNat_lt
                  exact u8_of_kind (by unfold pOf; dsimp only; omega) (by unfold pOf; dsimp only; omega)
                omega
              have a2 : UInt8.ofInt (pOf b).Id = b.getD 1 0 := by
                rw [← UInt8.toNat_inj]
                have : ((UInt8.ofInt (pOf b).Id).toNat : Int) = (b.getD 1 0).toNat := by
                  have q := (b.getD 1 0).toNat_lt
                  exact u8_of_kind (by unfold pOf; dsimp only; omega) (by unfold pOf; dsimp only; omega)
                omega
              have a3 : putNum (pOf b).Gen 6 = (b.take 8).drop 2 := by
                have l6 : ((b.take 8).drop 2).length = 6 := by simp; omega
                have := put_get ((b.take 8).drop 2) (by omega)
                rw [l6] at this; exact this
              have a4 : putNum (UInt64.ofNat (pMany b)) 2 = (b.take 10).drop 8 := by
                have l2 : ((b.take 10).drop 8).length = 2 := by simp; omega
                have := put_get ((b.take 10).drop 8) (by omega)
                rw [l2] at this
                rw [← this]; congr 1
                unfold pMany
                exact UInt64.ofNat_toNat
              rw [a1, a2, a3, a4]
              have a5 : [b.getD 0 0, b.getD 1 0] = b.take 2 := by
                apply List.ext_getElem
                · simp; omega
                · intro j q1 q2
                  simp at q1
                  rcases (by omega : j = 0 ∨ j = 1) with rfl | rfl
                  · show b.getD 0 0 = _
                    rw [getD_of (by omega), List.getElem_take]
                  · show b.getD 1 0 = _
                    rw [getD_of (by omega), List.getElem_take]
              rw [a5]
              have a6 : b.take 2 ++ (b.take 8).drop 2 = b.take 8 := by
                have := List.take_append_drop 2 (b.take 8)
                rw [List.take_take] at this; exact this
              have a7 : b.take 8 ++ (b.take 10).drop 8 = b.take 10 := by
                have := List.take_append_drop 8 (b.take 10)
                rw [List.take_take] at this; exact this
              rw [a6, a7]
            have e1 : b.take 10 ++ (pOf b).Body = b.take (10 + pMany b) := by
              have := List.take_append_drop 10 (b.take (10 + pMany b))
              rw [List.take_take, Nat.min_eq_left (by omega)] at this; exact this
            have e2 : List.replicate (b.length - 14 - pMany b) (0 : UInt8) = (b.take (b.length - 4)).drop (10 + pMany b) := by
              symm
              rw [List.eq_replicate_iff]
              exact ⟨by simp; omega, g4⟩
            rw [e0, e1, e2]
            have := List.take_append_drop (10 + pMany b) (b.take (b.length - 4))
            rw [List.take_take, Nat.min_eq_left (by omega)] at this; exact this
          rw [key]
          exact (sealed_iff (by omega)).2 h3.symm
        · rw [if_pos h4] at h; exact absurd h (by decide)
      · rw [if_pos h3] at h; exact absurd h (by decide)
  · rw [if_pos h1] at h; exact absurd h (by decide)
theorem read_none {b : List UInt8} (h : (ReadV b).2 ≠ 0 ∨ (ReadV b).1.Kind = 0) : (ReadV b).1 = Page0 := by
  unfold ReadV at *
  by_cases h1 : PFits b.length
  · rw [if_neg (by simp [h1])] at *
    by_cases h2 : ∀ x ∈ b, x = 255
    · rw [if_pos h2]
    · rw [if_neg h2] at *
      by_cases h3 : PSum b
      · rw [if_neg (by simp [h3])] at *
        by_cases h4 : PForm b
        · rw [if_neg (by simp [h4])] at *
          exfalso
          rcases h with h | h
          · exact h rfl
          · have e : ((b.getD 0 0).toNat : Int) = 0 := h
            rcases h4.1 with g | g <;> rw [g] at e <;> exact absurd e (by decide)
        · rw [if_pos h4]
      · rw [if_pos h3]
  · rw [if_pos h1]
theorem put_inj2 {p o : Page} {n : Nat} (h : PMay p n) (h2 : PMay o n) (e : sealed (pInner p n) = sealed (pInner o n)) : p = o := by
  have h3 := read_put h
  rw [e, read_put h2] at h3
  exact (Prod.mk.inj h3).1.symm

/-! ### bits turned -/
theorem flip0 (s : List UInt8) (x : Nat) (h : 0 < s.length) : (flip s x).getD 0 0 = if x / 8 = 0 then s.getD 0 0 ^^^ UInt8.ofNat (2 ^ (x % 8)) else s.getD 0 0 := by
  unfold flip
  by_cases hx : x / 8 = 0
  · rw [if_pos hx, hx]
    simp [List.getD_eq_getElem?_getD, h]
  · rw [if_neg hx]
    simp only [List.getD_eq_getElem?_getD]
    rw [List.getElem?_set_ne hx]
theorem kind_flips : ∀ k : UInt8, k = 1 ∨ k = 2 → ∀ i, i < 8 → ∀ j, j < 8 → k ≠ 255 ∧ k ^^^ UInt8.ofNat (2 ^ i) ≠ 255 ∧ k ^^^ UInt8.ofNat (2 ^ i) ^^^ UInt8.ofNat (2 ^ j) ≠ 255 := by
  intro k hk
  rcases hk with rfl | rfl <;> decide +kernel
theorem openOf_read {b : List UInt8} (h : PFits b.length) (hb : b.getD 0 0 ≠ 255) (ho : (openOf b).2 = 4) : (ReadV b).2 = 4 := by
  have h1 := h; unfold PFits at h1
  rw [openOf_sum2 (by omega)] at ho
  unfold ReadV
  rw [if_neg (by simp [h]), if_neg (fun hall => hb (by rw [getD_of (by omega)]; exact hall _ (List.getElem_mem _))), if_pos (fun hs => by rw [if_pos hs] at ho; exact absurd ho (by decide))]
theorem put_kind {p : Page} {n : Nat} (h : PMay p n) : (sealed (pInner p n)).getD 0 0 = 1 ∨ (sealed (pInner p n)).getD 0 0 = 2 := by
  obtain ⟨g1, g2, -⟩ := put_head h rfl
  rw [g2]
  rcases h.2.1 with e | e
  · left; rw [e]; rfl
  · right; rw [e]; rfl
theorem flip_one_read {p : Page} {n : Nat} (h : PMay p n) {x : Nat} (hx : x < 8 * n) : (ReadV (flip (sealed (pInner p n)) x)).2 = 4 := by
  have hl := pInner_length h
  rw [Int.toNat_natCast] at hl
  have h1 := h.1; unfold PFits at h1
  obtain ⟨g1, -⟩ := put_head h rfl
  refine openOf_read (by rw [flip_length, g1]; exact h.1) ?_ (by rw [find_one (by rw [hl]; omega)])
  rw [flip0 _ _ (by omega)]
  have hk := kind_flips _ (put_kind h) (x % 8) (Nat.mod_lt _ (by decide)) 0 (by decide)
  split
  · exact hk.2.1
  · exact hk.1
theorem flip_two_read {p : Page} {n : Nat} (h : PMay p n) {x y : Nat} (hx : x < 8 * n) (hy : y < 8 * n) (hxy : x ≠ y) : (ReadV (flip (flip (sealed (pInner p n)) x) y)).2 = 4 := by
  have hl := pInner_length h
  rw [Int.toNat_natCast] at hl
  have h1 := h.1; unfold PFits at h1
  obtain ⟨g1, -⟩ := put_head h rfl
  refine openOf_read (by rw [flip_length, flip_length, g1]; exact h.1) ?_ (by rw [find_two (by omega) (by rw [hl]; omega) (by rw [hl]; omega) hxy])
  rw [flip0 _ _ (by rw [flip_length]; omega), flip0 _ _ (by omega)]
  have hk := kind_flips _ (put_kind h) (x % 8) (Nat.mod_lt _ (by decide)) (y % 8) (Nat.mod_lt _ (by decide))
  have hk2 := kind_flips _ (put_kind h) (y % 8) (Nat.mod_lt _ (by decide)) 0 (by decide)
  split
  · split
    · exact hk.2.2
    · exact hk2.2.1
  · split
    · exact hk.2.1
    · exact hk.1
theorem flip_raw2 {s : List UInt8} {x : Nat} (h : x / 8 < s.length) : s.set (x / 8) (s[x / 8] ^^^ shl8 (UInt8.ofNat 1) ((UInt64.ofInt ((x % 8 : Nat) : Int)).toNat : Int)) = flip s x := by
  have h2 := flip_raw (s := s) (x := x) (by omega)
  rw [← h2]
  unfold shl8
  have e1 : ((x : Int) / 8).toNat = x / 8 := by omega
  have e3 : ((x : Int) % 8) = ((x % 8 : Nat) : Int) := by omega
  simp only [e1, e3]

theorem pageTells_plain (p o : Page) (s : Int) (i k : UInt16) (b : List UInt8) : bywaylaw07_PageTells p o s i k b = some true := by
  unfold bywaylaw07_PageTells
  rw [page_awake_eq, bind_s, Bool.not_true, cond_f, page_Put_eq, bind_s]
  have tail : (bif (decide ((b.length : Int) > (400 : Int))) then (some true) else ((page_Read b).bind fun r_36 => bif ((decide (r_36.2 ≠ (0 : Int))) || (decide (r_36.1.Kind = (0 : Int)))) then ((bywayref07_Same r_36.1 (⟨0, 0, 0, []⟩ : Page)).bind fun x_38 => some x_38) else ((page_Put r_36.1 (b.length : Int)).bind fun r_39 => some ((decide (r_39.2 = (0 : Int))) && (decide (r_39.1 = b)))))) = some true := by
    by_cases hb : b.length > 400
    · rw [cond_true (by simp; omega)]
    · rw [cond_false (by simp; omega), page_Read_eq b (by omega), bind_s]
      by_cases hr : (ReadV b).2 ≠ 0 ∨ (ReadV b).1.Kind = 0
      · rw [cond_true (by simpa using hr), read_none hr, same_eq, bind_s]
        exact congrArg some (sameV_self _)
      · have hr1 : (ReadV b).2 = 0 := Decidable.not_not.1 fun h => hr (.inl h)
        have hr2 : (ReadV b).1.Kind ≠ 0 := fun h => hr (.inr h)
        obtain ⟨q1, q2⟩ := read_ok hr1 hr2
        rw [cond_false (by simp [hr1, hr2]), page_Put_eq, bind_s]
        unfold PutV
        rw [if_pos q1, Int.toNat_natCast, q2]
        simp
  by_cases h : PMay p s
  · have h0 := h.1; unfold PFits at h0
    obtain ⟨n, rfl⟩ := Int.eq_ofNat_of_zero_le (show 0 ≤ s by omega)
    have e0 : PutV p (n : Int) = (sealed (pInner p n), 0) := by unfold PutV; rw [if_pos h]; rfl
    have hl := pInner_length h
    rw [Int.toNat_natCast] at hl
    obtain ⟨g1, -⟩ := put_head h rfl
    rw [e0, cond_true (by simp)]
    dsimp only
    rw [page_Read_v1_eq _ (by omega), bind_s, read_put h, page_Put_eq, bind_s, same_eq, same_eq, sameV_self, gb_of2 rfl, bind_s, gb_of2 rfl, bind_s]
    have hcond : ((((decide ((0 : Int) ≠ (0 : Int))) || (!(bif (!(decide ((0 : Int) ≠ (0 : Int)))) then true else default))) || (decide (((sealed (pInner p n)).length : Int) ≠ (n : Int)))) || ((decide ((PutV o n).2 = (0 : Int))) && (decide ((decide (sealed (pInner p n) = (PutV o n).1)) ≠ (bif ((!(((decide ((0 : Int) ≠ (0 : Int))) || (!(bif (!(decide ((0 : Int) ≠ (0 : Int)))) then true else default))) || (decide (((sealed (pInner p n)).length : Int) ≠ (n : Int))))) && (decide ((PutV o n).2 = (0 : Int)))) then SameV p o else default))))) = false := by
      have d1 : decide (((sealed (pInner p n)).length : Int) ≠ (n : Int)) = false := by rw [g1]; simp
      have d2 : decide ((0 : Int) ≠ 0) = false := by decide
      rw [d1, d2]
      simp only [Bool.not_false, cond_t, Bool.not_true, Bool.or_false, Bool.false_or, Bool.true_and]
      by_cases ho : PMay o n
      · have e1 : PutV o (n : Int) = (sealed (pInner o n), 0) := by unfold PutV; rw [if_pos ho]; rfl
        rw [e1]
        simp only [decide_true, cond_t, Bool.true_and]
        have : decide (sealed (pInner p n) = sealed (pInner o n)) = SameV p o := by
          rw [Bool.eq_iff_iff, sameV_iff, decide_eq_true_eq]
          exact ⟨fun e => put_inj2 h ho e, fun e => by rw [e]⟩
        rw [this]; simp
      · have e1 : (PutV o (n : Int)).2 = 1 := by unfold PutV; rw [if_neg ho]
        rw [e1]; rfl
    rw [hcond, cond_f, mulI_ok (by omega) (by omega), bind_s]
    have r1 : remI (i.toNat : Int) (8 * (n : Int)) = some ((i.toNat % (8 * n) : Nat) : Int) := by
      rw [show (8 * (n : Int)) = ((8 * n : Nat) : Int) by omega]; exact remI_nat (by omega)
    have r2 : remI (k.toNat : Int) (8 * (n : Int)) = some ((k.toNat % (8 * n) : Nat) : Int) := by
      rw [show (8 * (n : Int)) = ((8 * n : Nat) : Int) by omega]; exact remI_nat (by omega)
    rw [r1, bind_s, bind_s, r2, bind_s]
    have hx : i.toNat % (8 * n) < 8 * n := Nat.mod_lt _ (by omega)
    have hy : k.toNat % (8 * n) < 8 * n := Nat.mod_lt _ (by omega)
    generalize i.toNat % (8 * n) = x at hx
    generalize k.toNat % (8 * n) = y at hy
    have q8 : ∀ z : Nat, quoI (z : Int) 8 = some ((z / 8 : Nat) : Int) := fun z => quoI_nat (b := 8) (by decide)
    have m8 : ∀ z : Nat, remI (z : Int) 8 = some ((z % 8 : Nat) : Int) := fun z => remI_nat (b := 8) (by decide)
    rw [q8, bind_s, bind_s, idx_nat (by omega), bind_s, m8, bind_s, bind_s, Int.toNat_natCast, flip_raw2 (by omega), bind_s, page_Read_v1_eq _ (by rw [flip_length]; omega), bind_s, q8, bind_s, bind_s, idx_nat (by rw [flip_length]; omega), bind_s, m8, bind_s, bind_s, Int.toNat_natCast, flip_raw2 (by rw [flip_length]; omega), bind_s, page_Read_eq _ (by rw [flip_length, flip_length]; omega), bind_s, flip_one_read h hx]
    have hc2 : ((decide ((4 : Int) ≠ (4 : Int))) || ((decide ((x : Int) ≠ (y : Int))) && (decide ((ReadV (flip (flip (sealed (pInner p n)) x) y)).2 ≠ (4 : Int))))) = false := by
      by_cases hxy : x = y
      · subst hxy; simp
      · rw [flip_two_read h hx hy hxy]; simp
    rw [hc2, cond_f, bind_s, elS_inl]
    exact tail
  · have e0 : (PutV p s).2 = 1 := by unfold PutV; rw [if_neg h]
    rw [e0, cond_false (by decide), bind_s, elS_inl]
    exact tail
end Go.Proofs.Ytfdmajkeihdhnaa.Tr
