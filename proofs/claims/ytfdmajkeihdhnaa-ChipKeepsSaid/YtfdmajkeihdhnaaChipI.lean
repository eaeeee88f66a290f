/- Erasing a block of a chip: what it answers. Conditions: none. -/
import Derived.Test.YtfdmajkeihdhnaaChipG
namespace Go.Proofs.Ytfdmajkeihdhnaa.Tr
open Go
set_option linter.unusedVariables false
set_option linter.unusedSimpArgs false

/-- the first i mapped -/
def mapTo {α : Type} (f : α → α) (P : List α) (i : Nat) : List α := (P.take i).map f ++ P.drop i
theorem mapTo_zero {α : Type} (f : α → α) (P : List α) : mapTo f P 0 = P := by simp [mapTo]
theorem mapTo_all {α : Type} (f : α → α) (P : List α) : mapTo f P P.length = P.map f := by simp [mapTo]
theorem mapTo_length {α : Type} (f : α → α) (P : List α) {i : Nat} (h : i ≤ P.length) : (mapTo f P i).length = P.length := by simp [mapTo]; omega
theorem mapTo_get {α : Type} (f : α → α) (P : List α) {i : Nat} (h : i < P.length) : idx (mapTo f P i) (i : Int) = some P[i] := by
  unfold idx mapTo; rw [if_pos (by omega)]; show (_ ++ P.drop i)[i]? = _
  rw [List.getElem?_append_right (by simp; omega)]
  simp [Nat.min_eq_left (Nat.le_of_lt h), List.getElem?_drop, List.getElem?_eq_getElem h]
theorem mapTo_set {α : Type} (f : α → α) (P : List α) {i : Nat} (h : i < P.length) : (mapTo f P i).set i (f P[i]) = mapTo f P (i + 1) := by
  unfold mapTo
  rw [List.set_append_right _ _ (by simp; omega), List.take_succ_eq_append_getElem h, List.map_append]
  simp [Nat.min_eq_left (Nat.le_of_lt h)]
  rw [List.drop_eq_getElem_cons h]; rfl
theorem mapTo_set2 {α : Type} (f : α → α) (P : List α) {i : Nat} (h : i < P.length) (y z : α) : ((mapTo f P i).set i y).set i z = (mapTo f P i).set i z := by rw [List.set_set]

def eraseP (s : Fault × Bool) (x : List UInt8) : List UInt8 := if s.2 then x.map (fun y => y ||| s.1.Mask) else List.replicate x.length 255
def EraseV (c : Chip) (n : Int) : Chip × Int :=
  if hasB c n = true ∧ c.Ops < 1099511627776 then
    match c.Blocks[n.toNat]? with
    | none => (c, 1)
    | some b => if b.Worn ≥ 1099511627776 then (c, 1) else if c.Off then (c, 7) else if b.Bad then (c, 9) else
      (⟨c.Pages, c.Size, c.Blocks.set n.toNat ⟨b.Pages.map (eraseP (strikeV c)), if (strikeV c).2 then c.Pages else 0, b.Worn + 1, b.Bad⟩, c.Ops + 1, if (strikeV c).2 then (strikeV c).1.Cut else c.Off, c.Faults⟩,
        if (strikeV c).2 then (if (strikeV c).1.Cut then 7 else 9) else 0)
  else (c, 1)
theorem erase_eq {c : Chip} (n : Int) (hc : cRight c = true) : chip_Erase c n = some (EraseV c n) := by
  obtain ⟨h1, h2, h3, h4, h5, h6, h7, h8, h9, h10⟩ := cRight_spec hc
  unfold chip_Erase EraseV
  have hhas : chip_has c n = some (hasB c n) := has_eq c n
  rw [clone_right hc, bind_s, bind_s, hhas, bind_s]
  by_cases hok : hasB c n = true ∧ c.Ops < 1099511627776
  · obtain ⟨hh, hops⟩ := hok
    rw [if_pos ⟨hh, hops⟩]
    have hh2 := hh
    unfold hasB at hh2
    simp only [Bool.and_eq_true, decide_eq_true_eq, ge_iff_le] at hh2
    obtain ⟨⟨-, g1⟩, g2⟩ := hh2
    obtain ⟨k, rfl⟩ := Int.eq_ofNat_of_zero_le g1
    have hk : k < c.Blocks.length := by omega
    have hd : decide (c.Ops ≥ (1099511627776 : Int)) = false := by simp; omega
    rw [hd, hh, show (!((!true) || false)) = true from rfl, gb_true, idx_nat hk, bind_s, show ((k : Int)).toNat = k from rfl, List.getElem?_eq_getElem hk]
    dsimp only
    obtain ⟨b1, b2, b3, b4, b5, b6⟩ := h10 _ (List.getElem_mem hk)
    by_cases hw : c.Blocks[k].Worn ≥ 1099511627776
    · rw [cond_true (by simpa using hw), if_pos hw]
    · rw [cond_false (by simpa using hw), if_neg hw]
      cases ho : c.Off with
      | true => rw [cond_t, if_pos rfl, ← ho]
      | false =>
        rw [cond_f, if_neg (by decide), bind_s]
        cases hb : c.Blocks[k].Bad with
        | true => rw [cond_t, if_pos rfl, ← ho]
        | false =>
          rw [cond_f, if_neg (by decide), strikes_eq (by omega), bind_s, addI_ok (by omega) (by omega), bind_s, bind_s, addI_ok (by omega) (by omega), bind_s, bind_s]
          have hset : ∀ (y : Block), idx (c.Blocks.set k y) (k : Int) = some y := fun y => by
            unfold idx; rw [if_pos (by omega)]; show (c.Blocks.set k y)[k]? = _; rw [List.getElem?_set_self hk]
          have hset2 : ∀ (y z : Block), idx ((c.Blocks.set k y).set k z) (k : Int) = some z := fun y z => by rw [List.set_set]; exact hset z
          cases hs : (strikeV c).2 with
          | false =>
            have hm : c.Blocks[k].Pages.map (eraseP (strikeV c)) = c.Blocks[k].Pages.map fun x => List.replicate x.length 255 := by
              refine List.map_congr_left fun x _ => ?_
              unfold eraseP; rw [hs]; rfl
            rw [Bool.not_false, cond_t, hset, bind_s, bind_s]
            refine (bind_of (loopO_iter (fun i => ((i : Int), mapTo (fun x : List UInt8 => List.replicate x.length 255) c.Blocks[k].Pages i)) c.Blocks[k].Pages.length (e := c.Blocks[k].Pages.map fun x => List.replicate x.length 255) (by omega) (fun i hi => ?_) ?_ (by rw [mapTo_zero]; rfl))).trans ?_
            rotate_right
            · rw [lenI_ok (by simp), bind_s, hset2, bind_s, hm]
              simp
            · unfold chip_Erase_l1
              dsimp only
              rw [show decide ((i : Int) < c.Pages) = true by rw [← b1]; exact lt_t hi, cond_t, lenI_ok (mapTo_length _ _ (by omega)), bind_s, mapTo_get _ _ hi, bind_s, fill_ok (by have := b6 _ (List.getElem_mem hi); omega), bind_s, bind_s, addI_1 (by omega), bind_s]
              exact congrArg (fun z => some (Sum.inl (((i + 1 : Nat) : Int), z))) (mapTo_set (fun x : List UInt8 => List.replicate x.length 255) _ hi)
            · unfold chip_Erase_l1
              dsimp only
              rw [show decide ((c.Blocks[k].Pages.length : Int) < c.Pages) = false by rw [← b1]; exact lt_f, cond_f, mapTo_all]
          | true =>
            have hm : c.Blocks[k].Pages.map (eraseP (strikeV c)) = c.Blocks[k].Pages.map fun x => x.map fun y => y ||| (strikeV c).1.Mask := by
              refine List.map_congr_left fun x _ => ?_
              unfold eraseP; rw [hs]; rfl
            rw [Bool.not_true, cond_f, hset, bind_s, bind_s]
            refine (bind_of (loopO_iter (fun i => ((i : Int), mapTo (fun x : List UInt8 => x.map fun y => y ||| (strikeV c).1.Mask) c.Blocks[k].Pages i)) c.Blocks[k].Pages.length (e := c.Blocks[k].Pages.map fun x => x.map fun y => y ||| (strikeV c).1.Mask) (by omega) (fun i hi => ?_) ?_ (by rw [mapTo_zero]; rfl))).trans ?_
            rotate_right
            · unfold chip_struck
              cases hcut : (strikeV c).1.Cut
              · rw [cond_f, bind_s, bind_s, lenI_ok (by simp), bind_s, hset2, bind_s, hm]
                simp
              · rw [cond_t, bind_s, bind_s, lenI_ok (by simp), bind_s, hset2, bind_s, hm]
                simp
            · unfold chip_Erase_l2
              dsimp only
              rw [show decide ((i : Int) < c.Pages) = true by rw [← b1]; exact lt_t hi, cond_t]
              have hsz := b6 _ (List.getElem_mem hi)
              have hml := mapTo_length (fun x : List UInt8 => x.map fun y => y ||| (strikeV c).1.Mask) c.Blocks[k].Pages (Nat.le_of_lt hi)
              refine (bind_of (loopO_iter (fun j => ((j : Int), (mapTo (fun x : List UInt8 => x.map fun y => y ||| (strikeV c).1.Mask) c.Blocks[k].Pages i).set i (mapTo (fun y => y ||| (strikeV c).1.Mask) c.Blocks[k].Pages[i] j))) c.Blocks[k].Pages[i].length (e := mapTo (fun x : List UInt8 => x.map fun y => y ||| (strikeV c).1.Mask) c.Blocks[k].Pages (i + 1)) (by omega) (fun j hj => ?_) ?_ ?_)).trans ?_
              · unfold chip_Erase_l3
                dsimp only
                have hq : idx ((mapTo (fun x : List UInt8 => x.map fun y => y ||| (strikeV c).1.Mask) c.Blocks[k].Pages i).set i (mapTo (fun y => y ||| (strikeV c).1.Mask) c.Blocks[k].Pages[i] j)) (i : Int) = some (mapTo (fun y => y ||| (strikeV c).1.Mask) c.Blocks[k].Pages[i] j) := by
                  unfold idx; rw [if_pos (by omega)]; show (List.set _ i _)[i]? = _; rw [List.getElem?_set_self (by omega)]
                rw [show decide ((j : Int) < c.Size) = true by rw [← hsz]; exact lt_t hj, cond_t, lenI_ok (by rw [List.length_set]; exact hml), bind_s, hq, bind_s, mapTo_get _ _ hj, bind_s, bind_s, bind_s, addI_1 (by omega), bind_s]
                rw [show Int.toNat (i : Int) = i from rfl, show Int.toNat (j : Int) = j from rfl, List.set_set]
                exact congrArg (fun z => some (Sum.inl (((j + 1 : Nat) : Int), (mapTo (fun x : List UInt8 => x.map fun y => y ||| (strikeV c).1.Mask) c.Blocks[k].Pages i).set i z))) (mapTo_set (fun y => y ||| (strikeV c).1.Mask) _ hj)
              · unfold chip_Erase_l3
                dsimp only
                rw [show decide ((c.Blocks[k].Pages[i].length : Int) < c.Size) = false by rw [← hsz]; exact lt_f, cond_f, mapTo_all]
                exact congrArg (fun z => some (Sum.inr z)) (mapTo_set (fun x : List UInt8 => x.map fun y => y ||| (strikeV c).1.Mask) _ hi)
              · rw [mapTo_zero]
                have : (mapTo (fun x : List UInt8 => x.map fun y => y ||| (strikeV c).1.Mask) c.Blocks[k].Pages i).set i c.Blocks[k].Pages[i] = mapTo (fun x : List UInt8 => x.map fun y => y ||| (strikeV c).1.Mask) c.Blocks[k].Pages i := by
                  have h5 := mapTo_get (fun x : List UInt8 => x.map fun y => y ||| (strikeV c).1.Mask) c.Blocks[k].Pages hi
                  obtain ⟨-, h6⟩ := idx_some h5
                  obtain ⟨h7, h8⟩ := List.getElem?_eq_some_iff.1 h6
                  rw [← h8]
                  exact List.set_getElem_self _
                rw [this]; rfl
              · rw [addI_1 (by omega), bind_s]
            · unfold chip_Erase_l2
              dsimp only
              rw [show decide ((c.Blocks[k].Pages.length : Int) < c.Pages) = false by rw [← b1]; exact lt_f, cond_f, mapTo_all]
  · rw [if_neg hok]
    have hf : (!((!(hasB c n)) || decide (c.Ops ≥ (1099511627776 : Int)))) = false := by
      cases hh : hasB c n with
      | false => rfl
      | true =>
        have : c.Ops ≥ 1099511627776 := by
          rcases Int.lt_or_le c.Ops 1099511627776 with h | h
          · exact absurd ⟨hh, h⟩ hok
          · exact h
        simp [this]
    rw [hf, gb_false, bind_s]
    have ht : ((!(hasB c n)) || decide (c.Ops ≥ (1099511627776 : Int))) = true := by rw [← Bool.not_eq_false']; exact hf
    rw [cond_true (by rw [ht]; rfl)]
end Go.Proofs.Ytfdmajkeihdhnaa.Tr
