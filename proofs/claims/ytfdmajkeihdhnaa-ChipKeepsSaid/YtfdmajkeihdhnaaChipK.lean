/- The law ChipStill. Conditions: none. -/
import Derived.Test.YtfdmajkeihdhnaaChipJ
namespace Go.Proofs.Ytfdmajkeihdhnaa.Tr
open Go
set_option linter.unusedVariables false
set_option linter.unusedSimpArgs false

theorem same_self {c : Chip} (hc : cRight c = true) : bywayref06_Same c c = some true := by
  obtain ⟨h1, h2, h3, h4, h5, h6, h7, h8, h9, h10⟩ := cRight_spec hc
  unfold bywayref06_Same
  rw [cond_false (by simp)]
  rw [loopO_all (f := fun s => bywayref06_Same_l1 c c s) c.Faults (fun _ => true) (by omega) (fun i hi => by
    unfold bywayref06_Same_l1
    rw [lt_t hi, cond_t, idx_nat hi, bind_s, bind_s, cond_false (by simp), addI_1 (by omega), bind_s, if_pos rfl]) (by unfold bywayref06_Same_l1; rw [lt_f, cond_f]), bind_s, if_pos (by simp), elS_inl]
  rw [loopO_all (f := fun s => bywayref06_Same_l2 c c s) c.Blocks (fun _ => true) (by omega) (fun i hi => by
    have := (h10 _ (List.getElem_mem hi)).1
    unfold bywayref06_Same_l2
    rw [lt_t hi, cond_t, idx_nat hi, bind_s, bind_s, refBlocks_eq _ _ (by omega), bind_s, cond_false (by simp), addI_1 (by omega), bind_s, if_pos rfl]) (by unfold bywayref06_Same_l2; rw [lt_f, cond_f]), bind_s, if_pos (by simp), elS_inl]
/-- what programming a block leaves -/
theorem prog_cases {c : Chip} {k : Nat} (hk : k < c.Blocks.length) (page : Int) (p : List UInt8) (hc : cRight c = true) :
    ((ProgV c k page p).1 = c ∧ (ProgV c k page p).2 ≠ 0) ∨
    (c.Blocks[k].Bad = false ∧ 0 ≤ page ∧ page < c.Pages ∧ (p.length : Int) = c.Size ∧ page = c.Blocks[k].Used ∧ c.Ops < 1099511627776 ∧
      ProgV c k page p = (⟨c.Pages, c.Size, c.Blocks.set k ⟨c.Blocks[k].Pages.set page.toNat (maskOf (strikeV c) p), c.Blocks[k].Used + 1, c.Blocks[k].Worn, c.Blocks[k].Bad⟩, c.Ops + 1, if (strikeV c).2 then (strikeV c).1.Cut else c.Off, c.Faults⟩,
        if (strikeV c).2 then (if (strikeV c).1.Cut then 7 else 9) else 0)) := by
  unfold ProgV
  by_cases hok : progOk c k page p = true
  · rw [if_pos hok]
    unfold progOk at hok
    simp only [Bool.and_eq_true, decide_eq_true_eq, ge_iff_le] at hok
    obtain ⟨⟨⟨-, g1⟩, g2⟩, g3, g4, g5, g6⟩ := hok
    cases ho : c.Off with
    | true => left; rw [if_pos rfl]; exact ⟨rfl, by simp⟩
    | false =>
      rw [if_neg (by decide), show ((k : Int)).toNat = k from rfl, List.getElem?_eq_getElem hk]
      dsimp only
      by_cases hb : c.Blocks[k].Bad = true ∨ page ≠ c.Blocks[k].Used
      · left; rw [if_pos hb]; exact ⟨rfl, by simp⟩
      · right
        rw [if_neg hb]
        simp only [not_or, Bool.not_eq_true, ne_eq, Decidable.not_not] at hb
        exact ⟨hb.1, g3, g4, g5, hb.2, g6, rfl⟩
  · left; rw [if_neg hok]; exact ⟨rfl, by simp⟩
theorem erase_cases {c : Chip} {k : Nat} (hk : k < c.Blocks.length) (hc : cRight c = true) :
    ((EraseV c k).1 = c ∧ (EraseV c k).2 ≠ 0) ∨
    (c.Blocks[k].Bad = false ∧ c.Blocks[k].Worn < 1099511627776 ∧ c.Ops < 1099511627776 ∧
      EraseV c k = (⟨c.Pages, c.Size, c.Blocks.set k ⟨c.Blocks[k].Pages.map (eraseP (strikeV c)), if (strikeV c).2 then c.Pages else 0, c.Blocks[k].Worn + 1, c.Blocks[k].Bad⟩, c.Ops + 1, if (strikeV c).2 then (strikeV c).1.Cut else c.Off, c.Faults⟩,
        if (strikeV c).2 then (if (strikeV c).1.Cut then 7 else 9) else 0)) := by
  unfold EraseV
  by_cases hok : hasB c k = true ∧ c.Ops < 1099511627776
  · rw [if_pos hok, show ((k : Int)).toNat = k from rfl, List.getElem?_eq_getElem hk]
    dsimp only
    by_cases hw : c.Blocks[k].Worn ≥ 1099511627776
    · left; rw [if_pos hw]; exact ⟨rfl, by simp⟩
    · rw [if_neg hw]
      cases ho : c.Off with
      | true => left; rw [if_pos rfl]; exact ⟨rfl, by simp⟩
      | false =>
        rw [if_neg (by decide)]
        cases hb : c.Blocks[k].Bad with
        | true => left; rw [if_pos rfl]; exact ⟨rfl, by simp⟩
        | false => right; rw [if_neg (by decide)]; exact ⟨rfl, by omega, hok.2, rfl⟩
  · left; rw [if_neg hok]; exact ⟨rfl, by simp⟩
theorem mark_cases {c : Chip} {k : Nat} (hk : k < c.Blocks.length) (hc : cRight c = true) :
    (MarkV c k).2 ≠ 0 ∨ MarkV c k = (⟨c.Pages, c.Size, c.Blocks.set k ⟨c.Blocks[k].Pages, c.Blocks[k].Used, c.Blocks[k].Worn, true⟩, c.Ops, c.Off, c.Faults⟩, 0) := by
  unfold MarkV
  by_cases hok : hasB c k = true
  · rw [if_pos hok, show ((k : Int)).toNat = k from rfl, List.getElem?_eq_getElem hk]
    dsimp only
    cases ho : c.Off with
    | true => left; rw [if_pos rfl]; simp
    | false => right; rw [if_neg (by decide)]
  · left; rw [if_neg hok]; simp
end Go.Proofs.Ytfdmajkeihdhnaa.Tr
