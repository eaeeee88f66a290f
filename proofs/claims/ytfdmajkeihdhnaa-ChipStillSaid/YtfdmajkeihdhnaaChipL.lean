/- The law ChipStill. Conditions: none. -/
import Derived.Test.YtfdmajkeihdhnaaChipK
namespace Go.Proofs.Ytfdmajkeihdhnaa.Tr
open Go
set_option linter.unusedVariables false
set_option linter.unusedSimpArgs false

theorem chipStill_core {c : Chip} {k : Nat} (hk : k < c.Blocks.length) (page : Int) (p : List UInt8) (hc : cRight c = true) (r5 r7 r9 : Chip × Int)
    (c5 : (r5.1 = c ∧ r5.2 ≠ 0) ∨ (c.Blocks[k].Bad = false ∧ 0 ≤ page ∧ page < c.Pages ∧ page = c.Blocks[k].Used ∧ c.Ops < 1099511627776 ∧ ∃ y off, r5.1 = ⟨c.Pages, c.Size, c.Blocks.set k ⟨c.Blocks[k].Pages.set page.toNat y, c.Blocks[k].Used + 1, c.Blocks[k].Worn, c.Blocks[k].Bad⟩, c.Ops + 1, off, c.Faults⟩ ∧ (r5.2 = 0 → y = p)))
    (c7 : (r7.1 = c ∧ r7.2 ≠ 0) ∨ (c.Blocks[k].Bad = false ∧ c.Blocks[k].Worn < 1099511627776 ∧ ∃ ps u ops off, r7.1 = ⟨c.Pages, c.Size, c.Blocks.set k ⟨ps, u, c.Blocks[k].Worn + 1, c.Blocks[k].Bad⟩, ops, off, c.Faults⟩ ∧ (r7.2 = 0 → u = 0)))
    (c9 : r9.2 ≠ 0 ∨ r9 = (⟨c.Pages, c.Size, c.Blocks.set k ⟨c.Blocks[k].Pages, c.Blocks[k].Used, c.Blocks[k].Worn, true⟩, c.Ops, c.Off, c.Faults⟩, 0)) :
    (∃ v, gb c.Blocks[k].Bad (bywayref06_Same r5.1 c) = some v ∧ (c.Blocks[k].Bad = true → v = true)) ∧ (∀ g, ∃ v, gb (c.Blocks[k].Bad && g) (bywayref06_Same r7.1 c) = some v ∧ (c.Blocks[k].Bad = true → g = true → v = true)) := by
  constructor
  · cases hb : c.Blocks[k].Bad with
    | false => exact ⟨default, gb_false, fun h => by cases h⟩
    | true =>
      rcases c5 with ⟨e, -⟩ | ⟨h, -⟩
      · exact ⟨true, by rw [gb_true, e, same_self hc], fun _ => rfl⟩
      · rw [hb] at h; cases h
  · intro g
    cases hb : c.Blocks[k].Bad with
    | false => exact ⟨default, by rw [Bool.false_and, gb_false], fun h => by cases h⟩
    | true =>
      rcases c7 with ⟨e, -⟩ | ⟨h, -⟩
      · cases g with
        | false => exact ⟨default, by rw [Bool.and_false, gb_false], fun _ h => by cases h⟩
        | true => exact ⟨true, by rw [Bool.and_true, gb_true, e, same_self hc], fun _ _ => rfl⟩
      · rw [hb] at h; cases h
theorem chipStill_mark {c : Chip} {k : Nat} (hk : k < c.Blocks.length) (r9 : Chip × Int) (c9 : r9.2 ≠ 0 ∨ r9 = (⟨c.Pages, c.Size, c.Blocks.set k ⟨c.Blocks[k].Pages, c.Blocks[k].Used, c.Blocks[k].Worn, true⟩, c.Ops, c.Off, c.Faults⟩, 0)) :
    ∃ y, gb ((true && decide (r9.2 = (0 : Int))) && (!(decide (r9.1.Ops ≠ c.Ops)))) (idx r9.1.Blocks (k : Int)) = some y ∧ ((decide (r9.2 = (0 : Int))) && ((decide (r9.1.Ops ≠ c.Ops)) || (!y.Bad))) = false := by
  rcases c9 with h | h
  · refine ⟨default, ?_, by simp [h]⟩
    rw [decide_eq_false h, Bool.and_false, Bool.false_and, gb_false]
  · subst h
    refine ⟨⟨c.Blocks[k].Pages, c.Blocks[k].Used, c.Blocks[k].Worn, true⟩, ?_, by simp⟩
    rw [show ((true && decide ((0 : Int) = 0)) && (!(decide (c.Ops ≠ c.Ops)))) = true by simp, gb_true]
    unfold idx; rw [if_pos (by omega)]; show (c.Blocks.set k _)[k]? = _; rw [List.getElem?_set_self hk]
end Go.Proofs.Ytfdmajkeihdhnaa.Tr
