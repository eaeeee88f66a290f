/- Chips held against each other, and short ones. Conditions: none. -/
import Derived.Test.YtfdmajkeihdhnaaChipI
namespace Go.Proofs.Ytfdmajkeihdhnaa.Tr
open Go
set_option linter.unusedVariables false
set_option linter.unusedSimpArgs false

theorem chip_awake_eq : bywaylaw06_awake = some true := by decide +kernel
theorem refBlocks_eq (a b : Block) (h : a.Pages.length < 1000000) : bywayref06_Blocks a b = some (decide (a = b)) := by
  unfold bywayref06_Blocks
  cases hc : ((((decide (a.Used ≠ b.Used)) || (decide (a.Worn ≠ b.Worn))) || (decide (a.Bad ≠ b.Bad))) || (decide ((a.Pages.length : Int) ≠ (b.Pages.length : Int)))) with
  | true =>
    have : ¬ a = b := fun e => by subst e; simp at hc
    rw [cond_t, decide_eq_false this]
  | false =>
    have hc2 := hc
    simp only [Bool.or_eq_false_iff, decide_eq_false_iff_not, ne_eq, Decidable.not_not] at hc2
    obtain ⟨⟨⟨g1, g2⟩, g3⟩, g4⟩ := hc2
    have g5 : a.Pages.length = b.Pages.length := by omega
    rw [cond_f, loopO_all (f := fun s => bywayref06_Blocks_l1 a b s) (List.range a.Pages.length) (fun i => decide (a.Pages[i]? = b.Pages[i]?)) (by simp; omega) (fun i hi => ?_) (by unfold bywayref06_Blocks_l1; rw [List.length_range, lt_f, cond_f])]
    · rw [bind_s]
      by_cases hp : a.Pages = b.Pages
      · have : a = b := by cases a; cases b; simp_all
        rw [if_pos (by rw [hp]; simp), elS_inl, decide_eq_true this]
      · have h2 : ¬ a = b := fun e => hp (by rw [e])
        have h3 : ¬ (List.range a.Pages.length).all (fun i => decide (a.Pages[i]? = b.Pages[i]?)) = true := fun h => hp (List.ext_getElem g5 fun i h1 h2 => by
          have := List.all_eq_true.1 h i (List.mem_range.2 h1)
          simpa [List.getElem?_eq_getElem h1, List.getElem?_eq_getElem h2] using this)
        rw [if_neg h3, elS_inr, decide_eq_false h2]
    · rw [List.length_range] at hi
      have hi2 : i < b.Pages.length := by omega
      unfold bywayref06_Blocks_l1
      rw [lt_t hi, cond_t, idx_nat hi, bind_s, idx_nat hi2, bind_s]
      by_cases hp : a.Pages[i] = b.Pages[i]
      · rw [cond_false (by simp [hp]), addI_1 (by omega), bind_s, if_pos (by simp [List.getElem?_eq_getElem hi, List.getElem?_eq_getElem hi2, hp])]
      · rw [cond_true (by simp [hp]), if_neg (by simp [List.getElem?_eq_getElem hi, List.getElem?_eq_getElem hi2, hp])]
theorem refShort_some (c : Chip) : ∃ r, bywayref06_Short c = some r := by
  unfold bywayref06_Short
  cases hc : ((decide ((c.Blocks.length : Int) > (40 : Int))) || (decide ((c.Faults.length : Int) > (80 : Int)))) with
  | true => exact ⟨false, by rw [cond_t]⟩
  | false =>
    have hc2 := hc
    simp only [Bool.or_eq_false_iff, decide_eq_false_iff_not] at hc2
    rw [cond_f, loopO_all (f := fun s => bywayref06_Short_l1 c s) c.Blocks (fun b => !(decide ((b.Pages.length : Int) > (20 : Int))) && b.Pages.all fun p => !(decide ((p.length : Int) > (300 : Int)))) (by omega) (fun i hi => ?_) (by unfold bywayref06_Short_l1; rw [lt_f, cond_f])]
    · rw [bind_s]
      split
      · exact ⟨true, by rw [elS_inl]⟩
      · exact ⟨false, by rw [elS_inr]⟩
    · unfold bywayref06_Short_l1
      rw [lt_t hi, cond_t, idx_nat hi, bind_s]
      cases hb : decide ((c.Blocks[i].Pages.length : Int) > (20 : Int)) with
      | true => rw [cond_t]; rfl
      | false =>
        have hb2 := of_decide_eq_false hb
        rw [cond_f, loopO_all (f := fun s => bywayref06_Short_l2 c i s) c.Blocks[i].Pages (fun p => !(decide ((p.length : Int) > (300 : Int)))) (by omega) (fun j hj => ?_) (by unfold bywayref06_Short_l2; rw [idx_nat hi, bind_s, lt_f, cond_f])]
        · rw [bind_s, Bool.not_false, Bool.true_and]
          split
          · rw [elS_inl, addI_1 (by omega), bind_s]
          · rw [elS_inr]
        · unfold bywayref06_Short_l2
          rw [idx_nat hi, bind_s, lt_t hj, cond_t, bind_s, idx_nat hj, bind_s]
          cases hp : decide ((c.Blocks[i].Pages[j].length : Int) > (300 : Int)) with
          | true => rw [cond_t]; rfl
          | false => rw [cond_f, addI_1 (by omega), bind_s]; rfl
end Go.Proofs.Ytfdmajkeihdhnaa.Tr
