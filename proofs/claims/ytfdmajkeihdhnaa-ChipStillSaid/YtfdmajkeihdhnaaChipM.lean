/- The law ChipStill, whole. Conditions: none. -/
import Derived.Test.YtfdmajkeihdhnaaChipL
namespace Go.Proofs.Ytfdmajkeihdhnaa.Tr
open Go
set_option linter.unusedVariables false
set_option linter.unusedSimpArgs false

theorem idx_set {α : Type} {l : List α} {k i : Nat} {y : α} (hi : i < l.length) : idx (l.set k y) (i : Int) = some (if k = i then y else l[i]) := by
  have h2 : i < (l.set k y).length := by simpa using hi
  rw [idx_nat h2, List.getElem_set]
theorem still_l1 {c : Chip} {k : Nat} (hk : k < c.Blocks.length) (hc : cRight c = true) (r5 r7 : Chip × Int)
    (h5 : ∀ i (h : i < c.Blocks.length), i ≠ k → idx r5.1.Blocks (i : Int) = some c.Blocks[i]) (h7 : ∀ i (h : i < c.Blocks.length), i ≠ k → idx r7.1.Blocks (i : Int) = some c.Blocks[i]) :
    loopO (fun s => bywaylaw06_ChipStill_l1 c k r5 r7 s) (0 : Int) = some (.inl ()) := by
  obtain ⟨-, h2, -, h4, -, -, -, -, -, h10⟩ := cRight_spec hc
  refine loopO_iter (fun i => (i : Int)) c.Blocks.length (by omega) (fun i hi => ?_) ?_ rfl
  · unfold bywaylaw06_ChipStill_l1
    rw [lt_t hi, cond_t]
    by_cases hik : i = k
    · subst hik
      have hd : decide ((i : Int) ≠ (i : Int)) = false := by simp
      simp only [hd, gb_false, Bool.false_and, bind_s]
      rw [cond_f, addI_1 (by omega), bind_s]
    · have hd : decide ((i : Int) ≠ (k : Int)) = true := by simp; omega
      have hb := (h10 _ (List.getElem_mem hi)).1
      rw [hd, gb_true, h5 i hi hik, bind_s, gb_true, idx_nat hi, bind_s, gb_true, refBlocks_eq _ _ (by omega), bind_s]
      rw [show ((true : Bool) && (!(!decide (c.Blocks[i] = c.Blocks[i])))) = true by simp, gb_true, h7 i hi hik, bind_s, gb_true, bind_s, gb_true, refBlocks_eq _ _ (by omega), bind_s]
      rw [show ((true : Bool) && ((!decide (c.Blocks[i] = c.Blocks[i])) || (!decide (c.Blocks[i] = c.Blocks[i])))) = false by simp, cond_f, addI_1 (by omega), bind_s]
  · unfold bywaylaw06_ChipStill_l1
    rw [lt_f, cond_f]
theorem still_l2 {c : Chip} {k : Nat} (hk : k < c.Blocks.length) (hc : cRight c = true) (page : Int) (r5 : Chip × Int) {b : Block} (hb : idx r5.1.Blocks (k : Int) = some b)
    (h5 : ∀ i (h : i < c.Blocks[k].Pages.length), (i : Int) ≠ page → idx b.Pages (i : Int) = some c.Blocks[k].Pages[i]) :
    loopO (fun s => bywaylaw06_ChipStill_l2 c k page r5 s) (0 : Int) = some (.inl ()) := by
  obtain ⟨-, h2, -, h4, -, -, -, -, -, h10⟩ := cRight_spec hc
  have hl := (h10 _ (List.getElem_mem hk)).1
  refine loopO_iter (fun i => (i : Int)) c.Blocks[k].Pages.length (by omega) (fun i hi => ?_) ?_ rfl
  · unfold bywaylaw06_ChipStill_l2
    rw [show decide ((i : Int) < c.Pages) = true by rw [← hl]; exact lt_t hi, cond_t]
    by_cases hik : (i : Int) = page
    · have hd : decide ((i : Int) ≠ page) = false := by simp [hik]
      simp only [hd, gb_false, Bool.false_and, bind_s]
      rw [cond_f, addI_1 (by omega), bind_s]
    · have hd : decide ((i : Int) ≠ page) = true := by simp [hik]
      rw [hd, gb_true, hb, bind_s, gb_true, h5 i hi hik, bind_s, gb_true, idx_nat hk, bind_s, gb_true, idx_nat hi, bind_s]
      rw [show ((true : Bool) && (decide (c.Blocks[k].Pages[i] ≠ c.Blocks[k].Pages[i]))) = false by simp, cond_f, addI_1 (by omega), bind_s]
  · unfold bywaylaw06_ChipStill_l2
    rw [show decide ((c.Blocks[k].Pages.length : Int) < c.Pages) = false by rw [← hl]; exact lt_f, cond_f]
theorem chipStill_plain (c0 : Chip) (block0 page0 : Int) (p0 : List UInt8) : bywaylaw06_ChipStill c0 block0 page0 p0 = some true := by
  unfold bywaylaw06_ChipStill
  rw [chip_awake_eq, bind_s, Bool.not_true, cond_f]
  obtain ⟨sh, e⟩ := refShort_some c0
  rw [e, bind_s, gb_of2 (chip_Right_eq c0), bind_s]
  cases hcond : (((((!sh) || (decide ((p0.length : Int) > (300 : Int)))) || (!(bif (!((!sh) || (decide ((p0.length : Int) > (300 : Int))))) then cRight c0 else default))) || (decide (block0 < (0 : Int)))) || (decide (block0 ≥ (c0.Blocks.length : Int)))) with
  | true => rw [cond_t]
  | false =>
    rw [cond_f]
    simp only [Bool.or_eq_false_iff, decide_eq_false_iff_not, Bool.not_eq_false'] at hcond
    obtain ⟨⟨⟨⟨hs, hp⟩, hc⟩, hb0⟩, hb1⟩ := hcond
    have hg : (!((!sh) || (decide ((p0.length : Int) > (300 : Int))))) = true := by simp [hs]; omega
    rw [hg, cond_t] at hc
    obtain ⟨k, rfl⟩ := Int.eq_ofNat_of_zero_le (show 0 ≤ block0 by omega)
    have hk : k < c0.Blocks.length := by omega
    rw [prog_eq _ _ _ hc, bind_s, erase_eq _ hc, bind_s, mark_eq _ hc, bind_s, idx_nat hk, bind_s]
    have c5 := prog_cases hk page0 p0 hc
    have c7 := erase_cases hk hc
    have c9 := mark_cases hk hc
    generalize hr5 : ProgV c0 (k : Int) page0 p0 = r5 at *
    generalize hr7 : EraseV c0 (k : Int) = r7 at *
    generalize hr9 : MarkV c0 (k : Int) = r9 at *
    obtain ⟨-, -, -, hpm, -, -, hops0, hops, -, h10⟩ := cRight_spec hc
    obtain ⟨hpl, hu0, hu1, hw0, hw1, -⟩ := h10 _ (List.getElem_mem hk)
    have c5' : (r5.1 = c0 ∧ r5.2 ≠ 0) ∨ (c0.Blocks[k].Bad = false ∧ 0 ≤ page0 ∧ page0 < c0.Pages ∧ page0 = c0.Blocks[k].Used ∧ c0.Ops < 1099511627776 ∧ ∃ y off, r5.1 = ⟨c0.Pages, c0.Size, c0.Blocks.set k ⟨c0.Blocks[k].Pages.set page0.toNat y, c0.Blocks[k].Used + 1, c0.Blocks[k].Worn, c0.Blocks[k].Bad⟩, c0.Ops + 1, off, c0.Faults⟩ ∧ (r5.2 = 0 → y = p0)) := by
      rcases c5 with h | ⟨h1, h2, h3, h4, h5, h6, h7⟩
      · exact .inl h
      · refine .inr ⟨h1, h2, h3, h5, h6, _, _, by rw [h7], fun h => ?_⟩
        rw [h7] at h
        unfold maskOf
        cases hst : (strikeV c0).2 with
        | false => rfl
        | true => exfalso; simp only [hst, if_true] at h; split at h <;> cases h
    have c7' : (r7.1 = c0 ∧ r7.2 ≠ 0) ∨ (c0.Blocks[k].Bad = false ∧ c0.Blocks[k].Worn < 1099511627776 ∧ ∃ ps u ops off, r7.1 = ⟨c0.Pages, c0.Size, c0.Blocks.set k ⟨ps, u, c0.Blocks[k].Worn + 1, c0.Blocks[k].Bad⟩, ops, off, c0.Faults⟩ ∧ (r7.2 = 0 → u = 0)) := by
      rcases c7 with h | ⟨h1, h2, h3, h7⟩
      · exact .inl h
      · refine .inr ⟨h1, h2, _, _, _, _, by rw [h7], fun h => ?_⟩
        rw [h7] at h
        cases hst : (strikeV c0).2 with
        | false => rfl
        | true => exfalso; simp only [hst, if_true] at h; split at h <;> cases h
    obtain ⟨⟨v1, e1, f1⟩, hh⟩ := chipStill_core hk page0 p0 hc r5 r7 r9 c5' c7' c9
    rw [e1, bind_s]
    obtain ⟨v2, e2, f2⟩ := hh (!(!v1))
    rw [e2, bind_s]
    have hbad : (c0.Blocks[k].Bad && ((!v1) || (!v2))) = false := by
      cases hb : c0.Blocks[k].Bad with
      | false => rfl
      | true => rw [f1 hb]; rw [f2 hb (by rw [f1 hb]; rfl)]; rfl
    rw [hbad, Bool.not_false]
    obtain ⟨y, e3, f3⟩ := chipStill_mark hk r9 c9
    rw [e3, bind_s, f3, Bool.or_self, cond_f]
    have g5 : ∀ i (h : i < c0.Blocks.length), i ≠ k → idx r5.1.Blocks (i : Int) = some c0.Blocks[i] := fun i hi hik => by
      rcases c5' with ⟨h, -⟩ | ⟨-, -, -, -, -, y, off, h, -⟩
      · rw [h, idx_nat hi]
      · rw [h]; dsimp only; rw [idx_set hi, if_neg (Ne.symm hik)]
    have g7 : ∀ i (h : i < c0.Blocks.length), i ≠ k → idx r7.1.Blocks (i : Int) = some c0.Blocks[i] := fun i hi hik => by
      rcases c7' with ⟨h, -⟩ | ⟨-, -, ps, u, ops, off, h, -⟩
      · rw [h, idx_nat hi]
      · rw [h]; dsimp only; rw [idx_set hi, if_neg (Ne.symm hik)]
    rw [still_l1 hk hc r5 r7 g5 g7, bind_s, elS_inl]
    -- what was programmed without a fault
    have l2 : loopO (fun s => bywaylaw06_ChipStill_l2 c0 k page0 r5 s) (0 : Int) = some (.inl ()) := by
      rcases c5' with ⟨h, -⟩ | ⟨-, hp0, hp1, -, -, y, off, h, -⟩
      · exact still_l2 hk hc page0 r5 (by rw [h]; exact idx_nat hk) fun i hi _ => idx_nat hi
      · refine still_l2 hk hc page0 r5 (b := ⟨c0.Blocks[k].Pages.set page0.toNat y, c0.Blocks[k].Used + 1, c0.Blocks[k].Worn, c0.Blocks[k].Bad⟩) (by rw [h]; dsimp only; rw [idx_set hk, if_pos rfl]) fun i hi hip => ?_
        dsimp only
        rw [idx_set hi, if_neg (by omega)]
    have hend : ((gb (decide (r7.2 = (0 : Int))) (idx r7.1.Blocks (k : Int))).bind fun x_31 => (gb ((decide (r7.2 = (0 : Int))) && (!(decide (x_31.Used ≠ (0 : Int))))) (idx r7.1.Blocks (k : Int))).bind fun x_32 => (gb ((decide (r7.2 = (0 : Int))) && (!(decide (x_31.Used ≠ (0 : Int))))) (some c0.Blocks[k])).bind fun x_33 => (gb ((decide (r7.2 = (0 : Int))) && (!(decide (x_31.Used ≠ (0 : Int))))) (addI x_33.Worn (1 : Int))).bind fun x_34 => bif ((decide (r7.2 = (0 : Int))) && ((decide (x_31.Used ≠ (0 : Int))) || (decide (x_32.Worn ≠ x_34)))) then (some false) else ((loopO (fun s => bywaylaw06_ChipStill_l2 c0 (k : Int) page0 r5 s) (0 : Int)).bind fun o_35 => elS o_35 (fun _ => some true) (fun q => some q))) = some true := by
      by_cases h0 : r7.2 = 0
      · rcases c7' with ⟨-, h⟩ | ⟨-, hw, ps, u, ops, off, h, hu⟩
        · exact absurd h0 h
        · have hi : idx r7.1.Blocks (k : Int) = some ⟨ps, u, c0.Blocks[k].Worn + 1, c0.Blocks[k].Bad⟩ := by rw [h]; dsimp only; rw [idx_set hk, if_pos rfl]
          obtain rfl := hu h0
          rw [decide_eq_true h0, gb_true, hi, bind_s]
          dsimp only
          rw [show ((true : Bool) && (!(decide ((0 : Int) ≠ 0)))) = true by simp, gb_true, bind_s, gb_true, bind_s, gb_true, addI_ok (by omega) (by omega), bind_s, cond_false (by simp), l2, bind_s, elS_inl]
      · simp only [decide_eq_false h0, Bool.false_and, gb_false, bind_s, cond_f]
        rw [l2, bind_s, elS_inl]
    by_cases h0 : r5.2 = 0
    · rcases c5' with ⟨-, h⟩ | ⟨-, hp0, hp1, hpu, hop, y, off, h, hy⟩
      · exact absurd h0 h
      · obtain rfl := hy h0
        have hi : idx r5.1.Blocks (k : Int) = some ⟨c0.Blocks[k].Pages.set page0.toNat y, c0.Blocks[k].Used + 1, c0.Blocks[k].Worn, c0.Blocks[k].Bad⟩ := by rw [h]; dsimp only; rw [idx_set hk, if_pos rfl]
        obtain ⟨q, hq⟩ := Int.eq_ofNat_of_zero_le hp0
        have hql : q < c0.Blocks[k].Pages.length := by omega
        have hpg : idx (c0.Blocks[k].Pages.set page0.toNat y) page0 = some y := by
          rw [hq, show Int.toNat (q : Int) = q from rfl, idx_set hql, if_pos rfl]
        have hro : r5.1.Ops = c0.Ops + 1 := by rw [h]
        rw [decide_eq_true h0, gb_true, hi, bind_s, gb_true]
        dsimp only
        rw [hpg, bind_s, show ((true : Bool) && (!(decide (y ≠ y)))) = true by simp, gb_true, bind_s, gb_true, addI_ok (by omega) (by omega), bind_s]
        dsimp only
        rw [show ((true : Bool) && (!((decide (y ≠ y)) || (decide (c0.Blocks[k].Used + 1 ≠ page0 + 1))))) = true by simp [hpu], gb_true, addI_ok (by omega) (by omega), bind_s, hro, cond_false (by simp [hpu])]
        exact hend
    · simp only [decide_eq_false h0, Bool.false_and, gb_false, bind_s, cond_f]
      exact hend
end Go.Proofs.Ytfdmajkeihdhnaa.Tr
