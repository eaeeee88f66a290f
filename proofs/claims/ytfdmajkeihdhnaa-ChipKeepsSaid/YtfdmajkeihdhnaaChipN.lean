/- New chips, reading, the power that comes: what they answer. Conditions: none. -/
import Derived.Test.YtfdmajkeihdhnaaChipK
namespace Go.Proofs.Ytfdmajkeihdhnaa.Tr
open Go
set_option linter.unusedVariables false
set_option linter.unusedSimpArgs false

theorem idx_set' {α : Type} {l : List α} {k i : Nat} {y : α} (hi : i < l.length) : idx (l.set k y) (i : Int) = some (if k = i then y else l[i]) := by
  have h2 : i < (l.set k y).length := by simpa using hi
  rw [idx_nat h2, List.getElem_set]
/-- the first i put in, the others as they were -/
def fillTo {α : Type} (x y : α) (n i : Nat) : List α := List.replicate i x ++ List.replicate (n - i) y
theorem fillTo_zero {α : Type} (x y : α) (n : Nat) : fillTo x y n 0 = List.replicate n y := by simp [fillTo]
theorem fillTo_all {α : Type} (x y : α) (n : Nat) : fillTo x y n n = List.replicate n x := by simp [fillTo]
theorem fillTo_length {α : Type} (x y : α) {n i : Nat} (h : i ≤ n) : (fillTo x y n i).length = n := by simp [fillTo]; omega
theorem fillTo_get {α : Type} (x y : α) {n i : Nat} (h : i < n) : idx (fillTo x y n i) (i : Int) = some y := by
  have hl := fillTo_length x y (Nat.le_of_lt h)
  rw [idx_nat (by omega)]
  simp [fillTo, List.getElem_append]
theorem fillTo_set {α : Type} (x y : α) {n i : Nat} (h : i < n) : (fillTo x y n i).set i x = fillTo x y n (i + 1) := by
  unfold fillTo
  rw [List.set_append_right _ _ (by simp), List.replicate_succ', List.append_assoc, List.length_replicate, Nat.sub_self]
  congr 1
  rw [show n - i = (n - (i + 1)) + 1 by omega, List.replicate_succ, List.set_cons_zero]
  rfl
def newBlock (p s : Nat) : Block := ⟨List.replicate p (List.replicate s 255), 0, 0, false⟩
def newChip (b p s : Nat) : Chip := ⟨p, s, List.replicate b (newBlock p s), 0, false, []⟩
theorem new_eq {b p s : Nat} (h : cSound b p s = true) : chip_New b p s = some (newChip b p s, 0) := by
  have hs := h
  unfold cSound at hs
  simp only [Bool.and_eq_true, decide_eq_true_eq, ge_iff_le] at hs
  obtain ⟨⟨⟨⟨⟨h1, h2⟩, h3⟩, h4⟩, h5⟩, h6⟩ := hs
  unfold chip_New chip_sound
  rw [bind_s]
  show (bif (!(cSound b p s)) then _ else _) = _
  rw [h, Bool.not_true, cond_f, room_ok (by omega) (by omega) (by omega), bind_s, bind_s, bind_s]
  refine (bind_of (loopO_iter (fun i => ((i : Int), fillTo (newBlock p s) Dat.z b i)) b (e := List.replicate b (newBlock p s)) (by omega) (fun i hi => ?_) ?_ ?_)).trans ?_
  rotate_right
  · rfl
  · unfold chip_New_l1
    dsimp only
    rw [lt_t hi, cond_t, room_ok (by omega) (by omega) (by omega), bind_s, fillTo_get _ _ hi, bind_s, bind_s]
    refine (bind_of (loopO_iter (fun j => ((j : Int), fillTo (List.replicate s (255 : UInt8)) (Dat.z : List UInt8) p j)) p (e := List.replicate p (List.replicate s 255)) (by omega) (fun j hj => ?_) ?_ ?_)).trans ?_
    · unfold chip_New_l2
      dsimp only
      rw [lt_t hj, cond_t, fillTo_get _ _ hi, bind_s, room_ok (by omega) (by omega) (by omega), bind_s, fillTo_get _ _ hj, bind_s, bind_s, bind_s, bind_s, fill_ok (by simp; omega), bind_s, addI_1 (by omega), bind_s]
      rw [show Int.toNat (j : Int) = j from rfl, show Int.toNat (s : Int) = s from rfl, List.length_replicate, fillTo_set _ _ hj]
    · unfold chip_New_l2
      dsimp only
      rw [lt_f, cond_f, fillTo_all]
    · rw [fillTo_zero]; rfl
    · rw [addI_1 (by omega), bind_s]
      exact congrArg (fun z => some (Sum.inl (((i + 1 : Nat) : Int), z))) (fillTo_set (newBlock p s) Dat.z hi)
  · unfold chip_New_l1
    dsimp only
    rw [lt_f, cond_f, fillTo_all]
  · rw [fillTo_zero]; rfl
theorem new_right {b p s : Nat} (h : cSound b p s = true) : cRight (newChip b p s) = true := by
  unfold cRight newChip
  dsimp only
  rw [List.length_replicate, h]
  simp [bRight, newBlock]
def onV (c : Chip) (f : List Fault) : Chip × Int := if f.length ≤ 64 then (⟨c.Pages, c.Size, c.Blocks, c.Ops, false, f⟩, 0) else (c, 1)
theorem on_eq {c : Chip} {f : List Fault} (h : cRight c = true) (hf : f.length ≤ 1000000) : chip_On c f = some (onV c f) := by
  unfold chip_On onV slices_Clone_api_Fault
  rw [clone_right h, bind_s, chip_Right_eq, bind_s, h]
  by_cases h1 : f.length ≤ 64
  · rw [cond_false (by simp; omega), bind_s, room_ok (by omega) (by omega) (by omega), bind_s, bind_s, bind_s, if_pos h1]
  · rw [cond_true (by simp; omega), if_neg h1]
theorem on_right {c : Chip} {f : List Fault} (h : cRight c = true) : cRight (onV c f).1 = true := by
  unfold onV
  split
  · unfold cRight at *
    dsimp only
    simp only [Bool.and_eq_true, decide_eq_true_eq] at h ⊢
    obtain ⟨⟨h1, h2⟩, h3⟩ := h
    exact ⟨⟨h1, by omega⟩, h3⟩
  · exact h
theorem read_eq {c : Chip} {n k : Nat} (h : cRight c = true) (hn : n < c.Blocks.length) (hk : k < c.Blocks[n].Pages.length) : chip_Read c n k = some (if c.Off then ([], 7) else (c.Blocks[n].Pages[k], 0)) := by
  obtain ⟨h1, h2, h3, h4, h5, h6, h7, h8, h9, h10⟩ := cRight_spec h
  obtain ⟨b1, b2, b3, b4, b5, b6⟩ := h10 _ (List.getElem_mem hn)
  have hp := b6 _ (List.getElem_mem hk)
  unfold chip_Read slices_Clone_byte
  rw [has_eq, bind_s, cond_false (by simp [h]; omega)]
  cases c.Off with
  | true => rw [cond_t, if_pos rfl]
  | false => rw [cond_f, if_neg (by decide), idx_nat hn, bind_s, idx_nat hk, bind_s, room_ok (by omega) (by omega) (by omega), bind_s, bind_s]
/-- what writes a chip leaves it right -/
theorem cRight_of {c : Chip} (h1 : 1 ≤ c.Blocks.length) (h2 : c.Blocks.length ≤ 32) (h3 : 1 ≤ c.Pages) (h4 : c.Pages ≤ 16) (h5 : 1 ≤ c.Size) (h6 : c.Size ≤ 256) (h7 : 0 ≤ c.Ops) (h8 : c.Ops ≤ 1099511627776) (h9 : c.Faults.length ≤ 64)
    (h10 : ∀ b ∈ c.Blocks, (b.Pages.length : Int) = c.Pages ∧ 0 ≤ b.Used ∧ b.Used ≤ c.Pages ∧ 0 ≤ b.Worn ∧ b.Worn ≤ 1099511627776 ∧ ∀ p ∈ b.Pages, (p.length : Int) = c.Size) : cRight c = true := by
  unfold cRight cSound
  simp only [Bool.and_eq_true, decide_eq_true_eq, ge_iff_le, List.all_eq_true]
  refine ⟨⟨⟨⟨⟨⟨⟨by omega, by omega⟩, h3⟩, h4⟩, h5⟩, h6⟩, h7, h8, h9⟩, fun b hb => ?_⟩
  obtain ⟨g1, g2, g3, g4, g5, g6⟩ := h10 b hb
  unfold bRight
  simp only [Bool.and_eq_true, Bool.not_eq_true', Bool.or_eq_false_iff, decide_eq_false_iff_not, List.all_eq_true, decide_eq_true_eq]
  exact ⟨⟨⟨⟨⟨by omega, by omega⟩, by omega⟩, by omega⟩, by omega⟩, g6⟩
theorem mem_set {α : Type} {l : List α} {k : Nat} {x y : α} (h : x ∈ l.set k y) : x ∈ l ∨ x = y := (List.mem_or_eq_of_mem_set h)
theorem mask_length (s : Fault × Bool) (p : List UInt8) : (maskOf s p).length = p.length := by unfold maskOf; split <;> simp
theorem eraseP_length (s : Fault × Bool) (p : List UInt8) : (eraseP s p).length = p.length := by unfold eraseP; split <;> simp
theorem prog_right {c : Chip} {k : Nat} (hk : k < c.Blocks.length) (page : Int) (p : List UInt8) (hc : cRight c = true) : cRight (ProgV c k page p).1 = true := by
  obtain ⟨h1, h2, h3, h4, h5, h6, h7, h8, h9, h10⟩ := cRight_spec hc
  rcases prog_cases hk page p hc with ⟨h, -⟩ | ⟨g1, g2, g3, g4, g5, g6, h⟩
  · rw [h]; exact hc
  · rw [h]
    refine cRight_of (by simpa using h1) (by simpa using h2) h3 h4 h5 h6 (by dsimp only; omega) (by dsimp only; omega) h9 fun b hb => ?_
    rcases mem_set hb with hb | rfl
    · exact h10 b hb
    · obtain ⟨b1, b2, b3, b4, b5, b6⟩ := h10 _ (List.getElem_mem hk)
      refine ⟨by simpa using b1, by dsimp only; omega, by dsimp only; omega, b4, b5, fun q hq => ?_⟩
      rcases mem_set hq with hq | rfl
      · exact b6 q hq
      · rw [mask_length]; exact g4
theorem erase_right {c : Chip} {k : Nat} (hk : k < c.Blocks.length) (hc : cRight c = true) : cRight (EraseV c k).1 = true := by
  obtain ⟨h1, h2, h3, h4, h5, h6, h7, h8, h9, h10⟩ := cRight_spec hc
  rcases erase_cases hk hc with ⟨h, -⟩ | ⟨g1, g2, g3, h⟩
  · rw [h]; exact hc
  · rw [h]
    refine cRight_of (by simpa using h1) (by simpa using h2) h3 h4 h5 h6 (by dsimp only; omega) (by dsimp only; omega) h9 fun b hb => ?_
    rcases mem_set hb with hb | rfl
    · exact h10 b hb
    · obtain ⟨b1, b2, b3, b4, b5, b6⟩ := h10 _ (List.getElem_mem hk)
      refine ⟨by simpa using b1, by dsimp only; split <;> omega, by dsimp only; split <;> omega, by dsimp only; omega, by dsimp only; omega, fun q hq => ?_⟩
      obtain ⟨z, hz, rfl⟩ := List.mem_map.1 hq
      rw [eraseP_length]; exact b6 z hz
end Go.Proofs.Ytfdmajkeihdhnaa.Tr
