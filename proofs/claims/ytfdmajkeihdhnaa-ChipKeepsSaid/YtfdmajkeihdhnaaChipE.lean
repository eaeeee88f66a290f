/- What the program's functions of chips answer. Conditions: none. -/
import Derived.Test.YtfdmajkeihdhnaaPx
import Derived.Test.YtfdmajkeihdhnaaSumP
import Derived.Test.YtfdmajkeihdhnaaChipC
namespace Go.Proofs.Ytfdmajkeihdhnaa.Tr
open Go
set_option linter.unusedVariables false
set_option linter.unusedSimpArgs false

/-- a loop over a list that ends at the first that is not good -/
theorem loopO_all {α : Type} {f : Int → Option (Int ⊕ (Unit ⊕ Bool))} (xs : List α) (good : α → Bool) (hl : xs.length < 1000000000000) (hf : ∀ i (h : i < xs.length), f (i : Int) = some (if good xs[i] then .inl (((i + 1 : Nat)) : Int) else .inr (.inr false))) (he : f (xs.length : Int) = some (.inr (.inl ()))) :
    loopO f (0 : Int) = some (if xs.all good then .inl () else .inr false) := by
  rcases loopO_find (f := f) (fun i => (i : Int)) xs.length (fun i => (xs[i]?).any fun x => !good x) (fun _ => .inr false) (y := .inl ()) (by omega) (fun i hi hp => by
      have hx : good xs[i] = true := by simpa [List.getElem?_eq_getElem hi] using hp
      rw [hf i hi, if_pos hx]) (fun i hi hp => by
      have hx : good xs[i] = false := by simpa [List.getElem?_eq_getElem hi] using hp
      rw [hf i hi, if_neg (by rw [hx]; decide)]) he (s := (0 : Int)) rfl with ⟨i, hi, hp, -, e⟩ | ⟨hall, e⟩
  · have hx : good xs[i] = false := by simpa [List.getElem?_eq_getElem hi] using hp
    have : ¬ xs.all good = true := fun h => by
      have := List.all_eq_true.1 h _ (List.getElem_mem hi)
      rw [hx] at this; cases this
    rw [e, if_neg this]
  · have : xs.all good = true := List.all_eq_true.2 fun x hx => by
      obtain ⟨i, hi, rfl⟩ := List.getElem_of_mem hx
      have := hall i hi
      simpa [List.getElem?_eq_getElem hi] using this
    rw [e, if_pos this]

def bRight (c : Chip) (b : Block) : Bool := !(((((decide ((b.Pages.length : Int) ≠ c.Pages)) || (decide (b.Used < (0 : Int)))) || (decide (b.Used > c.Pages))) || (decide (b.Worn < (0 : Int)))) || (decide (b.Worn > (1099511627776 : Int)))) && b.Pages.all fun p => decide ((p.length : Int) = c.Size)
def cSound (b p s : Int) : Bool := (((((decide (b ≥ (1 : Int))) && (decide (b ≤ (32 : Int)))) && (decide (p ≥ (1 : Int)))) && (decide (p ≤ (16 : Int)))) && (decide (s ≥ (1 : Int)))) && (decide (s ≤ (256 : Int)))
def cRight (c : Chip) : Bool := (cSound c.Blocks.length c.Pages c.Size && decide (0 ≤ c.Ops ∧ c.Ops ≤ 1099511627776 ∧ c.Faults.length ≤ 64)) && c.Blocks.all (bRight c)
theorem chip_Right_eq (c : Chip) : chip_Right c = some (cRight c) := by
  unfold chip_Right chip_sound cRight
  rw [bind_s]
  show (bif (((!(cSound c.Blocks.length c.Pages c.Size)) || _) || _) || _ then _ else _) = _
  cases hs : cSound c.Blocks.length c.Pages c.Size with
  | false => rw [cond_true (by simp)]; simp
  | true =>
    by_cases ho : 0 ≤ c.Ops ∧ c.Ops ≤ 1099511627776 ∧ c.Faults.length ≤ 64
    · have hs2 := hs
      unfold cSound at hs2
      simp only [Bool.and_eq_true, decide_eq_true_eq, ge_iff_le] at hs2
      rw [cond_false (by simp; omega), loopO_all (f := fun s => chip_Right_l1 c s) c.Blocks (bRight c) (by omega) (fun i hi => ?_) (by unfold chip_Right_l1; rw [lt_f, cond_f])]
      · rw [bind_s, decide_eq_true ho]
        cases c.Blocks.all (bRight c)
        · rw [if_neg (by decide), elS_inr]; rfl
        · rw [if_pos rfl, elS_inl]; rfl
      · unfold chip_Right_l1
        rw [lt_t hi, cond_t, idx_nat hi, bind_s]
        cases hb : (((((decide ((c.Blocks[i].Pages.length : Int) ≠ c.Pages)) || (decide (c.Blocks[i].Used < (0 : Int)))) || (decide (c.Blocks[i].Used > c.Pages))) || (decide (c.Blocks[i].Worn < (0 : Int)))) || (decide (c.Blocks[i].Worn > (1099511627776 : Int)))) with
        | true =>
          have : bRight c c.Blocks[i] = false := by unfold bRight; rw [hb]; rfl
          rw [cond_t, if_neg (by rw [this]; decide)]
        | false =>
          have hb2 := hb
          simp only [Bool.or_eq_false_iff, decide_eq_false_iff_not] at hb2
          rw [cond_f, loopO_all (f := fun s => chip_Right_l2 c c.Blocks[i] s) c.Blocks[i].Pages (fun p => decide ((p.length : Int) = c.Size)) (by omega) (fun j hj => ?_) (by unfold chip_Right_l2; rw [lt_f, cond_f])]
          · have : bRight c c.Blocks[i] = c.Blocks[i].Pages.all (fun p => decide ((p.length : Int) = c.Size)) := by unfold bRight; rw [hb]; rfl
            rw [bind_s, this]
            cases c.Blocks[i].Pages.all (fun p => decide ((p.length : Int) = c.Size))
            · rw [if_neg (by decide), elS_inr, if_neg (by decide)]
            · rw [if_pos rfl, elS_inl, addI_1 (by omega), bind_s, if_pos rfl]
          · unfold chip_Right_l2
            rw [lt_t hj, cond_t, idx_nat hj, bind_s]
            by_cases hp : (c.Blocks[i].Pages[j].length : Int) = c.Size
            · rw [cond_false (by simp [hp]), addI_1 (by omega), bind_s, if_pos (by simp [hp])]
            · rw [cond_true (by simp [hp]), if_neg (by simp [hp])]
    · rw [cond_true (by simp; omega), decide_eq_false ho]
      simp
theorem flat_small {p : List (List UInt8)} (h : ∀ x ∈ p, x.length ≤ 1000) : p.flatten.length ≤ p.length * 1000 := by
  induction p with
  | nil => simp
  | cons x xs ih =>
    have h1 := h x (List.mem_cons_self ..)
    have h2 := ih fun y hy => h y (List.mem_cons_of_mem _ hy)
    simp only [List.flatten_cons, List.length_append, List.length_cons]
    omega
theorem copied_ok {p : List (List UInt8)} (h1 : p.length ≤ 1000) (h2 : ∀ x ∈ p, x.length ≤ 1000) : chip_copied p = some p := by
  have h3 := flat_small h2
  unfold chip_copied
  refine (bind_of (loopO_iter (fun i => ((i : Int), ((p.take i).flatten.length : Int))) p.length (e := (p.flatten.length : Int)) (by omega) (fun i hi => ?_) ?_ (by simp))).trans ?_
  rotate_right
  · rw [room_ok (by omega) (by omega) (by omega), bind_s, room_ok (by omega) (by omega) (by omega), bind_s]
    refine (bind_of (loopO_iter (fun i => (i : Int)) p.length (e := ()) (by omega) (fun i hi => ?_) ?_ rfl)).trans ?_
    rotate_right
    · rfl
    · unfold chip_copied_l2
      rw [lt_t hi, cond_t, idx_nat hi, bind_s, addI_1 (by omega), bind_s]
    · unfold chip_copied_l2
      rw [lt_f, cond_f]
  · unfold chip_copied_l1
    dsimp only
    have h4 := chip_copied_fit hi rfl
    rw [lt_t hi, cond_t, idx_nat hi, bind_s, addI_ok (by omega) (by omega), bind_s, addI_1 (by omega), bind_s, List.take_succ_eq_append_getElem hi, List.flatten_append, List.length_append]
    simp
  · unfold chip_copied_l1
    dsimp only
    rw [lt_f, cond_f, List.take_length]
theorem clone_ok {c : Chip} (h1 : c.Blocks.length ≤ 1000) (h2 : ∀ b ∈ c.Blocks, b.Pages.length ≤ 1000 ∧ ∀ x ∈ b.Pages, x.length ≤ 1000) (h3 : c.Faults.length ≤ 1000) : chip_clone c = some c := by
  unfold chip_clone slices_Clone_api_Block slices_Clone_api_Fault
  rw [room_ok (by omega) (by omega) (by omega), bind_s, bind_s]
  refine (bind_of (loopO_iter (fun i => ((i : Int), c.Blocks)) c.Blocks.length (e := c.Blocks) (by omega) (fun i hi => ?_) ?_ rfl)).trans ?_
  rotate_right
  · rw [room_ok (by omega) (by omega) (by omega), bind_s, bind_s, bind_s]
  · unfold chip_clone_l1
    dsimp only
    obtain ⟨g1, g2⟩ := h2 _ (List.getElem_mem hi)
    rw [lt_t hi, cond_t, idx_nat hi, bind_s, copied_ok g1 g2, bind_s, bind_s, bind_s, addI_1 (by omega), bind_s]
    have : c.Blocks.set (Int.toNat (i : Int)) (⟨c.Blocks[i].Pages, c.Blocks[i].Used, c.Blocks[i].Worn, c.Blocks[i].Bad⟩ : Block) = c.Blocks := block_same (idx_nat hi)
    rw [this]
  · unfold chip_clone_l1
    dsimp only
    rw [lt_f, cond_f]
theorem cRight_spec {c : Chip} (h : cRight c = true) : 1 ≤ c.Blocks.length ∧ c.Blocks.length ≤ 32 ∧ 1 ≤ c.Pages ∧ c.Pages ≤ 16 ∧ 1 ≤ c.Size ∧ c.Size ≤ 256 ∧ 0 ≤ c.Ops ∧ c.Ops ≤ 1099511627776 ∧ c.Faults.length ≤ 64 ∧
    ∀ b ∈ c.Blocks, (b.Pages.length : Int) = c.Pages ∧ 0 ≤ b.Used ∧ b.Used ≤ c.Pages ∧ 0 ≤ b.Worn ∧ b.Worn ≤ 1099511627776 ∧ ∀ p ∈ b.Pages, (p.length : Int) = c.Size := by
  unfold cRight cSound at h
  simp only [Bool.and_eq_true, decide_eq_true_eq, ge_iff_le, List.all_eq_true] at h
  obtain ⟨⟨⟨⟨⟨⟨⟨h1, h2⟩, h3⟩, h4⟩, h5⟩, h6⟩, h7, h8, h9⟩, h10⟩ := h
  refine ⟨by omega, by omega, h3, h4, h5, h6, h7, h8, h9, fun b hb => ?_⟩
  have h11 := h10 b hb
  unfold bRight at h11
  simp only [Bool.and_eq_true, Bool.not_eq_true', Bool.or_eq_false_iff, decide_eq_false_iff_not, List.all_eq_true, decide_eq_true_eq] at h11
  obtain ⟨⟨⟨⟨⟨g1, g2⟩, g3⟩, g4⟩, g5⟩, g6⟩ := h11
  exact ⟨by omega, by omega, by omega, by omega, by omega, g6⟩
theorem clone_right {c : Chip} (h : cRight c = true) : chip_clone c = some c := by
  obtain ⟨h1, h2, h3, h4, h5, h6, h7, h8, h9, h10⟩ := cRight_spec h
  refine clone_ok (by omega) (fun b hb => ?_) (by omega)
  obtain ⟨g1, g2, g3, g4, g5, g6⟩ := h10 b hb
  exact ⟨by omega, fun x hx => by have := g6 x hx; omega⟩
theorem has_eq (c : Chip) (n : Int) : chip_has c n = some ((cRight c && decide (n ≥ 0)) && decide (n < (c.Blocks.length : Int))) := by
  unfold chip_has
  rw [chip_Right_eq, bind_s]
end Go.Proofs.Ytfdmajkeihdhnaa.Tr
