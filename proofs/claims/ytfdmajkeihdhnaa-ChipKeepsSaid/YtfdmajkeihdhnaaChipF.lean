/- Programming a chip: what it answers. Conditions: none. -/
import Derived.Test.YtfdmajkeihdhnaaChipE
namespace Go.Proofs.Ytfdmajkeihdhnaa.Tr
open Go
set_option linter.unusedVariables false
set_option linter.unusedSimpArgs false

def strikeV (c : Chip) : Fault × Bool := match c.Faults.find? (fun f => decide (f.Op = c.Ops)) with
  | some f => (f, f.Cut || f.Fail)
  | none => (⟨0, false, false, 0⟩, false)
theorem strikes_eq {c : Chip} (h : c.Faults.length ≤ 1000) : chip_strikes c = some (strikeV c) := by
  unfold chip_strikes
  rcases loopO_find (f := fun s => chip_strikes_l1 c s) (fun i => (i : Int)) c.Faults.length (fun i => (c.Faults[i]?).any fun f => decide (f.Op = c.Ops)) (fun i => .inr (strikeV ⟨c.Pages, c.Size, c.Blocks, c.Ops, c.Off, (c.Faults.drop i).take 1⟩)) (y := .inl ()) (by omega) (fun i hi hp => by
      have hx : ¬ c.Faults[i].Op = c.Ops := by simpa [List.getElem?_eq_getElem hi] using hp
      unfold chip_strikes_l1
      rw [lt_t hi, cond_t, idx_nat hi, bind_s, cond_false (by simp [hx]), addI_1 (by omega), bind_s]) (fun i hi hp => by
      have hx : c.Faults[i].Op = c.Ops := by simpa [List.getElem?_eq_getElem hi] using hp
      unfold chip_strikes_l1
      rw [lt_t hi, cond_t, idx_nat hi, bind_s, cond_true (by simp [hx])]
      have he : (c.Faults.drop i).take 1 = [c.Faults[i]] := by rw [List.drop_eq_getElem_cons hi]; rfl
      unfold strikeV
      dsimp only
      rw [he, List.find?_cons_of_pos (by simp [hx])]) (by
      unfold chip_strikes_l1
      rw [lt_f, cond_f]) (s := (0 : Int)) rfl with ⟨i, hi, hp, hj, e⟩ | ⟨hall, e⟩
  · rw [e, bind_s, elS_inr]
    congr 1
    have hx : c.Faults[i].Op = c.Ops := by simpa [List.getElem?_eq_getElem hi] using hp
    have hf : c.Faults.find? (fun f => decide (f.Op = c.Ops)) = some c.Faults[i] := by
      rw [List.find?_eq_some_iff_getElem]
      refine ⟨by simp [hx], i, hi, rfl, fun j hjl => ?_⟩
      have := hj j hjl
      simpa [List.getElem?_eq_getElem (show j < c.Faults.length by omega)] using this
    have he : (c.Faults.drop i).take 1 = [c.Faults[i]] := by rw [List.drop_eq_getElem_cons hi]; rfl
    unfold strikeV
    dsimp only
    rw [hf, he, List.find?_cons_of_pos (by simp [hx])]
  · rw [e, bind_s, elS_inl, bind_s]
    have hf : c.Faults.find? (fun f => decide (f.Op = c.Ops)) = none := by
      rw [List.find?_eq_none]
      intro f hf
      obtain ⟨i, hi, rfl⟩ := List.getElem_of_mem hf
      have := hall i hi
      simpa [List.getElem?_eq_getElem hi] using this
    unfold strikeV
    rw [hf]

def progOk (c : Chip) (n page : Int) (p : List UInt8) : Bool := cRight c && decide (n ≥ 0) && decide (n < (c.Blocks.length : Int)) && decide (0 ≤ page ∧ page < c.Pages ∧ (p.length : Int) = c.Size ∧ c.Ops < 1099511627776)
def maskOf (s : Fault × Bool) (p : List UInt8) : List UInt8 := if s.2 then p.map (fun x => x ||| (~~~s.1.Mask)) else p
def ProgV (c : Chip) (n page : Int) (p : List UInt8) : Chip × Int :=
  if progOk c n page p then
    if c.Off then (c, 7) else
    match c.Blocks[n.toNat]? with
    | none => (c, 1)
    | some b => if b.Bad = true ∨ page ≠ b.Used then (c, 9) else
      (⟨c.Pages, c.Size, c.Blocks.set n.toNat ⟨b.Pages.set page.toNat (maskOf (strikeV c) p), b.Used + 1, b.Worn, b.Bad⟩, c.Ops + 1, if (strikeV c).2 then (strikeV c).1.Cut else c.Off, c.Faults⟩,
        if (strikeV c).2 then (if (strikeV c).1.Cut then 7 else 9) else 0)
  else (c, 1)
theorem over_eq {xs ys : List UInt8} (h : xs.length = ys.length) : over xs ys = ys := by
  unfold over
  rw [h, List.take_length, List.drop_of_length_le (by omega), List.append_nil]
theorem prog_eq {c : Chip} (n page : Int) (p : List UInt8) (hc : cRight c = true) : chip_Program c n page p = some (ProgV c n page p) := by
  obtain ⟨h1, h2, h3, h4, h5, h6, h7, h8, h9, h10⟩ := cRight_spec hc
  unfold chip_Program ProgV
  rw [clone_right hc, bind_s, bind_s, has_eq, bind_s]
  by_cases hok : progOk c n page p = true
  · have hok2 := hok
    unfold progOk at hok2
    simp only [Bool.and_eq_true, decide_eq_true_eq, ge_iff_le] at hok2
    obtain ⟨⟨⟨-, g1⟩, g2⟩, g3, g4, g5, g6⟩ := hok2
    obtain ⟨k, rfl⟩ := Int.eq_ofNat_of_zero_le g1
    obtain ⟨q, rfl⟩ := Int.eq_ofNat_of_zero_le g3
    have hk : k < c.Blocks.length := by omega
    rw [cond_false (by simp [hc]; omega), if_pos hok]
    obtain ⟨b1, b2, b3, b4, b5, b6⟩ := h10 _ (List.getElem_mem hk)
    cases ho : c.Off with
    | true => rw [cond_t, if_pos rfl, ← ho]
    | false =>
      rw [cond_f, if_neg (by decide), idx_nat hk, bind_s]
      rw [show ((k : Int)).toNat = k from rfl, List.getElem?_eq_getElem hk]
      dsimp only
      by_cases hb : c.Blocks[k].Bad = true ∨ (q : Int) ≠ c.Blocks[k].Used
      · rw [cond_true (by simpa using hb), if_pos hb, ← ho]
      · rw [cond_false (by simpa using hb), if_neg hb]
        have hq : q < c.Blocks[k].Pages.length := by omega
        have hpl : c.Blocks[k].Pages[q].length = p.length := by have := b6 _ (List.getElem_mem hq); omega
        rw [strikes_eq (by omega), bind_s, addI_ok (by omega) (by omega), bind_s, bind_s, addI_ok (by omega) (by omega), bind_s, bind_s, idx_nat hq, bind_s, bind_s, over_eq hpl]
        have hset : ∀ (y : Block), idx (c.Blocks.set k y) (k : Int) = some y := fun y => by
          unfold idx; rw [if_pos (by omega)]; show (c.Blocks.set k y)[k]? = _; rw [List.getElem?_set_self hk]
        cases hs : (strikeV c).2 with
        | false =>
          have hm : maskOf (strikeV c) p = p := by unfold maskOf; rw [hs]; rfl
          rw [Bool.not_false, cond_t, lenI_ok (by simp), bind_s]
          rw [hset, bind_s, hm]
          simp [ho]
        | true =>
          have hm : maskOf (strikeV c) p = p.map (fun x => x ||| (~~~(strikeV c).1.Mask)) := by unfold maskOf; rw [hs]; rfl
          rw [Bool.not_true, cond_f]
          refine (bind_of (loopO_iter (fun i => ((i : Int), c.Blocks[k].Pages.set q ((p.take i).map (fun x => x ||| (~~~(strikeV c).1.Mask)) ++ p.drop i))) p.length (e := c.Blocks[k].Pages.set q (p.map (fun x => x ||| (~~~(strikeV c).1.Mask)))) (by omega) (fun i hi => ?_) ?_ (by simp))).trans ?_
          rotate_right
          · unfold chip_struck
            rw [hm]
            cases hcut : (strikeV c).1.Cut
            · rw [cond_f, bind_s, bind_s, lenI_ok (by simp), bind_s]
              rw [hset, bind_s]
              simp
            · rw [cond_t, bind_s, bind_s, lenI_ok (by simp), bind_s]
              rw [hset, bind_s]
              simp
          · unfold chip_Program_l1
            dsimp only
            have hlt : decide ((i : Int) < c.Size) = true := by rw [← g5]; exact lt_t hi
            have hqi : idx (c.Blocks[k].Pages.set q ((p.take i).map (fun x => x ||| (~~~(strikeV c).1.Mask)) ++ p.drop i)) (q : Int) = some ((p.take i).map (fun x => x ||| (~~~(strikeV c).1.Mask)) ++ p.drop i) := by
              unfold idx; rw [if_pos (by omega)]; show (c.Blocks[k].Pages.set q _)[q]? = _; rw [List.getElem?_set_self hq]
            have hyi : idx ((p.take i).map (fun x => x ||| (~~~(strikeV c).1.Mask)) ++ p.drop i) (i : Int) = some p[i] := by
              unfold idx; rw [if_pos (by omega)]; show (_ ++ p.drop i)[i]? = _
              rw [List.getElem?_append_right (by simp; omega)]
              simp [Nat.min_eq_left (Nat.le_of_lt hi), List.getElem?_drop, List.getElem?_eq_getElem hi]
            rw [hlt, cond_t, lenI_ok (by simp), bind_s, hqi, bind_s, hyi, bind_s, bind_s, bind_s, addI_1 (by omega), bind_s]
            have hfin : ((p.take i).map (fun x => x ||| (~~~(strikeV c).1.Mask)) ++ p.drop i).set (Int.toNat (i : Int)) (p[i] ||| (~~~(strikeV c).1.Mask)) = (p.take (i + 1)).map (fun x => x ||| (~~~(strikeV c).1.Mask)) ++ p.drop (i + 1) := by
              show List.set _ i _ = _
              rw [List.set_append_right _ _ (by simp; omega), List.take_succ_eq_append_getElem hi, List.map_append]
              simp [Nat.min_eq_left (Nat.le_of_lt hi)]
              rw [List.drop_eq_getElem_cons hi]; rfl
            rw [hfin, show Int.toNat (q : Int) = q from rfl, List.set_set]
          · unfold chip_Program_l1
            dsimp only
            rw [show decide ((p.length : Int) < c.Size) = false by rw [← g5]; exact lt_f, cond_f, List.take_length, List.drop_length, List.append_nil]
  · rw [if_neg hok, cond_true (by
      unfold progOk at hok
      rw [hc] at hok
      simp only [hc, Bool.true_and, Bool.and_eq_true, decide_eq_true_eq, ge_iff_le, Bool.or_eq_true, Bool.not_eq_true', Bool.and_eq_false_iff, decide_eq_false_iff_not] at hok ⊢
      by_cases x1 : 0 ≤ n
      · by_cases x2 : n < (c.Blocks.length : Int)
        · have := fun h => hok ⟨⟨x1, x2⟩, h⟩
          omega
        · left; left; left; left; right; exact x2
      · left; left; left; left; left; exact x1)]
end Go.Proofs.Ytfdmajkeihdhnaa.Tr
