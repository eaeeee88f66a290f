/- Marking and reading a chip, filling: what they answer. Conditions: none. -/
import Derived.Test.YtfdmajkeihdhnaaChipF
namespace Go.Proofs.Ytfdmajkeihdhnaa.Tr
open Go
set_option linter.unusedVariables false
set_option linter.unusedSimpArgs false

def hasB (c : Chip) (n : Int) : Bool := (cRight c && decide (n ≥ 0)) && decide (n < (c.Blocks.length : Int))
def MarkV (c : Chip) (n : Int) : Chip × Int :=
  if hasB c n then
    if c.Off then (c, 7) else
    match c.Blocks[n.toNat]? with
    | none => (c, 1)
    | some b => (⟨c.Pages, c.Size, c.Blocks.set n.toNat ⟨b.Pages, b.Used, b.Worn, true⟩, c.Ops, c.Off, c.Faults⟩, 0)
  else (c, 1)
theorem mark_eq {c : Chip} (n : Int) (hc : cRight c = true) : chip_Mark c n = some (MarkV c n) := by
  unfold chip_Mark MarkV
  rw [clone_right hc, bind_s, bind_s, has_eq, bind_s]
  show (bif (!(hasB c n)) then _ else _) = _
  cases hh : hasB c n with
  | false => rw [Bool.not_false, cond_t, bind_s, if_neg (by decide)]
  | true =>
    have hh2 := hh
    unfold hasB at hh2
    simp only [Bool.and_eq_true, decide_eq_true_eq, ge_iff_le] at hh2
    obtain ⟨⟨-, g1⟩, g2⟩ := hh2
    obtain ⟨k, rfl⟩ := Int.eq_ofNat_of_zero_le g1
    have hk : k < c.Blocks.length := by omega
    rw [Bool.not_true, cond_f, if_pos rfl]
    cases ho : c.Off with
    | true => rw [cond_t, bind_s, if_pos rfl, ← ho]
    | false =>
      rw [cond_f, if_neg (by decide), idx_nat hk, bind_s, show ((k : Int)).toNat = k from rfl, List.getElem?_eq_getElem hk, bind_s, bind_s, ← ho]
theorem fill_ok {b : List UInt8} (h : b.length ≤ 1000000) : chip_fill b = some (List.replicate b.length 255) := by
  unfold chip_fill
  refine (bind_of (loopO_iter (fun i => ((i : Int), List.replicate i (255 : UInt8) ++ b.drop i)) b.length (e := List.replicate b.length 255) (by omega) (fun i hi => ?_) ?_ (by simp))).trans ?_
  rotate_right
  · rfl
  · unfold chip_fill_l1
    dsimp only
    have hyi : idx (List.replicate i (255 : UInt8) ++ b.drop i) (i : Int) = some b[i] := by
      unfold idx; rw [if_pos (by omega)]; show (_ ++ b.drop i)[i]? = _
      rw [List.getElem?_append_right (by simp)]
      simp [List.getElem?_drop, List.getElem?_eq_getElem hi]
    have hfin : (List.replicate i (255 : UInt8) ++ b.drop i).set (Int.toNat (i : Int)) (UInt8.ofNat 255) = List.replicate (i + 1) 255 ++ b.drop (i + 1) := by
      show List.set _ i _ = _
      rw [List.set_append_right _ _ (by simp), List.replicate_succ', List.append_assoc, List.length_replicate, Nat.sub_self, List.drop_eq_getElem_cons hi]
      rfl
    rw [lt_t hi, cond_t, hyi, bind_s, bind_s, addI_1 (by omega), bind_s, hfin]
  · unfold chip_fill_l1
    dsimp only
    rw [lt_f, cond_f, List.drop_length, List.append_nil]
end Go.Proofs.Ytfdmajkeihdhnaa.Tr
