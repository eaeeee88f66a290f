/- What the program's functions of the sum answer, and those of the document. Conditions: none. -/
import Derived.Test.YtfdmajkeihdhnaaPx
import Derived.Test.YtfdmajkeihdhnaaSumF
import Derived.Test.YtfdmajkeihdhnaaBaseW
namespace Go.Proofs.Ytfdmajkeihdhnaa.Tr
open Go
set_option linter.unusedVariables false

theorem sum_On_eq (s : UInt32) (b : List UInt8) (hb : b.length ≤ 1000000) : sum_On s b = some (crcOn s b) := by
  unfold sum_On
  refine (bind_of (loopO_iter (fun i => (crcBytes (~~~s) (b.take i), (i : Int))) b.length (e := crcBytes (~~~s) b) (by omega) (fun i hi => ?_) ?_ rfl)).trans ?_
  rotate_right
  · rfl
  · unfold sum_On_l1
    dsimp only
    rw [lt_t hi, cond_t, idx_nat hi, bind_s]
    refine (bind_of (loopO_iter (fun k => (crcBits k (crcBytes (~~~s) (b.take i) ^^^ b[i].toUInt32), (k : Int))) 8 (e := crcBytes (~~~s) (b.take (i + 1))) (by omega) (fun k hk => ?_) ?_ rfl)).trans ?_
    rotate_right
    · rw [addI_1 (by omega), bind_s]
    · unfold sum_On_l2
      dsimp only
      rw [show decide ((k : Int) < (8 : Int)) = true by simp; omega, cond_t, bind_s, bind_s, addI_1 (by omega), bind_s]
      rfl
    · unfold sum_On_l2
      dsimp only
      rw [show decide (((8 : Nat) : Int) < (8 : Int)) = false by decide, cond_f, crc_step8 hi rfl]
  · unfold sum_On_l1
    dsimp only
    rw [lt_f, cond_f, List.take_length]
theorem sum_Of_eq (b : List UInt8) (hb : b.length ≤ 1000000) : sum_Of b = some (crcOn 0 b) := by
  unfold sum_Of
  rw [show (UInt32.ofNat 0) = 0 from rfl, sum_On_eq 0 b hb, bind_s]
theorem sum_Get_eq (b : List UInt8) (hb : b.length ≤ 1000000) : sum_Get b = some (getNum b) := by
  unfold sum_Get
  refine (bind_of (loopO_iter (fun i => (getNum (b.take i), (i : Int))) b.length (e := getNum b) (by omega) (fun i hi => ?_) ?_ rfl)).trans ?_
  rotate_right
  · rfl
  · unfold sum_Get_l1
    dsimp only
    rw [lt_t hi, cond_t, idx_nat hi, bind_s, bind_s, addI_1 (by omega), bind_s, ← getNum_step hi]
    rfl
  · unfold sum_Get_l1
    dsimp only
    rw [lt_f, cond_f, List.take_length]
theorem sum_Put_eq (n : UInt64) (m : Int) : sum_Put n m = some (putOf n m) := by
  unfold sum_Put
  by_cases h : 1 ≤ m ∧ m ≤ 8
  · obtain ⟨k, rfl⟩ := Int.eq_ofNat_of_zero_le (show 0 ≤ m by omega)
    have hk : 1 ≤ k ∧ k ≤ 8 := by omega
    rw [cond_false (by simp; omega), room_ok (by omega) (by omega) (by omega), bind_s, bind_s]
    refine (bind_of (loopO_iter (fun i => ((i : Int), (List.replicate (k - i) (Dat.z : UInt8) ++ putNum n i))) k (e := putOf n k) (by omega) (fun i hi => ?_) ?_ (by simp [putNum]))).trans ?_
    rotate_right
    · rfl
    · unfold sum_Put_l1
      dsimp only
      rw [List.length_replicate, Int.toNat_natCast, lt_t hi, cond_t, subI_ok (by omega) (by omega), bind_s, subI_ok (by omega) (by omega), bind_s, mulI_ok (by omega) (by omega), bind_s]
      rw [show cnt (8 * (i : Int)) = some (8 * i) by unfold cnt; rw [if_pos (by omega)]; congr 1, bind_s]
      rw [idx_of (by omega) (by simp [putNum_length]; omega), bind_s, bind_s, addI_1 (by omega), bind_s]
      have h1 := put_step (n := n) (m := k) (k := i) (by simpa using hi) (by omega)
      rw [Int.toNat_natCast] at h1
      exact congrArg (fun z : List UInt8 => some (Sum.inl (((i + 1 : Nat) : Int), z))) h1
    · unfold sum_Put_l1
      dsimp only
      rw [List.length_replicate, Int.toNat_natCast, lt_f, cond_f]
      have h1 := put_end (n := n) (m := k) (k := k) rfl (by omega) (by omega)
      rw [Int.toNat_natCast] at h1
      exact congrArg (fun z : List UInt8 => some (Sum.inr z)) h1
  · rw [cond_true (by simp; omega), putOf_none (by omega)]
theorem ref_Of_eq (b : List UInt8) (hb : b.length ≤ 1000000) : bywayref05_Of b = some (crcOn 0 b) := by
  unfold bywayref05_Of
  have e0 : UInt32.ofNat 4294967295 = ~~~(0 : UInt32) := by decide
  refine (bind_of (loopO_iter (fun i => (crcBytes (~~~0) (b.take i), (i : Int))) b.length (e := crcBytes (~~~0) b) (by omega) (fun i hi => ?_) ?_ (by rw [e0]; rfl))).trans ?_
  rotate_right
  · rw [crc_refEnd]; rfl
  · unfold bywayref05_Of_l1
    dsimp only
    rw [lt_t hi, cond_t, idx_nat hi, bind_s]
    refine (bind_of (loopO_iter (fun k => (crcBits k (crcBytes (~~~0) (b.take i) ^^^ b[i].toUInt32), (k : Int))) 8 (e := crcBytes (~~~0) (b.take (i + 1))) (by omega) (fun k hk => ?_) ?_ rfl)).trans ?_
    rotate_right
    · rw [addI_1 (by omega), bind_s]
    · unfold bywayref05_Of_l2
      dsimp only
      rw [show decide ((k : Int) < (8 : Int)) = true by simp; omega, cond_t, bind_s]
      by_cases ho : crcBits k (crcBytes (~~~0) (b.take i) ^^^ b[i].toUInt32) % UInt32.ofNat 2 = UInt32.ofNat 1
      · rw [cond_true (by simpa using ho), bind_s, bind_s, addI_1 (by omega), bind_s, crc_ref1 ho]
      · rw [cond_false (by simpa using ho), bind_s, addI_1 (by omega), bind_s, crc_ref0 ho]
    · unfold bywayref05_Of_l2
      dsimp only
      rw [show decide (((8 : Nat) : Int) < (8 : Int)) = false by decide, cond_f, crc_step8 hi rfl]
  · unfold bywayref05_Of_l1
    dsimp only
    rw [lt_f, cond_f, List.take_length]
theorem ref_Get_eq (b : List UInt8) (hb : b.length ≤ 1000000) : bywayref05_Get b = some (getNum b) := by
  unfold bywayref05_Get
  refine (bind_of (loopO_iter (fun i => (getNum (b.take i), (i : Int))) b.length (e := getNum b) (by omega) (fun i hi => ?_) ?_ rfl)).trans ?_
  rotate_right
  · rfl
  · unfold bywayref05_Get_l1
    dsimp only
    rw [lt_t hi, cond_t, idx_nat hi, bind_s, bind_s, addI_1 (by omega), bind_s, getNum_ref hi]
  · unfold bywayref05_Get_l1
    dsimp only
    rw [lt_f, cond_f, List.take_length]
theorem ref_Put_eq (n : UInt64) (m : Int) : bywayref05_Put n m = some (putOf n m) := by
  unfold bywayref05_Put
  by_cases h : 1 ≤ m ∧ m ≤ 8
  · obtain ⟨k, rfl⟩ := Int.eq_ofNat_of_zero_le (show 0 ≤ m by omega)
    have hk : 1 ≤ k ∧ k ≤ 8 := by omega
    rw [cond_false (by simp; omega)]
    refine (bind_of (loopO_iter (fun i => (shrBy n i, putNum n i, (i : Int))) k (e := putOf n k) (by omega) (fun i hi => ?_) ?_ (by rw [shrBy_zero]; rfl))).trans ?_
    rotate_right
    · rfl
    · unfold bywayref05_Put_l1
      dsimp only
      rw [lt_t hi, cond_t, room_ok (by omega) (by simp [putNum_length]; omega) (by simp [putNum_length]; omega), bind_s, bind_s, bind_s, addI_1 (by omega), bind_s, putRef_step, shrBy_step]
    · unfold bywayref05_Put_l1
      dsimp only
      rw [lt_f, cond_f, putOf_some (by omega) (by omega), Int.toNat_natCast]
  · rw [cond_true (by simp; omega), putOf_none (by omega)]
theorem ref_Sealed_eq (b : List UInt8) (hb : b.length ≤ 1000000) : bywayref05_Sealed b = some (sealed b) := by
  unfold bywayref05_Sealed
  have h1 := putOf_le (crcOn 0 b).toUInt64 4
  rw [room_ok (by omega) (by simp; omega) (by simp; omega), bind_s, ref_Of_eq b hb, bind_s, ref_Put_eq, bind_s, room_ok (by omega) (by simp; omega) (by simp; omega), bind_s, bind_s]
  rfl
theorem ref_Open_eq (b : List UInt8) (hb : b.length ≤ 1000000) : bywayref05_Open b = some (openOf b) := by
  unfold bywayref05_Open
  by_cases h : b.length < 4
  · rw [cond_true (by simp; omega)]
    unfold openOf; rw [if_pos h]
  · rw [cond_false (by simp; omega), subI_ok (by omega) (by omega), bind_s, cut_ok (by omega) (by omega) (by omega), bind_s, ref_Sealed_eq _ (by simp; omega), bind_s]
    by_cases h2 : sealed (b.take ((b.length : Int) - 4).toNat) ≠ b
    · rw [cond_true (by simpa using h2)]
      obtain ⟨e1, e2⟩ := openOf_ref1 h h2
      rw [show openOf b = ((openOf b).1, (openOf b).2) from rfl, e1, e2]
    · rw [cond_false (by simpa using h2), bind_s, cut_ok (by omega) (by omega) (by omega), bind_s]
      obtain ⟨e1, e2⟩ := openOf_ref0 h h2
      rw [show openOf b = ((openOf b).1, (openOf b).2) from rfl, e1, e2]
theorem concat2_eq (a b : List UInt8) (ha : a.length ≤ 1000000) (hb : b.length ≤ 1000000) : slices_Concat_byte [a, b] = some (a ++ b) := by
  unfold slices_Concat_byte
  refine (bind_of (loopO_iter (fun i => ((([a, b].take i).flatten.length : Int), (i : Int))) 2 (e := ((a ++ b).length : Int)) (by omega) (fun i hi => ?_) ?_ rfl)).trans ?_
  rotate_right
  · unfold slices_Grow_byte
    rw [cond_false (by simp; omega), subI_ok (by omega) (by omega), bind_s, subI_ok (by simp; omega) (by simp; omega), bind_s]
    have e : ∀ x : List UInt8, x = [] → (some x).bind (fun s_2 => some s_2) = some ([] : List UInt8) := fun x h => by rw [h, bind_s]
    have e9 : (bif decide ((((a ++ b).length : Int)) - ((0 : Int) - 0) > (0 : Int)) then ((room 1 ((((a ++ b).length : Int)) - ((0 : Int) - 0))).bind fun u_6 => (posI ((((a ++ b).length : Int)) - ((0 : Int) - 0))).bind fun u_7 => (cut (List.replicate (Int.toNat ((((a ++ b).length : Int)) - ((0 : Int) - 0))) (Dat.z : UInt8)).length 0 (0 : Int)).bind fun u_9 => (some (((List.replicate (Int.toNat ((((a ++ b).length : Int)) - ((0 : Int) - 0))) (Dat.z : UInt8)).take (Int.toNat (0 : Int))) : (List UInt8))).bind fun l_10 => some l_10) else (some [])) = some ([] : List UInt8) := by
      by_cases h0 : 0 < (a ++ b).length
      · rw [cond_true (by simp at h0 ⊢; omega), room_ok (by simp; omega) (by simp; omega) (by simp; omega), bind_s, posI_ok (by simp at h0 ⊢; omega), bind_s, cut_ok (by omega) (by omega) (by simp; omega), bind_s, bind_s]
        simp
      · rw [cond_false (by simp at h0 ⊢; simp [h0])]
    rw [bind_of e9, bind_s]
    refine (bind_of (loopO_iter (fun i => ((i : Int), ([a, b].take i).flatten)) 2 (e := a ++ b) (by omega) (fun i hi => ?_) ?_ rfl)).trans ?_
    rotate_right
    · rfl
    · unfold slices_Concat_byte_l2
      dsimp only
      rw [show decide ((i : Int) < (([a, b].length : Nat) : Int)) = true by simp; omega, cond_t, idx_nat (show i < [a, b].length by simpa using hi), bind_s]
      have h1 := flat_step (xss := [a, b]) (k := i) (by simpa using hi)
      have h2 : ([a, b].take i).flatten.length + ([a, b][i]'(by simpa using hi)).length ≤ 2000000 := by
        rw [← List.length_append, ← h1]
        have := flat_take_le [a, b] (i + 1)
        have e3 : [a, b].flatten.length = a.length + b.length := by simp
        omega
      rw [room_ok (by omega) (by omega) (by omega), bind_s, bind_s, addI_1 (by omega), bind_s, ← h1]
    · unfold slices_Concat_byte_l2
      dsimp only
      rw [show decide (((2 : Nat) : Int) < (([a, b].length : Nat) : Int)) = false by simp, cond_f]
      simp
  · unfold slices_Concat_byte_l1
    dsimp only
    rw [show decide ((i : Int) < (([a, b].length : Nat) : Int)) = true by simp; omega, cond_t, idx_nat (show i < [a, b].length by simpa using hi), bind_s]
    have h1 := flat_step (xss := [a, b]) (k := i) (by simpa using hi)
    have h2 : ([a, b].take i).flatten.length + ([a, b][i]'(by simpa using hi)).length ≤ 2000000 := by
      rw [← List.length_append, ← h1]
      have := flat_take_le [a, b] (i + 1)
      have e3 : [a, b].flatten.length = a.length + b.length := by simp
      omega
    rw [addI_ok (by omega) (by omega), bind_s, cond_false (by simp; omega), addI_1 (by omega), bind_s, h1, List.length_append]
    rfl
  · unfold slices_Concat_byte_l1
    dsimp only
    rw [show decide (((2 : Nat) : Int) < (([a, b].length : Nat) : Int)) = false by simp, cond_f]
    simp
end Go.Proofs.Ytfdmajkeihdhnaa.Tr
