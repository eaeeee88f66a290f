/- The sum of layer 5 as plain functions on bytes. Conditions: none. -/
namespace Go.Proofs.Ytfdmajkeihdhnaa.Tr
def crcPoly : UInt32 := 0xEDB88320
def crcBit (n : UInt32) : UInt32 := UInt32.ofNat (n.toNat / 2 ^ (1 : Int).toNat) ^^^ crcPoly * (n &&& 1)
def crcBits : Nat → UInt32 → UInt32
  | 0, n => n
  | k + 1, n => crcBit (crcBits k n)
def crcBytes (n : UInt32) (xs : List UInt8) : UInt32 := xs.foldl (fun n x => crcBits 8 (n ^^^ x.toUInt32)) n
def crcOn (s : UInt32) (xs : List UInt8) : UInt32 := ~~~crcBytes (~~~s) xs
def getNum (xs : List UInt8) : UInt64 := xs.foldl (fun n x => UInt64.ofNat (n.toNat * 2 ^ (8 : Int).toNat) ||| x.toUInt64) 0
def byteAt (n : UInt64) (k : Nat) : UInt8 := (UInt64.ofNat (n.toNat / 2 ^ (8 * (k : Int)).toNat)).toUInt8
def putNum (n : UInt64) : Nat → List UInt8
  | 0 => []
  | k + 1 => byteAt n k :: putNum n k
def putOf (n : UInt64) (m : Int) : List UInt8 := if 1 ≤ m ∧ m ≤ 8 then putNum n m.toNat else []

theorem crc_bit (k : Nat) (n : UInt32) : UInt32.ofNat ((crcBits k n).toNat / 2 ^ (1 : Int).toNat) ^^^ (UInt32.ofNat 3988292384) * (crcBits k n &&& (UInt32.ofNat 1)) = crcBits (k + 1) n := rfl
theorem take_step {α : Type} {xs : List α} {k : Nat} (hk : k < xs.length) : xs.take (k + 1) = xs.take k ++ [xs[k]] := by
  rw [List.take_succ_eq_append_getElem hk]
theorem crc_step8 {n : UInt32} {xs : List UInt8} {k j : Nat} (hk : k < xs.length) (hj : j = 8) : crcBits j (crcBytes n (xs.take k) ^^^ xs[k].toUInt32) = crcBytes n (xs.take (k + 1)) := by
  subst hj
  rw [take_step hk]
  unfold crcBytes
  rw [List.foldl_append]; rfl
theorem getNum_step {xs : List UInt8} {k : Nat} (hk : k < xs.length) : UInt64.ofNat ((getNum (xs.take k)).toNat * 2 ^ (8 : Int).toNat) ||| xs[k].toUInt64 = getNum (xs.take (k + 1)) := by
  rw [take_step hk]
  unfold getNum
  rw [List.foldl_append]; rfl

theorem and1 (n : UInt32) : n &&& 1 = n % 2 := by
  rw [← UInt32.toNat_inj]
  simp [UInt32.toNat_and]
theorem half32 (n : UInt32) : UInt32.ofNat (n.toNat / 2 ^ (1 : Int).toNat) = n / 2 := by
  rw [← UInt32.toNat_inj, UInt32.toNat_div, UInt32.toNat_ofNat']
  have := n.toNat_lt
  have h2 : (2 : UInt32).toNat = 2 := rfl
  rw [h2, show 2 ^ (1 : Int).toNat = 2 from rfl]
  omega
theorem crc_ref1 {k : Nat} {n : UInt32} (h : crcBits k n % (UInt32.ofNat 2) = UInt32.ofNat 1) : crcBits k n / (UInt32.ofNat 2) ^^^ UInt32.ofNat 3988292384 = crcBits (k + 1) n := by
  show _ = crcBit (crcBits k n)
  unfold crcBit
  have h1 : crcBits k n &&& 1 = 1 := by rw [and1]; exact h
  rw [h1, half32]; rfl
theorem crc_ref0 {k : Nat} {n : UInt32} (h : ¬ crcBits k n % (UInt32.ofNat 2) = UInt32.ofNat 1) : crcBits k n / (UInt32.ofNat 2) = crcBits (k + 1) n := by
  show _ = crcBit (crcBits k n)
  unfold crcBit
  have h1 : crcBits k n &&& 1 = 0 := by
    rw [and1, ← UInt32.toNat_inj, UInt32.toNat_mod]
    have h2 : ¬ (crcBits k n % 2).toNat = 1 := fun e => h (by rw [← UInt32.toNat_inj]; exact e)
    rw [UInt32.toNat_mod] at h2
    have h3 : (2 : UInt32).toNat = 2 := rfl
    rw [h3] at h2 ⊢
    show _ = 0
    omega
  rw [h1, half32]
  simp
theorem crc_refEnd (n : UInt32) : UInt32.ofNat 4294967295 - n = ~~~n := by
  rw [← UInt32.toBitVec_inj]
  simp only [UInt32.toBitVec_sub, UInt32.toBitVec_not]
  show BitVec.allOnes 32 - _ = _
  rw [BitVec.allOnes_sub_eq_not]
theorem or_add (n : UInt64) (x : UInt8) : UInt64.ofNat (n.toNat * 2 ^ (8 : Int).toNat) ||| x.toUInt64 = n * 256 + x.toUInt64 := by
  rw [← UInt64.toNat_inj, UInt64.toNat_or, UInt64.toNat_add, UInt64.toNat_mul, UInt64.toNat_ofNat', UInt8.toNat_toUInt64]
  have hx := x.toNat_lt
  have h1 : (256 : UInt64).toNat = 256 := rfl
  have h2 : 2 ^ (8 : Int).toNat = 256 := rfl
  rw [h1, h2]
  have h3 : n.toNat * 256 % 2 ^ 64 = (n.toNat % 2 ^ 56) <<< 8 := by
    rw [Nat.shiftLeft_eq]; omega
  rw [h3, ← Nat.shiftLeft_add_eq_or_of_lt (by omega), Nat.shiftLeft_eq]
  omega
theorem getNum_ref {xs : List UInt8} {k : Nat} (hk : k < xs.length) : getNum (xs.take k) * UInt64.ofNat 256 + xs[k].toUInt64 = getNum (xs.take (k + 1)) := by
  rw [← getNum_step hk, or_add]; rfl

theorem putNum_length (n : UInt64) (k : Nat) : (putNum n k).length = k := by
  induction k with
  | zero => rfl
  | succ k ih => simp [putNum, ih]
theorem putOf_none {n : UInt64} {m : Int} (h : m < 1 ∨ 8 < m) : putOf n m = [] := by
  unfold putOf; rw [if_neg (by omega)]
theorem put_step {n : UInt64} {m : Int} {k : Nat} (hk : k < m.toNat) (h : 0 ≤ m) :
    (List.replicate (m.toNat - k) 0 ++ putNum n k).set (m - 1 - (k : Int)).toNat (byteAt n k) = List.replicate (m.toNat - (k + 1)) 0 ++ putNum n (k + 1) := by
  have e1 : (m - 1 - (k : Int)).toNat = m.toNat - (k + 1) := by omega
  have e2 : m.toNat - k = (m.toNat - (k + 1)) + 1 := by omega
  rw [e1, e2, List.replicate_succ', List.append_assoc, List.set_append_right _ _ (by simp)]
  simp [putNum]
theorem put_end {n : UInt64} {m : Int} {k : Nat} (hk : k = m.toNat) (h1 : 1 ≤ m) (h2 : m ≤ 8) : List.replicate (m.toNat - k) 0 ++ putNum n k = putOf n m := by
  subst hk
  unfold putOf
  rw [if_pos ⟨h1, h2⟩]; simp

def shrBy (n : UInt64) (k : Nat) : UInt64 := UInt64.ofNat (n.toNat / 2 ^ (8 * (k : Int)).toNat)
theorem shrBy_zero (n : UInt64) : shrBy n 0 = n := by simp [shrBy]
theorem shrBy_step (n : UInt64) (k : Nat) : shrBy n k / UInt64.ofNat 256 = shrBy n (k + 1) := by
  rw [← UInt64.toNat_inj, UInt64.toNat_div]
  unfold shrBy
  have hn := n.toNat_lt
  have h1 : n.toNat / 2 ^ (8 * (k : Int)).toNat < 2 ^ 64 := Nat.lt_of_le_of_lt (Nat.div_le_self _ _) hn
  have h2 : n.toNat / 2 ^ (8 * ((k + 1 : Nat) : Int)).toNat < 2 ^ 64 := Nat.lt_of_le_of_lt (Nat.div_le_self _ _) hn
  rw [UInt64.toNat_ofNat_of_lt' h1, UInt64.toNat_ofNat_of_lt' h2]
  have e1 : (8 * ((k + 1 : Nat) : Int)).toNat = (8 * (k : Int)).toNat + 8 := by omega
  rw [e1, Nat.pow_add, ← Nat.div_div_eq_div_mul]; rfl
theorem putRef_step (n : UInt64) (k : Nat) : [(shrBy n k % UInt64.ofNat 256).toUInt8] ++ putNum n k = putNum n (k + 1) := by
  have : (shrBy n k % UInt64.ofNat 256).toUInt8 = byteAt n k := by
    show _ = (shrBy n k).toUInt8
    rw [← UInt8.toNat_inj, UInt64.toNat_toUInt8, UInt64.toNat_toUInt8, UInt64.toNat_mod]
    show (shrBy n k).toNat % 256 % 2 ^ 8 = _
    omega
  rw [this]; rfl
theorem putOf_some {n : UInt64} {m : Int} (h1 : 1 ≤ m) (h2 : m ≤ 8) : putOf n m = putNum n m.toNat := by unfold putOf; rw [if_pos ⟨h1, h2⟩]
theorem putOf_le (n : UInt64) (m : Int) : (putOf n m).length ≤ 8 := by
  unfold putOf; split
  · rw [putNum_length]; omega
  · simp
theorem flat_step {α : Type} {xss : List (List α)} {k : Nat} (hk : k < xss.length) : (xss.take (k + 1)).flatten = (xss.take k).flatten ++ xss[k] := by
  rw [take_step hk, List.flatten_append]; simp
theorem flat_take_le {α : Type} (xss : List (List α)) (k : Nat) : (xss.take k).flatten.length ≤ xss.flatten.length := by
  have h := List.take_append_drop k xss
  have h2 : (xss.take k).flatten ++ (xss.drop k).flatten = xss.flatten := by rw [← List.flatten_append, h]
  rw [← h2, List.length_append]; omega
theorem flat_le {α : Type} {xss : List (List α)} {k : Nat} (hk : k < xss.length) : (xss.take k).flatten.length + xss[k].length ≤ xss.flatten.length := by
  have := flat_take_le xss (k + 1)
  rw [flat_step hk, List.length_append] at this; exact this
/-- bytes with their sum behind them -/
def sealed (xs : List UInt8) : List UInt8 := xs ++ putOf (crcOn 0 xs).toUInt64 4
/-- what was sealed, and the error's number -/
def openOf (xs : List UInt8) : List UInt8 × Int :=
  if xs.length < 4 then ([], 3) else if (crcOn 0 (xs.take (xs.length - 4))).toUInt64 ≠ getNum (xs.drop (xs.length - 4)) then ([], 4) else (xs.take (xs.length - 4), 0)
theorem openOf_long {xs : List UInt8} (h : xs.length < 4) : (openOf xs).1 = [] ∧ (openOf xs).2 = 3 := by unfold openOf; rw [if_pos h]; exact ⟨rfl, rfl⟩
theorem toNat4 {xs : List UInt8} : ((xs.length : Int) - 4).toNat = xs.length - 4 := by omega
theorem openOf_sum {xs : List UInt8} (h : ¬ xs.length < 4) (h2 : (crcOn 0 (xs.take ((xs.length : Int) - 4).toNat)).toUInt64 ≠ getNum (xs.drop ((xs.length : Int) - 4).toNat)) : (openOf xs).1 = [] ∧ (openOf xs).2 = 4 := by
  rw [toNat4] at h2
  unfold openOf; rw [if_neg h, if_pos h2]; exact ⟨rfl, rfl⟩
theorem openOf_ok {xs : List UInt8} (h : ¬ xs.length < 4) (h2 : ¬ (crcOn 0 (xs.take ((xs.length : Int) - 4).toNat)).toUInt64 ≠ getNum (xs.drop ((xs.length : Int) - 4).toNat)) : (openOf xs).1 = xs.take ((xs.length : Int) - 4).toNat ∧ (openOf xs).2 = 0 := by
  rw [toNat4] at h2 ⊢
  unfold openOf; rw [if_neg h, if_neg h2]; exact ⟨rfl, rfl⟩

/-! numbers and their bytes -/
theorem byteAt_toNat (n : UInt64) (k : Nat) : (byteAt n k).toNat = n.toNat / 256 ^ k % 256 := by
  unfold byteAt
  have h1 : n.toNat / 2 ^ (8 * (k : Int)).toNat < 2 ^ 64 := Nat.lt_of_le_of_lt (Nat.div_le_self _ _) n.toNat_lt
  rw [UInt64.toNat_toUInt8, UInt64.toNat_ofNat_of_lt' h1]
  rw [show (8 * (k : Int)).toNat = 8 * k by omega, Nat.pow_mul]
/-- the number that bytes are, as a natural one -/
def natNum (xs : List UInt8) : Nat := xs.foldl (fun n x => n * 256 + x.toNat) 0
theorem natNum_from (xs : List UInt8) (a : Nat) : xs.foldl (fun n x => n * 256 + x.toNat) a = a * 256 ^ xs.length + natNum xs := by
  unfold natNum
  induction xs generalizing a with
  | nil => simp
  | cons x xs ih =>
    simp only [List.foldl_cons, List.length_cons]
    rw [ih, ih (0 * 256 + x.toNat), Nat.pow_succ, Nat.zero_mul, Nat.zero_add, Nat.add_mul, Nat.mul_comm (256 ^ xs.length) 256, ← Nat.mul_assoc]; omega
theorem natNum_cons (x : UInt8) (xs : List UInt8) : natNum (x :: xs) = x.toNat * 256 ^ xs.length + natNum xs := by
  show (xs.foldl _ (0 * 256 + x.toNat)) = _
  rw [natNum_from]; simp
theorem natNum_lt (xs : List UInt8) : natNum xs < 256 ^ xs.length := by
  induction xs with
  | nil => simp [natNum]
  | cons x xs ih =>
    rw [natNum_cons, List.length_cons, Nat.pow_succ]
    have := x.toNat_lt
    have h : x.toNat * 256 ^ xs.length ≤ 255 * 256 ^ xs.length := Nat.mul_le_mul_right _ (by omega)
    omega
theorem natNum_put (n : UInt64) (k : Nat) : natNum (putNum n k) = n.toNat % 256 ^ k := by
  induction k with
  | zero => simp [putNum, natNum, Nat.mod_one]
  | succ k ih =>
    rw [putNum, natNum_cons, ih, putNum_length, byteAt_toNat, Nat.pow_succ, Nat.mod_mul]
    rw [Nat.mul_comm (256 ^ k)]; omega
theorem getNum_nat (xs : List UInt8) : (getNum xs).toNat = natNum xs % 2 ^ 64 := by
  have h : ∀ (xs : List UInt8) (a : UInt64) (b : Nat), a.toNat = b % 2 ^ 64 → (xs.foldl (fun n x => UInt64.ofNat (n.toNat * 2 ^ (8 : Int).toNat) ||| x.toUInt64) a).toNat = (xs.foldl (fun n x => n * 256 + x.toNat) b) % 2 ^ 64 := by
    intro xs
    induction xs with
    | nil => intro a b h; simpa using h
    | cons x xs ih =>
      intro a b h
      simp only [List.foldl_cons]
      refine ih _ _ ?_
      rw [or_add, UInt64.toNat_add, UInt64.toNat_mul, UInt8.toNat_toUInt64, h]
      show (b % 2 ^ 64 * 256 % 2 ^ 64 + x.toNat) % 2 ^ 64 = _
      omega
  exact h xs 0 0 rfl
theorem get_put (n : UInt64) {k : Nat} (hk : k ≤ 8) : (getNum (putNum n k)).toNat = n.toNat % 256 ^ k := by
  rw [getNum_nat, natNum_put]
  have : 256 ^ k ≤ 2 ^ 64 := Nat.le_trans (Nat.pow_le_pow_right (by decide) hk) (by decide)
  have h2 : n.toNat % 256 ^ k < 256 ^ k := Nat.mod_lt _ (Nat.pow_pos (by decide))
  omega
theorem put_get (xs : List UInt8) (h : xs.length ≤ 8) : putNum (getNum xs) xs.length = xs := by
  have hval : (getNum xs).toNat = natNum xs := by
    rw [getNum_nat]
    have h1 := natNum_lt xs
    have : 256 ^ xs.length ≤ 2 ^ 64 := Nat.le_trans (Nat.pow_le_pow_right (by decide) h) (by decide)
    omega
  have key : ∀ (ys : List UInt8) (n : UInt64), (∃ c, n.toNat = c * 256 ^ ys.length + natNum ys) → putNum n ys.length = ys := by
    intro ys
    induction ys with
    | nil => intro n _; rfl
    | cons y ys ih =>
      intro n ⟨c, hc⟩
      rw [natNum_cons, List.length_cons, Nat.pow_succ] at hc
      have hlt := natNum_lt ys
      have hy := y.toNat_lt
      have hp : 0 < 256 ^ ys.length := Nat.pow_pos (by decide)
      have hc2 : n.toNat = (c * 256 + y.toNat) * 256 ^ ys.length + natNum ys := by rw [hc, Nat.add_mul, Nat.mul_assoc, Nat.mul_comm 256]; omega
      show byteAt n ys.length :: putNum n ys.length = y :: ys
      rw [ih n ⟨_, hc2⟩]
      congr 1
      rw [← UInt8.toNat_inj, byteAt_toNat, hc2, Nat.mul_comm (c * 256 + y.toNat), Nat.mul_add_div hp, Nat.div_eq_of_lt hlt]
      omega
  exact key xs _ ⟨0, by rw [hval]; simp⟩
theorem put_inj {n m : UInt64} {k : Nat} (h : putNum n k = putNum m k) : n.toNat % 256 ^ k = m.toNat % 256 ^ k := by
  rw [← natNum_put, ← natNum_put, h]

theorem sum_bytes {s : UInt32} {ys : List UInt8} (hy : ys.length = 4) : s.toUInt64 = getNum ys ↔ putOf s.toUInt64 4 = ys := by
  rw [putOf_some (by decide) (by decide)]
  constructor
  · intro h; rw [h]
    have := put_get ys (by omega)
    rw [hy] at this; exact this
  · intro h
    have h1 := get_put s.toUInt64 (k := (4 : Int).toNat) (by decide)
    rw [h] at h1
    rw [← UInt64.toNat_inj, h1]
    have h2 : s.toUInt64.toNat = s.toNat := by simp
    have := s.toNat_lt
    rw [h2]
    show s.toNat = s.toNat % 256 ^ 4
    omega
theorem sealed_iff {xs : List UInt8} (h : ¬ xs.length < 4) : sealed (xs.take (xs.length - 4)) = xs ↔ (crcOn 0 (xs.take (xs.length - 4))).toUInt64 = getNum (xs.drop (xs.length - 4)) := by
  have e := List.take_append_drop (xs.length - 4) xs
  have hl : (xs.drop (xs.length - 4)).length = 4 := by simp; omega
  rw [sum_bytes hl]
  unfold sealed
  constructor
  · intro h1
    rw [← List.append_cancel_left_eq (xs.take (xs.length - 4)), h1, e]
  · intro h1; rw [h1, e]
theorem openOf_ref1 {xs : List UInt8} (h : ¬ xs.length < 4) (h2 : sealed (xs.take ((xs.length : Int) - 4).toNat) ≠ xs) : (openOf xs).1 = [] ∧ (openOf xs).2 = 4 := by
  rw [toNat4] at h2
  exact openOf_sum h (by rw [toNat4]; exact fun e => h2 ((sealed_iff h).2 e))
theorem openOf_ref0 {xs : List UInt8} (h : ¬ xs.length < 4) (h2 : ¬ sealed (xs.take ((xs.length : Int) - 4).toNat) ≠ xs) : (openOf xs).1 = xs.take ((xs.length : Int) - 4).toNat ∧ (openOf xs).2 = 0 := by
  rw [toNat4] at h2
  have h3 : sealed (xs.take (xs.length - 4)) = xs := Decidable.not_not.1 h2
  exact openOf_ok h (by rw [toNat4]; exact fun e => e ((sealed_iff h).1 h3))
end Go.Proofs.Ytfdmajkeihdhnaa.Tr
