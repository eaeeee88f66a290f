/- One bit turned, or two, in what was sealed. Conditions: none. -/
import Derived.Test.YtfdmajkeihdhnaaSumQ
namespace Go.Proofs.Ytfdmajkeihdhnaa.Tr
set_option linter.unusedVariables false
/-- no state of the next k is the first one -/
def farFrom : Nat → Nat → Bool
  | 0, _ => true
  | k + 1, n => n != 2147483648 && farFrom k (stepN n)
theorem far_all : farFrom 8100 (stepN 2147483648) = true := by decide +kernel
/-- what a single one comes to behind k steps -/
def uAt (k : Nat) : UInt32 := crcBits k 2147483648
theorem far_ne : ∀ (k : Nat) (a : UInt32), farFrom k a.toNat = true → ∀ j, j < k → crcBits j a ≠ 2147483648
  | 0, _, _, j, hj => by omega
  | k + 1, a, h, 0, _ => fun e => by
    have e : a = 2147483648 := e
    subst e
    simp [farFrom] at h
  | k + 1, a, h, j + 1, hj => by
    simp only [farFrom, Bool.and_eq_true] at h
    have h2 := h.2
    rw [← crcBit_nat] at h2
    have := far_ne k (crcBit a) h2 j (by omega)
    have e : ∀ j, crcBits (j + 1) a = crcBits j (crcBit a) := fun j => by
      induction j with
      | zero => rfl
      | succ j ih => show crcBit (crcBits (j + 1) a) = _; rw [ih]; rfl
    rw [e]; exact this
theorem crcBits_add (i j : Nat) (a : UInt32) : crcBits (i + j) a = crcBits i (crcBits j a) := by
  induction i with
  | zero => rw [Nat.zero_add]; rfl
  | succ i ih => rw [Nat.succ_add]; show crcBit (crcBits (i + j) a) = _; rw [ih]; rfl
theorem uAt_far {j : Nat} (h0 : 0 < j) (h : j ≤ 8100) : uAt j ≠ uAt 0 := fun e => by
  obtain ⟨k, rfl⟩ : ∃ k, j = k + 1 := ⟨j - 1, by omega⟩
  unfold uAt at e
  rw [crcBits_add] at e
  refine far_ne 8100 (crcBits 1 2147483648) ?_ k (by omega) e
  show farFrom 8100 (crcBit 2147483648).toNat = true
  rw [crcBit_nat]
  exact far_all
theorem uAt_lt {i j : Nat} (h : i < j) (hj : j ≤ 8100) : uAt i ≠ uAt j := fun e => by
  obtain ⟨k, rfl⟩ : ∃ k, j = i + k := ⟨j - i, by omega⟩
  unfold uAt at e
  rw [crcBits_add] at e
  exact uAt_far (j := k) (by omega) (by omega) (crcBits_inj e).symm
theorem uAt_inj {i j : Nat} (hi : i ≤ 8100) (hj : j ≤ 8100) (e : uAt i = uAt j) : i = j := by
  rcases Nat.lt_trichotomy i j with h | h | h
  · exact absurd e (uAt_lt h hj)
  · exact h
  · exact absurd e.symm (uAt_lt h hi)
theorem uAt_ne (i : Nat) : uAt i ≠ 0 := fun e => by
  have := crcBits_zero e
  exact absurd this (by decide)
theorem uAt_one : ∀ j, j < 32 → uAt (31 - j) = UInt32.ofNat (2 ^ j) := by decide +kernel

/-! the sum of bytes with a bit turned -/
theorem crcBytes_xor (a d : UInt32) (ys : List UInt8) : crcBytes (a ^^^ d) ys = crcBytes a ys ^^^ crcBits (8 * ys.length) d := by
  induction ys generalizing a d with
  | nil => rfl
  | cons y ys ih =>
    show crcBytes (crcBits 8 (a ^^^ d ^^^ y.toUInt32)) ys = crcBytes (crcBits 8 (a ^^^ y.toUInt32)) ys ^^^ _
    have e : a ^^^ d ^^^ y.toUInt32 = (a ^^^ y.toUInt32) ^^^ d := by rw [UInt32.xor_assoc, UInt32.xor_comm d, UInt32.xor_assoc]
    rw [e, crcBits_xor, ih, List.length_cons, Nat.mul_add, crcBits_add]
theorem crcBytes_set (n : UInt32) (d : List UInt8) (p : Nat) (hp : p < d.length) (m : UInt8) : crcBytes n (d.set p (d[p] ^^^ m)) = crcBytes n d ^^^ crcBits (8 * (d.length - p)) m.toUInt32 := by
  induction d generalizing n p with
  | nil => simp at hp
  | cons y ys ih =>
    cases p with
    | zero =>
      show crcBytes (crcBits 8 (n ^^^ (y ^^^ m).toUInt32)) ys = crcBytes (crcBits 8 (n ^^^ y.toUInt32)) ys ^^^ _
      have e : n ^^^ (y ^^^ m).toUInt32 = (n ^^^ y.toUInt32) ^^^ m.toUInt32 := by rw [UInt8.toUInt32_xor, UInt32.xor_assoc]
      rw [e, crcBits_xor, crcBytes_xor, ← crcBits_add]
      simp [Nat.mul_add]
    | succ p =>
      show crcBytes (crcBits 8 (n ^^^ y.toUInt32)) (ys.set p (ys[p]'(by simpa using hp) ^^^ m)) = crcBytes (crcBits 8 (n ^^^ y.toUInt32)) ys ^^^ _
      rw [ih _ _ (by simpa using hp)]
      simp
theorem not_xor (a b : UInt32) : ~~~(a ^^^ b) = ~~~a ^^^ b := by
  rw [← UInt32.toBitVec_inj]
  simp only [UInt32.toBitVec_not, UInt32.toBitVec_xor]
  ext i hi
  simp
/-- bit x turned -/
def flip (s : List UInt8) (x : Nat) : List UInt8 := s.set (x / 8) (s.getD (x / 8) 0 ^^^ UInt8.ofNat (2 ^ (x % 8)))
theorem flip_length (s : List UInt8) (x : Nat) : (flip s x).length = s.length := by simp [flip]
theorem flip_flip {s : List UInt8} {x : Nat} (h : x / 8 < s.length) : flip (flip s x) x = s := by
  unfold flip
  rw [List.set_set]
  have e : (s.set (x / 8) (s.getD (x / 8) 0 ^^^ UInt8.ofNat (2 ^ (x % 8)))).getD (x / 8) 0 = s[x / 8] ^^^ UInt8.ofNat (2 ^ (x % 8)) := by
    rw [List.getD_eq_getElem?_getD, List.getElem?_set_self h]
    simp [List.getD_eq_getElem?_getD, List.getElem?_eq_getElem h]
  rw [e, UInt8.xor_assoc, UInt8.xor_self, UInt8.xor_zero]
  exact List.set_getElem_self h
theorem pow_u32 : ∀ j, j < 8 → (UInt8.ofNat (2 ^ j)).toUInt32 = uAt (31 - j) := by decide +kernel
theorem crc_flip {d : List UInt8} {x : Nat} (h : x / 8 < d.length) : crcOn 0 (flip d x) = crcOn 0 d ^^^ uAt (8 * (d.length - x / 8) + (31 - x % 8)) := by
  unfold flip crcOn
  rw [List.getD_eq_getElem?_getD, List.getElem?_eq_getElem h, Option.getD_some, crcBytes_set _ _ _ h, not_xor, pow_u32 _ (Nat.mod_lt _ (by decide))]
  unfold uAt
  rw [crcBits_add]

/-! the number's bytes with a bit turned -/
theorem byteAt_xor (n : UInt64) {q j : Nat} (hq : q < 8) (hj : j < 8) (k : Nat) (hk : k < 8) : byteAt (n ^^^ UInt64.ofNat (2 ^ (8 * q + j))) k = if k = q then byteAt n k ^^^ UInt8.ofNat (2 ^ j) else byteAt n k := by
  have hp : 2 ^ (8 * q + j) < 2 ^ 64 := Nat.pow_lt_pow_right (by decide) (by omega)
  have hp2 : 2 ^ j < 2 ^ 8 := Nat.pow_lt_pow_right (by decide) hj
  have e256 : ∀ k, 256 ^ k = 2 ^ (8 * k) := fun k => by rw [Nat.pow_mul]
  have key : (n ^^^ UInt64.ofNat (2 ^ (8 * q + j))).toNat / 256 ^ k % 256 = (n.toNat / 256 ^ k % 256) ^^^ (if k = q then 2 ^ j else 0) := by
    rw [UInt64.toNat_xor, UInt64.toNat_ofNat_of_lt' hp, e256, show 256 = 2 ^ 8 from rfl]
    refine Nat.eq_of_testBit_eq fun i => ?_
    rw [Nat.testBit_mod_two_pow, Nat.testBit_div_two_pow, Nat.testBit_xor, Nat.testBit_xor, Nat.testBit_mod_two_pow, Nat.testBit_div_two_pow, Nat.testBit_two_pow]
    by_cases hi : i < 8
    · by_cases hkq : k = q
      · subst hkq
        rw [if_pos rfl, Nat.testBit_two_pow, decide_eq_true hi, Bool.true_and, Bool.true_and]
        congr 1
        rw [decide_eq_decide]; omega
      · rw [if_neg hkq, Nat.zero_testBit, decide_eq_true hi, Bool.true_and, Bool.true_and, decide_eq_false (by omega)]
    · rw [decide_eq_false hi, Bool.false_and, Bool.false_and, Bool.false_xor]
      by_cases hkq : k = q
      · rw [if_pos hkq, Nat.testBit_two_pow, decide_eq_false (by omega)]
      · rw [if_neg hkq, Nat.zero_testBit]
  rw [← UInt8.toNat_inj, byteAt_toNat, key]
  split
  · rw [UInt8.toNat_xor, byteAt_toNat, UInt8.toNat_ofNat_of_lt' hp2]
  · rw [Nat.xor_zero, byteAt_toNat]
theorem putNum_xor (n : UInt64) {q j : Nat} (hq : q < 8) (hj : j < 8) : ∀ (k : Nat), k ≤ 8 → putNum (n ^^^ UInt64.ofNat (2 ^ (8 * q + j))) k = if q < k then (putNum n k).set (k - 1 - q) (byteAt n q ^^^ UInt8.ofNat (2 ^ j)) else putNum n k
  | 0, _ => by simp [putNum]
  | k + 1, hk => by
    rw [putNum, putNum_xor n hq hj k (by omega), byteAt_xor n hq hj k (by omega)]
    by_cases h1 : k = q
    · subst h1; simp [putNum]
    · by_cases h2 : q < k
      · rw [if_neg h1, if_pos h2, if_pos (by omega), putNum, show k + 1 - 1 - q = (k - 1 - q) + 1 by omega, List.set_cons_succ]
      · rw [if_neg h1, if_neg h2, if_neg (by omega), putNum]
theorem putNum_at (n : UInt64) : ∀ (k i : Nat), i < k → (putNum n k).getD i 0 = byteAt n (k - 1 - i)
  | 0, _, h => by omega
  | k + 1, 0, _ => by simp [putNum]
  | k + 1, i + 1, h => by
    rw [putNum, List.getD_cons_succ, putNum_at n k i (by omega)]
    congr 1; omega

/-! what is sealed, as bytes and a number -/
def stOf (d : List UInt8) (c : UInt32) : List UInt8 := d ++ putNum c.toUInt64 4
def synOf (d : List UInt8) (c : UInt32) : UInt32 := crcOn 0 d ^^^ c
def idxOf (l x : Nat) : Nat := if x / 8 < l then 8 * (l - x / 8) + (31 - x % 8) else 31 - (8 * (3 - (x / 8 - l)) + x % 8)
theorem stOf_length (d : List UInt8) (c : UInt32) : (stOf d c).length = d.length + 4 := by simp [stOf, putNum_length]
theorem sealed_st (d : List UInt8) : sealed d = stOf d (crcOn 0 d) := by
  unfold sealed stOf
  rw [putOf_some (by decide) (by decide)]; rfl
theorem open_st (d : List UInt8) (c : UInt32) : openOf (stOf d c) = if synOf d c = 0 then (d, 0) else ([], 4) := by
  have hl := stOf_length d c
  have e1 : (stOf d c).take ((stOf d c).length - 4) = d := by rw [hl]; simp [stOf]
  have e2 : (stOf d c).drop ((stOf d c).length - 4) = putNum c.toUInt64 4 := by rw [hl]; simp [stOf]
  have e3 : getNum (putNum c.toUInt64 4) = c.toUInt64 := by
    rw [← UInt64.toNat_inj, get_put _ (by decide)]
    have := c.toNat_lt
    rw [UInt32.toNat_toUInt64]
    omega
  unfold openOf
  rw [if_neg (by omega), e1, e2, e3]
  unfold synOf
  by_cases h : crcOn 0 d = c
  · rw [if_neg (by rw [h]; simp), if_pos (by rw [h]; simp)]
  · rw [if_pos (fun e => h (by rw [← UInt32.toNat_inj]; have := congrArg UInt64.toNat e; simpa using this)), if_neg (fun e => h ((xor_zero_iff _ _).1 e))]
theorem flip_st {d : List UInt8} {c : UInt32} {x : Nat} (hx : x < 8 * (d.length + 4)) : ∃ d' c', flip (stOf d c) x = stOf d' c' ∧ d'.length = d.length ∧ synOf d' c' = synOf d c ^^^ uAt (idxOf d.length x) := by
  by_cases h : x / 8 < d.length
  · refine ⟨flip d x, c, ?_, flip_length _ _, ?_⟩
    · unfold flip stOf
      rw [List.set_append_left _ _ h]
      congr 2
      rw [List.getD_eq_getElem?_getD, List.getD_eq_getElem?_getD, List.getElem?_append_left h]
    · unfold synOf idxOf
      rw [if_pos h, crc_flip h, UInt32.xor_assoc, UInt32.xor_comm (uAt _), UInt32.xor_assoc]
  · have hj : x % 8 < 8 := Nat.mod_lt _ (by decide)
    have hq : 3 - (x / 8 - d.length) < 8 := by omega
    have hi : x / 8 - d.length < 4 := by omega
    have hb : 8 * (3 - (x / 8 - d.length)) + x % 8 < 32 := by omega
    refine ⟨d, c ^^^ uAt (idxOf d.length x), ?_, rfl, ?_⟩
    · have e1 : idxOf d.length x = 31 - (8 * (3 - (x / 8 - d.length)) + x % 8) := if_neg h
      have e2 : (c ^^^ uAt (idxOf d.length x)).toUInt64 = c.toUInt64 ^^^ UInt64.ofNat (2 ^ (8 * (3 - (x / 8 - d.length)) + x % 8)) := by
        have hp : 2 ^ (8 * (3 - (x / 8 - d.length)) + x % 8) < 2 ^ 32 := Nat.pow_lt_pow_right (by decide) hb
        rw [e1, uAt_one _ hb, ← UInt64.toNat_inj, UInt32.toNat_toUInt64, UInt32.toNat_xor, UInt64.toNat_xor, UInt32.toNat_toUInt64, UInt32.toNat_ofNat_of_lt' hp, UInt64.toNat_ofNat_of_lt' (Nat.lt_trans hp (by decide))]
      unfold flip stOf
      rw [e2, putNum_xor _ hq hj 4 (by decide), if_pos (by omega), List.set_append_right _ _ (by omega), show 4 - 1 - (3 - (x / 8 - d.length)) = x / 8 - d.length by omega]
      congr 3
      rw [List.getD_eq_getElem?_getD, List.getElem?_append_right (by omega), ← List.getD_eq_getElem?_getD, putNum_at _ _ _ hi]
    · unfold synOf
      rw [UInt32.xor_assoc]
theorem idx_inj {l x y : Nat} (hx : x < 8 * (l + 4)) (hy : y < 8 * (l + 4)) (h : idxOf l x = idxOf l y) : x = y := by
  unfold idxOf at h
  split at h <;> split at h <;> omega
theorem idx_le {l x : Nat} (hl : l ≤ 1000) : idxOf l x ≤ 8100 := by
  unfold idxOf
  split <;> omega
theorem sealed_length (b : List UInt8) : (sealed b).length = b.length + 4 := by rw [sealed_st, stOf_length]
theorem find_none (b : List UInt8) : openOf (sealed b) = (b, 0) := by
  rw [sealed_st, open_st, if_pos (by simp [synOf])]
theorem find_one {b : List UInt8} {x : Nat} (hx : x < 8 * (b.length + 4)) : openOf (flip (sealed b) x) = ([], 4) := by
  obtain ⟨d, c, e1, -, e2⟩ := flip_st (d := b) (c := crcOn 0 b) hx
  rw [sealed_st, e1, open_st, if_neg]
  rw [e2]
  simp only [synOf, UInt32.xor_self, UInt32.zero_xor]
  exact uAt_ne _
theorem find_two {b : List UInt8} {x y : Nat} (hb : b.length ≤ 1000) (hx : x < 8 * (b.length + 4)) (hy : y < 8 * (b.length + 4)) (hxy : x ≠ y) : openOf (flip (flip (sealed b) x) y) = ([], 4) := by
  obtain ⟨d, c, e1, e3, e2⟩ := flip_st (d := b) (c := crcOn 0 b) hx
  obtain ⟨d', c', f1, f3, f2⟩ := flip_st (d := d) (c := c) (x := y) (by rw [e3]; exact hy)
  rw [sealed_st, e1, f1, open_st, if_neg]
  rw [f2, e2]
  simp only [synOf, UInt32.xor_self, UInt32.zero_xor]
  rw [xor_zero_iff, e3]
  exact fun e => hxy (idx_inj hx hy (uAt_inj (idx_le hb) (idx_le hb) e))
theorem find_same {b : List UInt8} {x : Nat} (hx : x < 8 * (b.length + 4)) : openOf (flip (flip (sealed b) x) x) = (b, 0) := by
  rw [flip_flip (by rw [sealed_length]; omega), find_none]
theorem flip_raw {s : List UInt8} {x : Nat} (h : ((x : Int) / 8).toNat < s.length) : s.set ((x : Int) / 8).toNat (s[((x : Int) / 8).toNat] ^^^ UInt8.ofNat ((UInt8.ofNat 1).toNat * 2 ^ (((UInt64.ofInt ((x : Int) % 8)).toNat : Int)).toNat)) = flip s x := by
  unfold flip
  have e1 : ((x : Int) / 8).toNat = x / 8 := by omega
  have e2 : ∀ j, j < 8 → UInt8.ofNat ((UInt8.ofNat 1).toNat * 2 ^ (((UInt64.ofInt ((j : Nat) : Int)).toNat : Int)).toNat) = UInt8.ofNat (2 ^ j) := by decide +kernel
  have e3 : ((x : Int) % 8) = ((x % 8 : Nat) : Int) := by omega
  rw [e3, e2 _ (Nat.mod_lt _ (by decide)), List.getD_eq_getElem?_getD, List.getElem?_eq_getElem (by omega)]
  simp only [e1, Option.getD_some]
theorem bit_at (p : UInt16) {l n : Nat} (h : l = n + 4) : ∃ x : Nat, (p.toNat : Int) % (8 * (l : Int)) = x ∧ x < 8 * (n + 4) := by
  subst h
  refine ⟨p.toNat % (8 * (n + 4)), by simp, Nat.mod_lt _ (by omega)⟩
end Go.Proofs.Ytfdmajkeihdhnaa.Tr
