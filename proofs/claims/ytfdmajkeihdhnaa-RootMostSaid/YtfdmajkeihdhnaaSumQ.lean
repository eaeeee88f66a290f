/- The plain laws of the sum. Conditions: none. -/
import Derived.Test.YtfdmajkeihdhnaaSumP
namespace Go.Proofs.Ytfdmajkeihdhnaa.Tr
theorem not_not32 (x : UInt32) : ~~~(~~~x) = x := UInt32.not_not
theorem crc_two (a b : List UInt8) : crcOn (crcOn 0 a) b = crcOn 0 (a ++ b) := by
  unfold crcOn crcBytes
  rw [not_not32, List.foldl_append]

/-! numbers -/
theorem u8_add_lo {x : UInt8} {k : Int} (h : 0 ≤ k) : -9223372036854775808 ≤ (x.toNat : Int) + k := by omega
theorem u8_add_hi {x : UInt8} {k : Int} (h : k ≤ 1000) : (x.toNat : Int) + k ≤ 9223372036854775807 := by have := x.toNat_lt; omega
theorem u8_mul_lo {x : UInt8} : -9223372036854775808 ≤ 8 * ((x.toNat : Int) + 1) := by omega
theorem u8_mul_hi {x : UInt8} : 8 * ((x.toNat : Int) + 1) ≤ 9223372036854775807 := by have := x.toNat_lt; omega
theorem shl_pow {k : Nat} {z : Int} (hz : z = k) (hk : k < 8) : UInt64.ofNat ((UInt64.ofNat 1).toNat * 2 ^ (((UInt64.ofInt (8 * z)).toNat : Int)).toNat) = UInt64.ofNat (256 ^ k) := by
  subst hz
  rcases (by omega : k = 0 ∨ k = 1 ∨ k = 2 ∨ k = 3 ∨ k = 4 ∨ k = 5 ∨ k = 6 ∨ k = 7) with rfl | rfl | rfl | rfl | rfl | rfl | rfl | rfl <;> rfl
theorem pow256 {k : Nat} (hk : k < 8) : 256 ^ k < 2 ^ 64 := Nat.lt_of_le_of_lt (Nat.pow_le_pow_right (by decide) (by omega : k ≤ 7)) (by decide)
theorem pow_ne {k : Nat} (hk : k < 8) : UInt64.ofNat (256 ^ k) ≠ 0 := fun e => by
  have := congrArg UInt64.toNat e
  rw [UInt64.toNat_ofNat_of_lt' (pow256 hk)] at this
  have h2 : 0 < 256 ^ k := Nat.pow_pos (by decide)
  have h3 : (0 : UInt64).toNat = 0 := rfl
  omega
theorem rest_lt {n : UInt64} {k : Nat} (hk : k < 8) : n % UInt64.ofNat (256 ^ k) = UInt64.ofNat (n.toNat % 256 ^ k) := by
  rw [← UInt64.toNat_inj, UInt64.toNat_mod, UInt64.toNat_ofNat_of_lt' (pow256 hk), UInt64.toNat_ofNat_of_lt' (Nat.lt_trans (Nat.mod_lt _ (Nat.pow_pos (by decide))) (pow256 hk))]
theorem rest_eight (n : UInt64) {k : Nat} (hk : k = 8) : n = UInt64.ofNat (n.toNat % 256 ^ k) := by
  subst hk
  have := n.toNat_lt
  rw [← UInt64.toNat_inj, Nat.mod_eq_of_lt (by omega), UInt64.toNat_ofNat_of_lt' this]
theorem get_putOf {n : UInt64} {k : Nat} {z : Int} (hz : z = k) (h1 : 1 ≤ k) (h2 : k ≤ 8) : getNum (putOf n z) = UInt64.ofNat (n.toNat % 256 ^ k) := by
  subst hz
  rw [putOf_some (by omega) (by omega), ← UInt64.toNat_inj, show (k : Int).toNat = k by omega, get_put n h2]
  have h3 : n.toNat % 256 ^ k < 2 ^ 64 := Nat.lt_of_le_of_lt (Nat.mod_le _ _) n.toNat_lt
  rw [UInt64.toNat_ofNat_of_lt' h3]
theorem putOf_length {n : UInt64} {k : Nat} {z : Int} (hz : z = k) (h1 : 1 ≤ k) (h2 : k ≤ 8) : (putOf n z).length = k := by
  subst hz
  rw [putOf_some (by omega) (by omega), putNum_length]; omega
theorem putOf_nine (n : UInt64) : putOf n 9 = [] := putOf_none (by omega)
theorem put_get_of {b : List UInt8} (h : b.length ≤ 8) (h0 : b.length ≠ 0) : putOf (getNum b) b.length = b := by
  rw [putOf_some (by omega) (by omega), show (b.length : Int).toNat = b.length by omega]
  exact put_get b h
theorem numbers_end (b : List UInt8) : (decide (((b.take (min (b.length : Int) 8).toNat).length : Int) = 0) || decide (putOf (getNum (b.take (min (b.length : Int) 8).toNat)) ((b.take (min (b.length : Int) 8).toNat).length : Int) = b.take (min (b.length : Int) 8).toNat)) = true := by
  generalize hc : b.take (min (b.length : Int) 8).toNat = c
  have hl : c.length ≤ 8 := by rw [← hc, List.length_take]; omega
  by_cases h0 : c.length = 0
  · simp [h0]
  · rw [put_get_of hl h0]; simp

/-! the sum's steps: each is linear, none loses anything -/
def polyN : Nat := 3988292384
def stepN (n : Nat) : Nat := (n / 2) ^^^ (if n % 2 = 1 then polyN else 0)
theorem crcBit_nat (n : UInt32) : (crcBit n).toNat = stepN n.toNat := by
  unfold crcBit stepN
  rw [half32, and1, UInt32.toNat_xor, UInt32.toNat_div, UInt32.toNat_mul, UInt32.toNat_mod]
  have h2 : (2 : UInt32).toNat = 2 := rfl
  have hp : crcPoly.toNat = polyN := rfl
  rw [h2, hp]
  split
  · rename_i h; rw [h]; rfl
  · rename_i h
    have : n.toNat % 2 = 0 := by omega
    rw [this]; rfl
theorem xor_half (a b : Nat) : (a ^^^ b) / 2 = a / 2 ^^^ b / 2 := by
  have h : ∀ n : Nat, n / 2 = n >>> 1 := fun n => rfl
  rw [h, h, h, Nat.shiftRight_xor_distrib]
theorem xor_odd (a b : Nat) : (a ^^^ b) % 2 = (a % 2 + b % 2) % 2 := by
  have h0 : (a ^^^ b).testBit 0 = (a.testBit 0 ^^ b.testBit 0) := Nat.testBit_xor a b 0
  simp only [Nat.testBit_zero] at h0
  have h1 : a % 2 = 0 ∨ a % 2 = 1 := by omega
  have h2 : b % 2 = 0 ∨ b % 2 = 1 := by omega
  have h3 : (a ^^^ b) % 2 = 0 ∨ (a ^^^ b) % 2 = 1 := by omega
  rcases h1 with h1 | h1 <;> rcases h2 with h2 | h2 <;> rcases h3 with h3 | h3 <;> rw [h1, h2, h3] at h0 <;> simp_all
theorem stepN_xor (a b : Nat) : stepN (a ^^^ b) = stepN a ^^^ stepN b := by
  unfold stepN
  rw [xor_half, xor_odd]
  have h1 : a % 2 = 0 ∨ a % 2 = 1 := by omega
  have h2 : b % 2 = 0 ∨ b % 2 = 1 := by omega
  rcases h1 with h1 | h1 <;> rcases h2 with h2 | h2 <;> rw [h1, h2] <;> simp
  · rw [Nat.xor_assoc]
  · rw [Nat.xor_assoc, Nat.xor_assoc, Nat.xor_comm polyN]
  · rw [Nat.xor_assoc, ← Nat.xor_assoc polyN, Nat.xor_comm polyN, Nat.xor_assoc, Nat.xor_self, Nat.xor_zero]
theorem crcBit_xor (a b : UInt32) : crcBit (a ^^^ b) = crcBit a ^^^ crcBit b := by
  rw [← UInt32.toNat_inj, UInt32.toNat_xor, crcBit_nat, crcBit_nat, crcBit_nat, UInt32.toNat_xor, stepN_xor]
theorem stepN_zero {a : Nat} (ha : a < 2 ^ 32) (h : stepN a = 0) : a = 0 := by
  unfold stepN at h
  split at h
  · exfalso
    have h1 : a / 2 = polyN := by
      have := congrArg (fun z => z ^^^ polyN) h
      simpa [Nat.xor_assoc] using this
    have : polyN = 3988292384 := rfl
    omega
  · simp at h; omega
theorem crcBits_xor (k : Nat) (a b : UInt32) : crcBits k (a ^^^ b) = crcBits k a ^^^ crcBits k b := by
  induction k with
  | zero => rfl
  | succ k ih => show crcBit (crcBits k _) = _; rw [ih, crcBit_xor]; rfl
theorem crcBits_zero {k : Nat} {a : UInt32} (h : crcBits k a = 0) : a = 0 := by
  induction k with
  | zero => exact h
  | succ k ih =>
    refine ih ?_
    have h1 : crcBit (crcBits k a) = 0 := h
    rw [← UInt32.toNat_inj, crcBit_nat] at h1
    rw [← UInt32.toNat_inj]
    exact stepN_zero (crcBits k a).toNat_lt h1
theorem xor_zero_iff (a b : UInt32) : a ^^^ b = 0 ↔ a = b := UInt32.xor_eq_zero_iff
theorem crcBits_inj {k : Nat} {a b : UInt32} (h : crcBits k a = crcBits k b) : a = b := by
  rw [← xor_zero_iff] at h ⊢
  rw [← crcBits_xor] at h
  exact crcBits_zero h
theorem u32_inj {x y : UInt8} (h : x.toUInt32 = y.toUInt32) : x = y := by
  rw [← UInt32.toNat_inj] at h
  simpa [UInt8.toNat_inj] using h
theorem not_inj {a b : UInt32} (h : ~~~a = ~~~b) : a = b := by rw [← not_not32 a, h, not_not32]
theorem crc_last (n : UInt32) (x y : UInt8) : crcOn n [x] = crcOn n [y] ↔ x = y := by
  refine ⟨fun h => ?_, fun h => by rw [h]⟩
  unfold crcOn at h
  have h1 := crcBits_inj (k := 8) (a := ~~~n ^^^ x.toUInt32) (b := ~~~n ^^^ y.toUInt32) (not_inj h)
  refine u32_inj ?_
  have := congrArg (fun z => ~~~n ^^^ z) h1
  simpa [← UInt32.xor_assoc] using this
theorem crc_take (a : List UInt8) (p j : Nat) : crcOn (crcOn 0 (a.take p)) ((a.drop p).take j) = crcOn 0 (a.take (p + j)) := by
  rw [crc_two, List.take_add]
theorem crc_drop (a : List UInt8) (p : Nat) : crcOn (crcOn 0 (a.take p)) (a.drop p) = crcOn 0 a := by
  rw [crc_two, List.take_append_drop]
end Go.Proofs.Ytfdmajkeihdhnaa.Tr
