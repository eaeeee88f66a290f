/- What the proof leans on. Conditions: none. -/
import Derived.Test.YtefmfhbkihplgaaZR2
set_option linter.all false
set_option linter.unusedSimpArgs false
set_option linter.unusedVariables false
set_option linter.unusedSectionVars false
namespace Go.Proofs.Ytefmfhbkihplgaa.Tr
def crcPoly : UInt32 := 0xEDB88320
def crcBit (n : UInt32) : UInt32 := UInt32.ofNat (n.toNat / 2 ^ (1 : Int).toNat) ^^^ crcPoly * (n &&& 1)
def crcBits : Nat → UInt32 → UInt32
  | 0, n => n
  | k + 1, n => crcBit (crcBits k n)
def crcBytes (n : UInt32) (xs : List UInt8) : UInt32 := xs.foldl (fun n x => crcBits 8 (n ^^^ x.toUInt32)) n
def crcOn (s : UInt32) (xs : List UInt8) : UInt32 := ~~~crcBytes (~~~s) xs
def getNum (xs : List UInt8) : UInt64 := xs.foldl (fun n x => UInt64.ofNat (n.toNat * 2 ^ (8 : Int).toNat) ||| x.toUInt64) 0
def byteAt (n : UInt64) (k : Nat) : UInt8 := (UInt64.ofNat (n.toNat / 2 ^ (8 * (k : Int)).toNat)).toUInt8
def putNum (n : UInt64) : Nat → List UInt8
  | 0 => []
  | k + 1 => byteAt n k :: putNum n k
def putOf (n : UInt64) (m : Int) : List UInt8 := if 1 ≤ m ∧ m ≤ 8 then putNum n m.toNat else []
theorem take_step {α : Type} {xs : List α} {k : Nat} (hk : k < xs.length) : xs.take (k + 1) = xs.take k ++ [xs[k]] := by
  rw [List.take_succ_eq_append_getElem hk]
theorem crc_step8 {n : UInt32} {xs : List UInt8} {k j : Nat} (hk : k < xs.length) (hj : j = 8) : crcBits j (crcBytes n (xs.take k) ^^^ xs[k].toUInt32) = crcBytes n (xs.take (k + 1)) := by
  subst hj
  rw [take_step hk]
  unfold crcBytes
  rw [List.foldl_append]; rfl
theorem getNum_step {xs : List UInt8} {k : Nat} (hk : k < xs.length) : UInt64.ofNat ((getNum (xs.take k)).toNat * 2 ^ (8 : Int).toNat) ||| xs[k].toUInt64 = getNum (xs.take (k + 1)) := by
  rw [take_step hk]
  unfold getNum
  rw [List.foldl_append]; rfl
theorem and1 (n : UInt32) : n &&& 1 = n % 2 := by
  rw [← UInt32.toNat_inj]
  simp [UInt32.toNat_and]
theorem half32 (n : UInt32) : UInt32.ofNat (n.toNat / 2 ^ (1 : Int).toNat) = n / 2 := by
  rw [← UInt32.toNat_inj, UInt32.toNat_div, UInt32.toNat_ofNat']
  have := n.toNat_lt
  have h2 : (2 : UInt32).toNat = 2 := rfl
  rw [h2, show 2 ^ (1 : Int).toNat = 2 from rfl]
  omega
theorem crc_ref1 {k : Nat} {n : UInt32} (h : crcBits k n % (UInt32.ofNat 2) = UInt32.ofNat 1) : crcBits k n / (UInt32.ofNat 2) ^^^ UInt32.ofNat 3988292384 = crcBits (k + 1) n := by
  show _ = crcBit (crcBits k n)
  unfold crcBit
  have h1 : crcBits k n &&& 1 = 1 := by rw [and1]; exact h
  rw [h1, half32]; rfl
theorem crc_ref0 {k : Nat} {n : UInt32} (h : ¬ crcBits k n % (UInt32.ofNat 2) = UInt32.ofNat 1) : crcBits k n / (UInt32.ofNat 2) = crcBits (k + 1) n := by
  show _ = crcBit (crcBits k n)
  unfold crcBit
  have h1 : crcBits k n &&& 1 = 0 := by
    rw [and1, ← UInt32.toNat_inj, UInt32.toNat_mod]
    have h2 : ¬ (crcBits k n % 2).toNat = 1 := fun e => h (by rw [← UInt32.toNat_inj]; exact e)
    rw [UInt32.toNat_mod] at h2
    have h3 : (2 : UInt32).toNat = 2 := rfl
    rw [h3] at h2 ⊢
    show _ = 0
    omega
  rw [h1, half32]
  simp
theorem crc_refEnd (n : UInt32) : UInt32.ofNat 4294967295 - n = ~~~n := by
  rw [← UInt32.toBitVec_inj]
  simp only [UInt32.toBitVec_sub, UInt32.toBitVec_not]
  show BitVec.allOnes 32 - _ = _
  rw [BitVec.allOnes_sub_eq_not]
theorem or_add (n : UInt64) (x : UInt8) : UInt64.ofNat (n.toNat * 2 ^ (8 : Int).toNat) ||| x.toUInt64 = n * 256 + x.toUInt64 := by
  rw [← UInt64.toNat_inj, UInt64.toNat_or, UInt64.toNat_add, UInt64.toNat_mul, UInt64.toNat_ofNat', UInt8.toNat_toUInt64]
  have hx := x.toNat_lt
  have h1 : (256 : UInt64).toNat = 256 := rfl
  have h2 : 2 ^ (8 : Int).toNat = 256 := rfl
  rw [h1, h2]
  have h3 : n.toNat * 256 % 2 ^ 64 = (n.toNat % 2 ^ 56) <<< 8 := by
    rw [Nat.shiftLeft_eq]; omega
  rw [h3, ← Nat.shiftLeft_add_eq_or_of_lt (by omega), Nat.shiftLeft_eq]
  omega
theorem getNum_ref {xs : List UInt8} {k : Nat} (hk : k < xs.length) : getNum (xs.take k) * UInt64.ofNat 256 + xs[k].toUInt64 = getNum (xs.take (k + 1)) := by
  rw [← getNum_step hk, or_add]; rfl
theorem putNum_length (n : UInt64) (k : Nat) : (putNum n k).length = k := by
  induction k with
  | zero => rfl
  | succ k ih => simp [putNum, ih]
theorem putOf_none {n : UInt64} {m : Int} (h : m < 1 ∨ 8 < m) : putOf n m = [] := by
  unfold putOf; rw [if_neg (by omega)]
def shrBy (n : UInt64) (k : Nat) : UInt64 := UInt64.ofNat (n.toNat / 2 ^ (8 * (k : Int)).toNat)
theorem shrBy_zero (n : UInt64) : shrBy n 0 = n := by simp [shrBy]
theorem shrBy_step (n : UInt64) (k : Nat) : shrBy n k / UInt64.ofNat 256 = shrBy n (k + 1) := by
  rw [← UInt64.toNat_inj, UInt64.toNat_div]
  unfold shrBy
  have hn := n.toNat_lt
  have h1 : n.toNat / 2 ^ (8 * (k : Int)).toNat < 2 ^ 64 := Nat.lt_of_le_of_lt (Nat.div_le_self _ _) hn
  have h2 : n.toNat / 2 ^ (8 * ((k + 1 : Nat) : Int)).toNat < 2 ^ 64 := Nat.lt_of_le_of_lt (Nat.div_le_self _ _) hn
  rw [UInt64.toNat_ofNat_of_lt' h1, UInt64.toNat_ofNat_of_lt' h2]
  have e1 : (8 * ((k + 1 : Nat) : Int)).toNat = (8 * (k : Int)).toNat + 8 := by omega
  rw [e1, Nat.pow_add, ← Nat.div_div_eq_div_mul]; rfl
theorem putRef_step (n : UInt64) (k : Nat) : [(shrBy n k % UInt64.ofNat 256).toUInt8] ++ putNum n k = putNum n (k + 1) := by
  have : (shrBy n k % UInt64.ofNat 256).toUInt8 = byteAt n k := by
    show _ = (shrBy n k).toUInt8
    rw [← UInt8.toNat_inj, UInt64.toNat_toUInt8, UInt64.toNat_toUInt8, UInt64.toNat_mod]
    show (shrBy n k).toNat % 256 % 2 ^ 8 = _
    omega
  rw [this]; rfl
theorem putOf_some {n : UInt64} {m : Int} (h1 : 1 ≤ m) (h2 : m ≤ 8) : putOf n m = putNum n m.toNat := by unfold putOf; rw [if_pos ⟨h1, h2⟩]
theorem putOf_le (n : UInt64) (m : Int) : (putOf n m).length ≤ 8 := by
  unfold putOf; split
  · rw [putNum_length]; omega
  · simp
def sealed (xs : List UInt8) : List UInt8 := xs ++ putOf (crcOn 0 xs).toUInt64 4
def openOf (xs : List UInt8) : List UInt8 × Int :=
  if xs.length < 4 then ([], 3) else if (crcOn 0 (xs.take (xs.length - 4))).toUInt64 ≠ getNum (xs.drop (xs.length - 4)) then ([], 4) else (xs.take (xs.length - 4), 0)
theorem toNat4 {xs : List UInt8} : ((xs.length : Int) - 4).toNat = xs.length - 4 := by omega
theorem openOf_sum {xs : List UInt8} (h : ¬ xs.length < 4) (h2 : (crcOn 0 (xs.take ((xs.length : Int) - 4).toNat)).toUInt64 ≠ getNum (xs.drop ((xs.length : Int) - 4).toNat)) : (openOf xs).1 = [] ∧ (openOf xs).2 = 4 := by
  rw [toNat4] at h2
  unfold openOf; rw [if_neg h, if_pos h2]; exact ⟨rfl, rfl⟩
theorem openOf_ok {xs : List UInt8} (h : ¬ xs.length < 4) (h2 : ¬ (crcOn 0 (xs.take ((xs.length : Int) - 4).toNat)).toUInt64 ≠ getNum (xs.drop ((xs.length : Int) - 4).toNat)) : (openOf xs).1 = xs.take ((xs.length : Int) - 4).toNat ∧ (openOf xs).2 = 0 := by
  rw [toNat4] at h2 ⊢
  unfold openOf; rw [if_neg h, if_neg h2]; exact ⟨rfl, rfl⟩
theorem byteAt_toNat (n : UInt64) (k : Nat) : (byteAt n k).toNat = n.toNat / 256 ^ k % 256 := by
  unfold byteAt
  have h1 : n.toNat / 2 ^ (8 * (k : Int)).toNat < 2 ^ 64 := Nat.lt_of_le_of_lt (Nat.div_le_self _ _) n.toNat_lt
  rw [UInt64.toNat_toUInt8, UInt64.toNat_ofNat_of_lt' h1]
  rw [show (8 * (k : Int)).toNat = 8 * k by omega, Nat.pow_mul]
def natNum (xs : List UInt8) : Nat := xs.foldl (fun n x => n * 256 + x.toNat) 0
theorem natNum_from (xs : List UInt8) (a : Nat) : xs.foldl (fun n x => n * 256 + x.toNat) a = a * 256 ^ xs.length + natNum xs := by
  unfold natNum
  induction xs generalizing a with
  | nil => simp
  | cons x xs ih =>
    simp only [List.foldl_cons, List.length_cons]
    rw [ih, ih (0 * 256 + x.toNat), Nat.pow_succ, Nat.zero_mul, Nat.zero_add, Nat.add_mul, Nat.mul_comm (256 ^ xs.length) 256, ← Nat.mul_assoc]; omega
theorem natNum_cons (x : UInt8) (xs : List UInt8) : natNum (x :: xs) = x.toNat * 256 ^ xs.length + natNum xs := by
  show (xs.foldl _ (0 * 256 + x.toNat)) = _
  rw [natNum_from]; simp
theorem natNum_lt (xs : List UInt8) : natNum xs < 256 ^ xs.length := by
  induction xs with
  | nil => simp [natNum]
  | cons x xs ih =>
    rw [natNum_cons, List.length_cons, Nat.pow_succ]
    have := x.toNat_lt
    have h : x.toNat * 256 ^ xs.length ≤ 255 * 256 ^ xs.length := Nat.mul_le_mul_right _ (by omega)
    omega
theorem natNum_put (n : UInt64) (k : Nat) : natNum (putNum n k) = n.toNat % 256 ^ k := by
  induction k with
  | zero => simp [putNum, natNum, Nat.mod_one]
  | succ k ih =>
    rw [putNum, natNum_cons, ih, putNum_length, byteAt_toNat, Nat.pow_succ, Nat.mod_mul]
    rw [Nat.mul_comm (256 ^ k)]; omega
theorem getNum_nat (xs : List UInt8) : (getNum xs).toNat = natNum xs % 2 ^ 64 := by
  have h : ∀ (xs : List UInt8) (a : UInt64) (b : Nat), a.toNat = b % 2 ^ 64 → (xs.foldl (fun n x => UInt64.ofNat (n.toNat * 2 ^ (8 : Int).toNat) ||| x.toUInt64) a).toNat = (xs.foldl (fun n x => n * 256 + x.toNat) b) % 2 ^ 64 := by
    intro xs
    induction xs with
    | nil => intro a b h; simpa using h
    | cons x xs ih =>
      intro a b h
      simp only [List.foldl_cons]
      refine ih _ _ ?_; rw [or_add, UInt64.toNat_add, UInt64.toNat_mul, UInt8.toNat_toUInt64, h]
      show (b % 2 ^ 64 * 256 % 2 ^ 64 + x.toNat) % 2 ^ 64 = _
      omega
  exact h xs 0 0 rfl
theorem get_put (n : UInt64) {k : Nat} (hk : k ≤ 8) : (getNum (putNum n k)).toNat = n.toNat % 256 ^ k := by
  rw [getNum_nat, natNum_put]
  have : 256 ^ k ≤ 2 ^ 64 := Nat.le_trans (Nat.pow_le_pow_right (by decide) hk) (by decide)
  have h2 : n.toNat % 256 ^ k < 256 ^ k := Nat.mod_lt _ (Nat.pow_pos (by decide))
  omega
theorem put_get (xs : List UInt8) (h : xs.length ≤ 8) : putNum (getNum xs) xs.length = xs := by
  have hval : (getNum xs).toNat = natNum xs := by
    rw [getNum_nat]
    have h1 := natNum_lt xs
    have : 256 ^ xs.length ≤ 2 ^ 64 := Nat.le_trans (Nat.pow_le_pow_right (by decide) h) (by decide)
    omega
  have key : ∀ (ys : List UInt8) (n : UInt64), (∃ c, n.toNat = c * 256 ^ ys.length + natNum ys) → putNum n ys.length = ys := by
    intro ys
    induction ys with
    | nil => intro n _; rfl
    | cons y ys ih =>
      intro n ⟨c, hc⟩
      rw [natNum_cons, List.length_cons, Nat.pow_succ] at hc
      have hlt := natNum_lt ys
      have hy := y.toNat_lt
      have hp : 0 < 256 ^ ys.length := Nat.pow_pos (by decide)
      have hc2 : n.toNat = (c * 256 + y.toNat) * 256 ^ ys.length + natNum ys := by rw [hc, Nat.add_mul, Nat.mul_assoc, Nat.mul_comm 256]; omega
      show byteAt n ys.length :: putNum n ys.length = y :: ys
      rw [ih n ⟨_, hc2⟩]
      congr 1
      rw [← UInt8.toNat_inj, byteAt_toNat, hc2, Nat.mul_comm (c * 256 + y.toNat), Nat.mul_add_div hp, Nat.div_eq_of_lt hlt]
      omega
  exact key xs _ ⟨0, by rw [hval]; simp⟩
theorem sum_bytes {s : UInt32} {ys : List UInt8} (hy : ys.length = 4) : s.toUInt64 = getNum ys ↔ putOf s.toUInt64 4 = ys := by
  rw [putOf_some (by decide) (by decide)]
  constructor
  · intro h; rw [h]
    have := put_get ys (by omega)
    rw [hy] at this; exact this
  · intro h
    have h1 := get_put s.toUInt64 (k := (4 : Int).toNat) (by decide)
    rw [h] at h1
    rw [← UInt64.toNat_inj, h1]
    have h2 : s.toUInt64.toNat = s.toNat := by simp
    have := s.toNat_lt
    rw [h2]
    show s.toNat = s.toNat % 256 ^ 4
    omega
theorem sealed_iff {xs : List UInt8} (h : ¬ xs.length < 4) : sealed (xs.take (xs.length - 4)) = xs ↔ (crcOn 0 (xs.take (xs.length - 4))).toUInt64 = getNum (xs.drop (xs.length - 4)) := by
  have e := List.take_append_drop (xs.length - 4) xs
  have hl : (xs.drop (xs.length - 4)).length = 4 := by simp; omega
  rw [sum_bytes hl]
  unfold sealed
  constructor
  · intro h1
    rw [← List.append_cancel_left_eq (xs.take (xs.length - 4)), h1, e]
  · intro h1; rw [h1, e]
theorem openOf_ref1 {xs : List UInt8} (h : ¬ xs.length < 4) (h2 : sealed (xs.take ((xs.length : Int) - 4).toNat) ≠ xs) : (openOf xs).1 = [] ∧ (openOf xs).2 = 4 := by
  rw [toNat4] at h2
  exact openOf_sum h (by rw [toNat4]; exact fun e => h2 ((sealed_iff h).2 e))
theorem openOf_ref0 {xs : List UInt8} (h : ¬ xs.length < 4) (h2 : ¬ sealed (xs.take ((xs.length : Int) - 4).toNat) ≠ xs) : (openOf xs).1 = xs.take ((xs.length : Int) - 4).toNat ∧ (openOf xs).2 = 0 := by
  rw [toNat4] at h2
  have h3 : sealed (xs.take (xs.length - 4)) = xs := Decidable.not_not.1 h2
  exact openOf_ok h (by rw [toNat4]; exact fun e => e ((sealed_iff h).1 h3))
end Go.Proofs.Ytefmfhbkihplgaa.Tr
namespace Go.Proofs.Ytefmfhbkihplgaa.Tr
open Go Go.RowKit
set_option maxRecDepth 100000
set_option synthInstance.maxHeartbeats 400000
set_option synthInstance.maxSize 4096
def chip_sound (blocks0 : Int) (pages0 : Int) (size0 : Int) : Option Bool :=
  some ((((((decide (blocks0 ≥ (1 : Int))) && (decide (blocks0 ≤ (32 : Int)))) && (decide (pages0 ≥ (1 : Int)))) && (decide (pages0 ≤ (16 : Int)))) && (decide (size0 ≥ (1 : Int)))) && (decide (size0 ≤ (256 : Int))))
theorem chip_sound_c {A : Nat → Prop} {blocks0 : Int} {pages0 : Int} {size0 : Int}  {r : Bool} (w : World) (v0 v1 v2 : Value) (hA : ∀ k, w.heap.size ≤ k → A k)  (h0 : (D (blocks0 : Int)).p A w v0) (h1 : (D (pages0 : Int)).p A w v1) (h2 : (D (size0 : Int)).p A w v2) (H : chip_sound blocks0 pages0 size0 = some r) :
    Calls Try.prog 62 #[v0, v1, v2] w (Ret A w (D (r : Bool))) := by
  unfold chip_sound at H
  refine enter3 hA Try.func62 rfl Try.ntmps62 rfl h0 h1 h2 ?_; refine TC.seqS ?_; refine TS.s OpY.assign rfl ?_; refine TS.nil ?_; refine TE.then ?_; refine TC.kp [0, 1, 2] [] ?_; refine TC.seqS ?_; refine TS.s OpY.move rfl ?_; refine TS.s OpY.geq rfl ?_; refine TS.s OpY.move rfl ?_; refine TS.g 9 rfl (fun hg => OpY.move) rfl ?_; refine TS.g 9 rfl (fun hg => OpY.leq) rfl ?_; refine TS.s OpY.pickAnd rfl ?_; refine TS.s OpY.move rfl ?_; refine TS.g 13 rfl (fun hg => OpY.move) rfl ?_; refine TS.g 13 rfl (fun hg => OpY.geq) rfl ?_; refine TS.s OpY.pickAnd rfl ?_; refine TS.s OpY.move rfl ?_; refine TS.g 17 rfl (fun hg => OpY.move) rfl ?_; refine TS.g 17 rfl (fun hg => OpY.leq) rfl ?_; refine TS.s OpY.pickAnd rfl ?_; refine TS.s OpY.move rfl ?_; refine TS.g 21 rfl (fun hg => OpY.move) rfl ?_; refine TS.g 21 rfl (fun hg => OpY.geq) rfl ?_; refine TS.s OpY.pickAnd rfl ?_; refine TS.s OpY.move rfl ?_; refine TS.g 25 rfl (fun hg => OpY.move) rfl ?_; refine TS.g 25 rfl (fun hg => OpY.leq) rfl ?_; refine TS.s OpY.pickAnd rfl ?_; refine TS.s OpY.assign rfl ?_; refine TS.nil ?_; refine TE.then ?_; refine TC.kp [6] [] ?_; refine TC.ret ?_
  obtain rfl := (Option.some.inj H)
  exact TE.ret1 rfl Cv.le
def chip_fill_l1 (b0x : (List UInt8)) (x_3 : Int) (b_4 : (List UInt8)) : Option ((Int × (List UInt8)) ⊕ (List UInt8)) :=
  bif (decide (x_3 < (b0x.length : Int))) then ((idx b_4 x_3).bind fun x_6 => (some ((b_4.set (Int.toNat x_3) (UInt8.ofNat 255)) : (List UInt8))).bind fun l_7 => (addI x_3 (1 : Int)).bind fun x_8 => some (.inl (x_8, l_7))) else (some (.inr b_4))
def chip_fill (b0x : (List UInt8)) : Option (List UInt8) :=
  (loopO (fun s => chip_fill_l1 b0x s.1 s.2) ((0 : Int), b0x)).bind fun b_1 => some b_1
theorem chip_fill_o {A : Nat → Prop} {b0x : (List UInt8)} {b0 c0 : Nat} {p0 : Prop} {r : (List UInt8)} (w : World) (v0 : Value) (hA : ∀ k, w.heap.size ≤ k → A k) (hO : OwnIn A [⟨b0, p0, Row (b0x : List UInt8) c0⟩]) (hap : Apart [⟨b0, p0, Row (b0x : List UInt8) c0⟩]) (hks : Pks (Pub A [⟨b0, p0, Row (b0x : List UInt8) c0⟩]) [⟨b0, p0, Row (b0x : List UInt8) c0⟩] w) (h0 : (Sl b0 p0 0 b0x.length c0).p (Pub A [⟨b0, p0, Row (b0x : List UInt8) c0⟩]) w v0) (H : chip_fill b0x = some r) :
    Calls Try.prog 63 #[v0] w (RetO A w [⟨b0, p0, Row (b0x : List UInt8) c0⟩] (fun g : Unit => Tup []) fun g => [⟨b0, p0, Row (r : List UInt8) c0⟩]) := by
  unfold chip_fill at H
  refine enterO1 hA hap hks Try.func63 rfl Try.ntmps63 rfl h0 ?_; refine TC.seqS ?_; refine TS.s OpY.move rfl ?_; refine TS.s (OpD.lenSv (n := b0x.length) rfl) rfl ?_; refine TS.s OpY.move rfl ?_; refine TS.nil ?_; refine TE.then ?_; refine TC.kp [0, 4, 5] [b0] ?_
  obtain ⟨o_2, H2, H⟩ := bnd H
  refine TC.cutP (fun s : (List UInt8) => o_2 = s) (fun (b_1 : (List UInt8)) (_ : Unit) => Env.nil) (fun (b_1 : (List UInt8)) (_ : Unit) => [⟨b0, p0, (Row (b_1 : List UInt8) c0)⟩]) ?_ ?_
  · skip
    refine TC.block ?_; refine TC.loopP H2 (fun ⟨x_3, b_4⟩ (_ : Unit) => (Env.set (Env.set (Env.set Env.nil 0 (Sl b0 p0 0 b_4.length c0)) 4 (D ((b0x.length : Int) : Int))) 5 (D (x_3 : Int)))) (fun ⟨x_3, b_4⟩ (_ : Unit) => [⟨b0, p0, (Row (b_4 : List UInt8) c0)⟩]) () (Env.cv (Env.cv (Env.cvBy (Sl_le rfl) (Env.le_nil _)))) (Less.pk rfl (Less.nil _)) ?_
    rintro ⟨x_3, b_4⟩ ⟨⟩ x_5 H5 he5
    replace H5 : chip_fill_l1 b0x x_3 b_4 = some x_5 := H5
    unfold chip_fill_l1 at H5
    refine TC.seqS ?_; refine TS.s OpY.lss rfl ?_; refine TS.nil ?_; refine TE.then ?_; refine TC.kp [0, 4, 5, 6] [b0] ?_; refine TC.seq ?_; refine TC.cond (fun hc => ?_) (fun hc => ?_)
    · replace H5 := cT H5 hc
      refine TC.skip ?_; refine TE.then ?_; refine TC.kp [0, 4, 5] [b0] ?_; refine TC.seq ?_; refine TC.block ?_; refine TC.seqS ?_; refine TS.s OpY.move rfl ?_; refine TS.s OpY.assign rfl ?_; refine TS.nil ?_; refine TE.then ?_; refine TC.kp [0, 2, 4, 5] [b0] ?_; refine TC.regionS ?_; refine TS.s OpY.move rfl ?_; refine TS.s OpY.move rfl ?_
      obtain ⟨x_6, ex_6, H5⟩ := bnd H5
      refine TS.s (OpD.indexq (idx_in ex_6 rfl)) rfl ?_; refine TS.un (OpT.storeq (y := ((UInt8.ofNat 255) : UInt8)) (Pl.rowz ex_6)) ?_; refine TS.nil ?_; refine TE.kp [0, 4, 5] [b0] ?_
      obtain ⟨l_7, el_7, H5⟩ := bnd H5
      refine TE.nmB b0 (nm_row el_7) ?_; refine TE.see 0 _ (nm_sl2 el_7 (by simp)) ?_; refine TE.inBlock_normal ?_; refine TE.then ?_; refine TC.kp [0, 4, 5] [b0] ?_; refine TC.regionS ?_
      obtain ⟨x_8, ex_8, H5⟩ := bnd H5
      refine TS.s (OpD.add ex_8) rfl ?_; refine TS.s OpY.move rfl ?_; refine TS.nil ?_; refine TE.kp [0, 4, 5] [b0] ?_; exact TE.backP ⟨x_8, l_7⟩ () (Option.some.inj H5).symm (Env.cv (Env.cv (Env.cvBy (Sl_le rfl) (Env.le_nil _)))) (Less.pk rfl (Less.nil _))
    · replace H5 := cF H5 hc
      refine TC.exit ?_; refine TE.then_exit ?_; refine TE.then_exit ?_; refine TE.inBlock_here ?_; exact TE.cutP b_4 () (he5 _ (Option.some.inj H5).symm).symm (Env.le_nil _) (Less.pk rfl (Less.nil _))
  rintro b_1 ⟨⟩ hp
  replace hp := hp.symm
  subst hp
  obtain rfl := (Option.some.inj H)
  exact TE.endON rfl rfl () .nil (Less.pk rfl (Less.nil _))
theorem chip_fill_len {b r : List UInt8} (H : chip_fill b = some r) : r.length = b.length := by
  unfold chip_fill at H
  obtain ⟨x, hx, H⟩ := bnd H
  obtain rfl := Option.some.inj H
  refine loopO_part (fun s : Int × List UInt8 => s.2.length = b.length) (fun r => r.length = b.length) ?_ ?_ rfl hx
  · rintro ⟨i, l⟩ ⟨i', l'⟩ h1 hf
    dsimp only at h1 hf ⊢
    unfold chip_fill_l1 at hf
    cases hc : decide (i < (b.length : Int)) with
    | false => replace hf := cF hf hc; cases Option.some.inj hf
    | true =>
      replace hf := cT hf hc
      obtain ⟨_, _, hf⟩ := bnd hf
      obtain ⟨l2, e2, hf⟩ := bnd hf
      obtain ⟨_, _, hf⟩ := bnd hf
      have h2 := Option.some.inj hf
      injection h2 with h2
      injection h2 with e3 e4
      subst e4
      rw [← Option.some.inj e2]; simpa using h1
  · rintro ⟨i, l⟩ e h1 hf
    dsimp only at h1 hf ⊢
    unfold chip_fill_l1 at hf
    cases hc : decide (i < (b.length : Int)) with
    | true =>
      replace hf := cT hf hc
      obtain ⟨_, _, hf⟩ := bnd hf
      obtain ⟨l2, e2, hf⟩ := bnd hf
      obtain ⟨_, _, hf⟩ := bnd hf
      cases Option.some.inj hf
    | false =>
      replace hf := cF hf hc
      have h2 := Option.some.inj hf
      injection h2 with h2
      subst h2; exact h1
def chip_New_l2 (pages0 : Int) (size0 : Int) (x_11 : Int) (l_12 : (List Block)) (x_20 : Int) (l_21 : (List (List UInt8))) : Option ((Int × (List (List UInt8))) ⊕ (List (List UInt8))) :=
  bif (decide (x_20 < pages0)) then ((idx l_12 x_11).bind fun x_23 => (room 1 size0).bind fun u_24 => (idx l_21 x_20).bind fun x_26 => (some ((List.replicate (Int.toNat size0) (Dat.z : UInt8)) : (List UInt8))).bind fun l_27 => (idx l_12 x_11).bind fun x_28 => (idx l_21 x_20).bind fun x_29 => (chip_fill l_27).bind fun x_30 => (addI x_20 (1 : Int)).bind fun x_32 => some (.inl (x_32, (l_21.set (Int.toNat x_20) x_30)))) else (some (.inr l_21))
def chip_New_l1 (blocks0 : Int) (pages0 : Int) (size0 : Int) (x_11 : Int) (l_12 : (List Block)) : Option ((Int × (List Block)) ⊕ (List Block)) :=
  bif (decide (x_11 < blocks0)) then ((room 24 pages0).bind fun u_14 => (idx l_12 x_11).bind fun x_16 => (some ((List.replicate (Int.toNat pages0) (Dat.z : (List UInt8))) : (List (List UInt8)))).bind fun l_17 => (loopO (fun s => chip_New_l2 pages0 size0 x_11 l_12 s.1 s.2) ((0 : Int), l_17)).bind fun l_18 => (addI x_11 (1 : Int)).bind fun x_33 => some (.inl (x_33, (l_12.set (Int.toNat x_11) (⟨l_18, x_16.Used, x_16.Worn, x_16.Bad⟩ : Block))))) else (some (.inr l_12))
def chip_New (blocks0 : Int) (pages0 : Int) (size0 : Int) : Option (Chip × Int) :=
  (chip_sound blocks0 pages0 size0).bind fun x_2 => bif (!x_2) then ((some ((⟨0, 0, [], 0, false, []⟩ : Chip) : Chip)).bind fun k_3 => some (k_3, (1 : Int))) else ((room 48 blocks0).bind fun u_4 => (some ((⟨pages0, size0, [], 0, false, []⟩ : Chip) : Chip)).bind fun c_7 => (some ((List.replicate (Int.toNat blocks0) (Dat.z : Block)) : (List Block))).bind fun l_8 => (loopO (fun s => chip_New_l1 blocks0 pages0 size0 s.1 s.2) ((0 : Int), l_8)).bind fun l_9 => some ((⟨c_7.Pages, c_7.Size, l_9, c_7.Ops, c_7.Off, c_7.Faults⟩ : Chip), (0 : Int)))
theorem chip_New_c {A : Nat → Prop} {blocks0 : Int} {pages0 : Int} {size0 : Int}  {r : (Chip × Int)} (w : World) (v0 v1 v2 : Value) (hA : ∀ k, w.heap.size ≤ k → A k)  (h0 : (D (blocks0 : Int)).p A w v0) (h1 : (D (pages0 : Int)).p A w v1) (h2 : (D (size0 : Int)).p A w v2) (H : chip_New blocks0 pages0 size0 = some r) :
    Calls Try.prog 15 #[v0, v1, v2] w (Ret A w (Tup [D (r.1 : Chip), D (r.2 : Int)])) := by
  unfold chip_New at H
  refine enter3 hA Try.func15 rfl Try.ntmps15 rfl h0 h1 h2 ?_; refine TC.seqS ?_; refine TS.alloc (α := Chip) rfl fun b6_0 => ?_; refine TS.s OpY.assign rfl ?_; refine TS.nil ?_; refine TE.then ?_; refine TC.kp [0, 1, 2, 6] [b6_0] ?_; refine TC.seq ?_; refine TC.seqS ?_; refine TS.s OpY.move rfl ?_; refine TS.s OpY.move rfl ?_; refine TS.s OpY.move rfl ?_
  obtain ⟨x_2, ex_2, H⟩ := bnd H
  refine TS.s (OpY.call3 fun w v0 v1 v2 hA h0 h1 h2 => chip_sound_c w v0 v1 v2 hA (toD h0) (toD h1) (toD h2) ex_2) rfl ?_; refine TS.s OpY.notB rfl ?_; refine TS.nil ?_; refine TE.then ?_; refine TC.kp [0, 1, 2, 6, 15] [b6_0] ?_; refine TC.cond (fun hc => ?_) (fun hc => ?_)
  · replace H := cT H hc
    refine TC.seqS ?_; refine TS.s (OpY.buildAs (⟨0, 0, [], 0, false, []⟩ : Chip) rfl ⟨_, Try.underlying27, by kernel_rfl⟩ rfl rfl) rfl ?_; refine TS.un (OpT.storeq (y := ((⟨0, 0, [], 0, false, []⟩ : Chip) : Chip)) Pl.one) ?_; refine TS.s OpY.assign rfl ?_; refine TS.nil ?_; refine TE.then ?_; refine TC.kp [6, 7] [b6_0] ?_
    obtain ⟨k_3, ek_3, H⟩ := bnd H
    refine TC.nmB b6_0 (nm_one ek_3) ?_; refine TC.ret ?_; refine TE.then_ret ?_
    obtain rfl := (Option.some.inj H)
    exact TE.retN rfl rfl (.cons Cv.le (.cons Cv.le .nil))
  · replace H := cF H hc
    refine TC.skip ?_; refine TE.then ?_; refine TC.kp [0, 1, 2, 6] [b6_0] ?_; refine TC.seqS ?_; refine TS.s OpY.move rfl ?_; refine TS.s OpY.move rfl ?_; refine TS.s OpY.move rfl ?_
    obtain ⟨u_4, eu_4, H⟩ := bnd H
    refine TS.make eu_4 ⟨(room_some eu_4).1, Int.le_refl _⟩ rfl fun b20_4 => ?_; refine TS.s (OpY.buildC (ps := _) rfl ⟨_, Try.underlying27, by kernel_rfl⟩ ((PartsC.d (((Pl.fld (off := 0) (α := Chip) (β := Int) Pl.one)).st _) (PartsC.d (((Pl.fld (off := 1) (α := Chip) (β := Int) Pl.one)).st _) (PartsC.hd (CtH.new (by decide)) inferInstance))))) rfl ?_; refine TS.alloc (α := Chip) rfl fun b8_5 => ?_; refine TS.un (OpT.storeC trivial rfl CtSc.h) ?_; refine TS.nil ?_; refine TE.then ?_; refine TC.kp [0, 1, 2, 6, 8] [b6_0, b8_5, b20_4] ?_
    obtain ⟨c_7, ec_7, H⟩ := bnd H
    refine TC.nmB b8_5 (nm_mix (nm_one ec_7)) ?_
    obtain ⟨l_8, el_8, H⟩ := bnd H
    refine TC.nmB b20_4 (nm_row el_8) ?_; refine TC.nmB b8_5 (mix_n (nm_len el_8 (by simp))) ?_; refine TC.seq ?_; refine TC.seqS ?_; refine TS.s OpY.move rfl ?_; refine TS.s OpY.move rfl ?_; refine TS.nil ?_; refine TE.then ?_; refine TC.kp [1, 2, 6, 8, 22, 23] [b6_0, b8_5, b20_4] ?_
    obtain ⟨o_10, H10, H⟩ := bnd H
    refine TC.cutP (fun s : (List Block) => o_10 = s) (fun (l_9 : (List Block)) (_ : Unit) => (Env.set (Env.set Env.nil 6 (Pt b6_0 0)) 8 (Pt b8_5 0))) (fun (l_9 : (List Block)) (_ : Unit) => [⟨b20_4, True, (Row (l_9 : List Block) (Int.toNat blocks0))⟩, ⟨b6_0, True, (One (Dat.z : Chip))⟩, ⟨b8_5, True, (Ct.mix (One (c_7 : Chip)) 2 (Sl b20_4 True 0 l_9.length (Int.toNat blocks0)))⟩]) ?_ ?_
    · skip
      refine TC.block ?_; refine TC.loopP H10 (fun ⟨x_11, l_12⟩ (_ : Unit) => (Env.set (Env.set (Env.set (Env.set (Env.set (Env.set Env.nil 1 (D (pages0 : Int))) 2 (D (size0 : Int))) 6 (Pt b6_0 0)) 8 (Pt b8_5 0)) 22 (D (blocks0 : Int))) 23 (D (x_11 : Int)))) (fun ⟨x_11, l_12⟩ (_ : Unit) => [⟨b20_4, True, (Row (l_12 : List Block) (Int.toNat blocks0))⟩, ⟨b6_0, True, (One (Dat.z : Chip))⟩, ⟨b8_5, True, (Ct.mix (One (c_7 : Chip)) 2 (Sl b20_4 True 0 l_12.length (Int.toNat blocks0)))⟩]) () (Env.cv (Env.cv (Env.cv (Env.cv (Env.cv (Env.cv (Env.le_nil _))))))) (Less.pk rfl (Less.pk rfl (Less.pk rfl (Less.nil _)))) ?_
      rintro ⟨x_11, l_12⟩ ⟨⟩ x_13 H13 he13
      replace H13 : chip_New_l1 blocks0 pages0 size0 x_11 l_12 = some x_13 := H13
      unfold chip_New_l1 at H13
      refine TC.seqS ?_; refine TS.s OpY.lss rfl ?_; refine TS.nil ?_; refine TE.then ?_; refine TC.kp [1, 2, 6, 8, 22, 23, 24] [b6_0, b8_5, b20_4] ?_; refine TC.seq ?_; refine TC.cond (fun hc => ?_) (fun hc => ?_)
      · replace H13 := cT H13 hc
        refine TC.skip ?_; refine TE.then ?_; refine TC.kp [1, 2, 6, 8, 22, 23] [b6_0, b8_5, b20_4] ?_; refine TC.seq ?_; refine TC.block ?_; refine TC.seqS ?_; refine TS.s OpY.move rfl ?_; refine TS.s OpY.assign rfl ?_; refine TS.nil ?_; refine TE.then ?_; refine TC.kp [1, 2, 6, 8, 9, 22, 23] [b6_0, b8_5, b20_4] ?_; refine TC.seqD [4, 7] [b20_4] mix (by kernel_rfl) (by kernel_rfl) ?_; refine TR.s OpY.fieldAddr rfl ?_; refine TR.s (OpD.ldHq CeH.here) rfl ?_; refine TR.s OpY.move rfl ?_; refine TR.s OpY.move rfl ?_
        obtain ⟨u_14, eu_14, H13⟩ := bnd H13
        refine TR.t (fun g => OpT.makeSlice (room_some eu_14).1 (Int.le_refl _) (room_make eu_14).2.1 (room_make eu_14).2.2) rfl ?_
        obtain ⟨x_16, ex_16, H13⟩ := bnd H13
        refine TR.s (OpD.indexq (idx_in ex_16 rfl)) rfl ?_; refine TR.s OpY.fieldAddr rfl ?_; refine TR.tn (fun g => (OpT.storeHq (CtH.rowAt ex_16 (off := 0) (by omega) (by decide)))) rfl ?_; refine TR.nil ?_
        rintro ⟨⟨_, ⟨b30_14, _⟩⟩, _⟩
        dsimp only [Fam.nextS, Fam.nextN, Fam.one, List.cons_append, List.nil_append]
        refine TC.kp [1, 2, 6, 8, 9, 22, 23] [b6_0, b8_5, b20_4, b30_14] ?_
        obtain ⟨l_17, el_17, H13⟩ := bnd H13
        refine TC.nmB b30_14 (nm_row el_17) ?_; refine TC.nmB b20_4 (mix_n (nm_len el_17 (by simp))) ?_; refine TC.seqS ?_; refine TS.s OpY.move rfl ?_; refine TS.s OpY.move rfl ?_; refine TS.nil ?_; refine TE.then ?_; refine TC.kp [1, 2, 6, 8, 9, 22, 23, 33, 34] [b6_0, b8_5, b20_4, b30_14] ?_
        obtain ⟨o_19, H19, H13⟩ := bnd H13
        refine TC.cutP (fun s : (List (List UInt8)) => o_19 = s) (fun (l_18 : (List (List UInt8))) (_ : Unit) => (Env.set (Env.set (Env.set (Env.set (Env.set (Env.set Env.nil 1 (D (pages0 : Int))) 2 (D (size0 : Int))) 6 (Pt b6_0 0)) 8 (Pt b8_5 0)) 22 (D (blocks0 : Int))) 23 (D (x_11 : Int)))) (fun (l_18 : (List (List UInt8))) (_ : Unit) => [⟨b20_4, True, (Ct.mix (Row (l_12 : List Block) (Int.toNat blocks0)) ((0 + Int.toNat x_11 * Dat.sz Block) + 0) (Sl b30_14 True 0 l_18.length (Int.toNat pages0)))⟩, ⟨b30_14, True, (Row (l_18 : List (List UInt8)) (Int.toNat pages0))⟩, ⟨b6_0, True, (One (Dat.z : Chip))⟩, ⟨b8_5, True, (Ct.mix (One (c_7 : Chip)) 2 (Sl b20_4 True 0 l_12.length (Int.toNat blocks0)))⟩]) ?_ ?_
        · skip
          refine TC.block ?_; refine TC.loopP H19 (fun ⟨x_20, l_21⟩ (_ : Unit) => (Env.set (Env.set (Env.set (Env.set (Env.set (Env.set (Env.set (Env.set (Env.set Env.nil 1 (D (pages0 : Int))) 2 (D (size0 : Int))) 6 (Pt b6_0 0)) 8 (Pt b8_5 0)) 9 (D (x_11 : Int))) 22 (D (blocks0 : Int))) 23 (D (x_11 : Int))) 33 (D (pages0 : Int))) 34 (D (x_20 : Int)))) (fun ⟨x_20, l_21⟩ (_ : Unit) => [⟨b20_4, True, (Ct.mix (Row (l_12 : List Block) (Int.toNat blocks0)) ((0 + Int.toNat x_11 * Dat.sz Block) + 0) (Sl b30_14 True 0 l_21.length (Int.toNat pages0)))⟩, ⟨b30_14, True, (Row (l_21 : List (List UInt8)) (Int.toNat pages0))⟩, ⟨b6_0, True, (One (Dat.z : Chip))⟩, ⟨b8_5, True, (Ct.mix (One (c_7 : Chip)) 2 (Sl b20_4 True 0 l_12.length (Int.toNat blocks0)))⟩]) () (Env.cv (Env.cv (Env.cv (Env.cv (Env.cv (Env.cv (Env.cv (Env.cv (Env.cv (Env.le_nil _)))))))))) (Less.pk rfl (Less.pk rfl (Less.pk rfl (Less.pk rfl (Less.nil _))))) ?_
          rintro ⟨x_20, l_21⟩ ⟨⟩ x_22 H22 he22
          replace H22 : chip_New_l2 pages0 size0 x_11 l_12 x_20 l_21 = some x_22 := H22
          unfold chip_New_l2 at H22
          refine TC.seqS ?_; refine TS.s OpY.lss rfl ?_; refine TS.nil ?_; refine TE.then ?_; refine TC.kp [1, 2, 6, 8, 9, 22, 23, 33, 34, 35] [b6_0, b8_5, b20_4, b30_14] ?_; refine TC.seq ?_; refine TC.cond (fun hc => ?_) (fun hc => ?_)
          · replace H22 := cT H22 hc
            refine TC.skip ?_; refine TE.then ?_; refine TC.kp [1, 2, 6, 8, 9, 22, 23, 33, 34] [b6_0, b8_5, b20_4, b30_14] ?_; refine TC.seq ?_; refine TC.block ?_; refine TC.seqS ?_; refine TS.s OpY.move rfl ?_; refine TS.s OpY.assign rfl ?_; refine TS.nil ?_; refine TE.then ?_; refine TC.kp [1, 2, 6, 8, 9, 10, 22, 23, 33, 34] [b6_0, b8_5, b20_4, b30_14] ?_; refine TC.seqD [8, 10] [b30_14] mix (by kernel_rfl) (by kernel_rfl) ?_; refine TR.s OpY.fieldAddr rfl ?_; refine TR.s (OpD.ldHq CeH.here) rfl ?_; refine TR.s OpY.move rfl ?_
            obtain ⟨x_23, ex_23, H22⟩ := bnd H22
            refine TR.s (OpD.indexq (idx_in ex_23 rfl)) rfl ?_; refine TR.s OpY.fieldAddr rfl ?_; refine TR.s (OpD.ldHq CeH.here) rfl ?_; refine TR.s OpY.move rfl ?_; refine TR.s OpY.move rfl ?_
            obtain ⟨u_24, eu_24, H22⟩ := bnd H22
            refine TR.t (fun g => OpT.makeSlice (room_some eu_24).1 (Int.le_refl _) (room_make eu_24).2.1 (room_make eu_24).2.2) rfl ?_
            obtain ⟨x_26, ex_26, H22⟩ := bnd H22
            refine TR.s (OpD.indexq (idx_in ex_26 rfl)) rfl ?_; refine TR.tn (fun g => (OpT.storeHq (CtH.rowAt ex_26 (off := 0) (by omega) (by decide)))) rfl ?_; refine TR.nil ?_
            rintro ⟨⟨_, ⟨b45_24, _⟩⟩, _⟩
            dsimp only [Fam.nextS, Fam.nextN, Fam.one, List.cons_append, List.nil_append]
            refine TC.kp [1, 2, 6, 8, 9, 10, 22, 23, 33, 34] [b6_0, b8_5, b20_4, b30_14, b45_24] ?_
            obtain ⟨l_27, el_27, H22⟩ := bnd H22
            refine TC.nmB b45_24 (nm_row el_27) ?_; refine TC.nmB b30_14 (mix_n (nm_len el_27 (by simp))) ?_; refine TC.regionS ?_; refine TS.s OpY.fieldAddr rfl ?_; refine TS.s (OpD.ldHq CeH.here) rfl ?_; refine TS.s OpY.move rfl ?_
            obtain ⟨x_28, ex_28, H22⟩ := bnd H22
            refine TS.s (OpD.indexq (idx_in ex_28 rfl)) rfl ?_; refine TS.s OpY.fieldAddr rfl ?_; refine TS.s (OpD.ldHq CeH.here) rfl ?_; refine TS.s OpY.move rfl ?_
            obtain ⟨x_29, ex_29, H22⟩ := bnd H22
            refine TS.s (OpD.indexq (idx_in ex_29 rfl)) rfl ?_; refine TS.s (OpD.ldHq CeH.here) rfl ?_
            obtain ⟨x_30, ex_30, H22⟩ := bnd H22
            refine TS.t (OpT.callO1 [b45_24] fun w v0 hA hO hap hks h0 => chip_fill_o w v0 hA hO hap hks (slD rfl h0) ex_30) rfl fun _ => ?_; dsimp only [List.cons_append, List.nil_append]
            refine TS.nil ?_; refine TE.kp [1, 2, 6, 8, 9, 22, 23, 33, 34] [b6_0, b8_5, b20_4, b30_14, b45_24] ?_; refine TE.inBlock_normal ?_; refine TE.then ?_; refine TC.kp [1, 2, 6, 8, 9, 22, 23, 33, 34] [b6_0, b8_5, b20_4, b30_14, b45_24] ?_; refine TC.regionS ?_
            obtain ⟨x_32, ex_32, H22⟩ := bnd H22
            refine TS.s (OpD.add ex_32) rfl ?_; refine TS.s OpY.move rfl ?_; refine TS.nil ?_; refine TE.kp [1, 2, 6, 8, 9, 22, 23, 33, 34] [b6_0, b8_5, b20_4, b30_14, b45_24] ?_; refine TE.coll b30_14 b45_24 (o := (0 + Int.toNat x_20 * Dat.sz (List UInt8))) (((Pl.rowz ex_26)).st (x_30 : List UInt8)) (PubC.sv PlS.all (chip_fill_len ex_30).symm) ?_; refine TE.nmB b20_4 (mix_n (m := l_21.length) (n := (l_21.set (Int.toNat x_20) x_30).length) (by simp)) ?_; exact TE.backP ⟨x_32, (l_21.set (Int.toNat x_20) x_30)⟩ () (Option.some.inj H22).symm (Env.cv (Env.cv (Env.cv (Env.cv (Env.cv (Env.cv (Env.cv (Env.cv (Env.cv (Env.le_nil _)))))))))) (Less.pk rfl (Less.pk rfl (Less.pk rfl (Less.pk rfl (Less.nil _)))))
          · replace H22 := cF H22 hc
            refine TC.exit ?_; refine TE.then_exit ?_; refine TE.then_exit ?_; refine TE.inBlock_here ?_; exact TE.cutP l_21 () (he22 _ (Option.some.inj H22).symm).symm (Env.cv (Env.cv (Env.cv (Env.cv (Env.cv (Env.cv (Env.le_nil _))))))) (Less.pk rfl (Less.pk rfl (Less.pk rfl (Less.pk rfl (Less.nil _)))))
        rintro l_18 ⟨⟩ hp
        replace hp := hp.symm
        subst hp
        refine TE.inBlock_normal ?_; refine TE.then ?_; refine TC.kp [1, 2, 6, 8, 22, 23] [b6_0, b8_5, b20_4, b30_14] ?_; refine TC.regionS ?_
        obtain ⟨x_33, ex_33, H13⟩ := bnd H13
        refine TS.s (OpD.add ex_33) rfl ?_; refine TS.s OpY.move rfl ?_; refine TS.nil ?_; refine TE.kp [1, 2, 6, 8, 22, 23] [b6_0, b8_5, b20_4, b30_14] ?_; refine TE.coll b20_4 b30_14 (o := ((0 + Int.toNat x_11 * Dat.sz Block) + 0)) (((Pl.fld (off := 0) (α := Block) (β := (List (List UInt8))) (Pl.rowz ex_16))).st (l_18 : List (List UInt8))) (PubC.sv PlS.all rfl) ?_; refine TE.nmB b8_5 (mix_n (m := l_12.length) (n := (l_12.set (Int.toNat x_11) (⟨l_18, x_16.Used, x_16.Worn, x_16.Bad⟩ : Block)).length) (by simp)) ?_; exact TE.backP ⟨x_33, (l_12.set (Int.toNat x_11) (⟨l_18, x_16.Used, x_16.Worn, x_16.Bad⟩ : Block))⟩ () (Option.some.inj H13).symm (Env.cv (Env.cv (Env.cv (Env.cv (Env.cv (Env.cv (Env.le_nil _))))))) (Less.pk rfl (Less.pk rfl (Less.pk rfl (Less.nil _))))
      · replace H13 := cF H13 hc
        refine TC.exit ?_; refine TE.then_exit ?_; refine TE.then_exit ?_; refine TE.inBlock_here ?_; exact TE.cutP l_12 () (he13 _ (Option.some.inj H13).symm).symm (Env.cv (Env.cv (Env.le_nil _))) (Less.pk rfl (Less.pk rfl (Less.pk rfl (Less.nil _))))
    rintro l_9 ⟨⟩ hp
    replace hp := hp.symm
    subst hp
    refine TE.then ?_; refine TC.kp [6, 8] [b6_0, b8_5, b20_4] ?_; refine TC.seqS ?_; refine TS.s (OpY.ldC trivial rfl rfl) rfl ?_; refine TS.un (OpT.storeC trivial rfl CtSc.h) ?_; refine TS.s OpY.assign rfl ?_; refine TS.nil ?_; refine TE.then ?_; refine TC.kp [6, 7] [b6_0, b20_4] ?_; refine TC.ret ?_; refine TE.coll b6_0 b20_4 (o := 2) (((Pl.fld (off := 2) (α := Chip) (β := (List Block)) Pl.one)).st (l_9 : List Block)) (PubC.sv PlS.all rfl) ?_
    obtain rfl := (Option.some.inj H)
    exact TE.retN rfl rfl (.cons Cv.le (.cons Cv.le .nil))
def slices_Clone_api_Block (s0 : (List Block)) : Option (List Block) :=
  (room 48 ((0 + s0.length : Nat) : Int)).bind fun _ => some s0
theorem slices_Clone_api_Block_o {A : Nat → Prop} {s0 : (List Block)}  {r : (List Block)} (w : World) (v0 : Value) (hA : ∀ k, w.heap.size ≤ k → A k) (hO : OwnIn A []) (hap : Apart []) (hks : Pks (Pub A []) [] w) (h0 : (D (s0 : (List Block))).p (Pub A []) w v0) (H : slices_Clone_api_Block s0 = some r) :
    Calls Try.prog 92 #[v0] w (RetO A w [] (fun g : Nat × Prop × Nat => Sl g.1 g.2.1 0 (List.length r) g.2.2) fun g => [⟨g.1, g.2.1, Row (r : List Block) g.2.2⟩]) := by
  unfold slices_Clone_api_Block at H
  refine enterO1 hA hap hks Try.func92 rfl Try.ntmps92 rfl h0 ?_
  obtain ⟨u, eu, H⟩ := bnd H
  obtain rfl := Option.some.inj H
  refine TC.seqS ?_; refine TS.s OpY.assign rfl ?_; refine TS.nil ?_; refine TE.then ?_; refine TC.kp [0] [] ?_; refine TC.seq ?_; refine TC.seqS ?_; refine TS.s OpY.move rfl ?_; refine TS.s OpY.eql_slice rfl ?_; refine TS.nil ?_; refine TE.then ?_; refine TC.condE (fun hc => ?_) (fun hc => ?_)
  · obtain rfl := hc rfl
    refine TC.seqS ?_; refine TS.s OpY.assign rfl ?_; refine TS.nil ?_; refine TE.then ?_; refine TC.kp [2] [] ?_; refine TC.ret ?_; refine TE.then_ret ?_; exact TE.retO1 rfl ⟨0, False, 0⟩ NilS.sl0 (Less.nilRow (Less.nil _))
  · refine TC.skip ?_; refine TE.then ?_; refine TC.kp [0] [] ?_; refine TC.seqS ?_; refine TS.build [] rfl rfl (by decide) rfl fun b => ?_; refine TS.s OpY.move rfl ?_; refine TS.app (ys := s0) inferInstance eu rfl rfl rfl fun b1 p1 c1 => ?_; refine TS.s OpY.assign rfl ?_; refine TS.nil ?_; refine TE.then ?_; refine TC.kp [2] [b1] ?_; refine TC.ret ?_; exact TE.retO1 rfl ⟨b1, p1, c1⟩ (Sl_le (by simp)) (Less.pk rfl (Less.nil _))
def chip_copied_l1 (p0 : (List (List UInt8))) (x_1 : Int) (x_2 : Int) : Option ((Int × Int) ⊕ Int) :=
  bif (decide (x_1 < (p0.length : Int))) then ((idx p0 x_1).bind fun x_3 => (addI x_2 (x_3.length : Int)).bind fun x_4 => (addI x_1 (1 : Int)).bind fun x_5 => some (.inl (x_5, x_4))) else (some (.inr x_2))
def chip_copied_l2 (p0 : (List (List UInt8))) (x_1 : Int) : Option (Int ⊕ Unit) :=
  bif (decide (x_1 < (p0.length : Int))) then ((idx p0 x_1).bind fun x_3 => (addI x_1 (1 : Int)).bind fun x_5 => some (.inl x_5)) else (some (.inr ()))
def chip_copied (p0 : (List (List UInt8))) : Option (List (List UInt8)) :=
  (loopO (fun s => chip_copied_l1 p0 s.1 s.2) ((0 : Int), (0 : Int))).bind fun x_1 => (room 1 x_1).bind fun _ => (room 24 (p0.length : Int)).bind fun _ => (loopO (fun s => chip_copied_l2 p0 s) (0 : Int)).bind fun _ => some p0
theorem chip_copied_many {p0 : List (List UInt8)} {m : Int} (h : loopO (fun s => chip_copied_l1 p0 s.1 s.2) ((0 : Int), (0 : Int)) = some m) : m = (p0.flatten.length : Int) := by
  refine loopO_part (fun s : Int × Int => 0 ≤ s.1 ∧ s.1 ≤ (p0.length : Int) ∧ s.2 = ((p0.take s.1.toNat).flatten.length : Int)) (fun m => m = (p0.flatten.length : Int)) ?_ ?_ ⟨Int.le_refl _, by simp, by simp⟩ h
  · rintro ⟨x, y⟩ ⟨x', y'⟩ ⟨h1, h2, h3⟩ hf
    dsimp only at h1 h2 h3 hf ⊢
    unfold chip_copied_l1 at hf
    cases hc : decide (x < (p0.length : Int)) with
    | false => rw [hc] at hf; cases hf
    | true =>
      replace hf := cT hf hc
      obtain ⟨q, eq, hf⟩ := bnd hf
      obtain ⟨m2, em, hf⟩ := bnd hf
      obtain ⟨y2, ey, hf⟩ := bnd hf
      have hf := Option.some.inj hf
      injection hf with hf
      injection hf with e1 e2
      subst e1; subst e2
      have h4 := idx_lt eq
      obtain ⟨-, h5⟩ := idx_some eq
      obtain ⟨h6, h7⟩ := List.getElem?_eq_some_iff.1 h5
      obtain ⟨e3, -⟩ := ok64_some ey
      obtain ⟨e4, -⟩ := ok64_some em
      have e5 : y2.toNat = x.toNat + 1 := by omega
      refine ⟨by omega, by omega, ?_⟩
      rw [e5, List.take_succ_eq_append_getElem h6, List.flatten_append, List.length_append, h7, ← e4, h3]
      simp
  · rintro ⟨x, y⟩ e ⟨h1, h2, h3⟩ hf
    dsimp only at h1 h2 h3 hf ⊢
    unfold chip_copied_l1 at hf
    cases hc : decide (x < (p0.length : Int)) with
    | true =>
      replace hf := cT hf hc
      obtain ⟨q, eq, hf⟩ := bnd hf
      obtain ⟨m2, em, hf⟩ := bnd hf
      obtain ⟨y2, ey, hf⟩ := bnd hf
      have hf := Option.some.inj hf
      cases hf
    | false =>
      replace hf := cF hf hc
      have hf := Option.some.inj hf
      injection hf with hf
      subst hf
      rw [h3, List.take_of_length_le (by have := of_decide_eq_false hc; omega)]
theorem chip_copied_step {p : List (List UInt8)} {i : Nat} {q : List UInt8} (hi : i < p.length) (hq : p[i] = q) :
    splice ((p.take i).flatten ++ List.replicate (p.flatten.length - (p.take i).flatten.length) (Dat.z : UInt8)) (p.take i).flatten.length q = (p.take (i + 1)).flatten ++ List.replicate (p.flatten.length - (p.take (i + 1)).flatten.length) (Dat.z : UInt8) := by
  have e1 : (p.take (i + 1)).flatten = (p.take i).flatten ++ q := by
    rw [List.take_succ_eq_append_getElem hi, List.flatten_append, hq]; simp
  unfold splice
  rw [e1, List.take_left, List.append_assoc, List.append_assoc, ← List.drop_drop, List.drop_left, List.drop_replicate, List.length_append]
  congr 3
  omega
theorem chip_copied_fit {p : List (List UInt8)} {i : Nat} {q : List UInt8} (hi : i < p.length) (hq : p[i] = q) : (p.take i).flatten.length + q.length ≤ p.flatten.length := by
  have := flat_fit hi
  rw [← flat_off, hq] at this; exact this
theorem chip_copied_g {A : Nat → Prop} {p0 r : (List (List UInt8))} (w : World) (v0 : Value) (hA : ∀ k, w.heap.size ≤ k → A k) (hO : OwnIn A []) (hap : Apart []) (hks : Pks (Pub A []) [] w) (h0 : (D (p0 : (List (List UInt8)))).p (Pub A []) w v0) (H : chip_copied p0 = some r) :
    Calls Try.prog 93 #[v0] w (RetO A w [] (fun g : Nat × Nat × Prop × Nat × Nat => Sl g.1 g.2.2.1 0 (List.length r) g.2.2.2.1) fun g => [⟨g.1, g.2.2.1, RowS g.2.1 g.2.2.1 1 (r.map List.length) (List.length r)⟩, ⟨g.2.1, g.2.2.1, Row (r.flatten : List UInt8) g.2.2.2.2⟩]) := by
  unfold chip_copied at H
  refine enterO1 hA hap hks Try.func93 rfl Try.ntmps93 rfl h0 ?_
  obtain ⟨many, hmany, H⟩ := bnd H
  obtain ⟨u1, eu1, H⟩ := bnd H
  obtain ⟨u2, eu2, H⟩ := bnd H
  obtain ⟨u3, eu3, H⟩ := bnd H
  obtain rfl := Option.some.inj H
  have hlen := chip_copied_many hmany
  refine TC.seqS ?_; refine TS.s OpY.assign rfl ?_; refine TS.nil ?_; refine TE.then ?_; refine TC.kp [0] [] ?_; refine TC.seq ?_; refine TC.seqS ?_; refine TS.s OpY.move rfl ?_; refine TS.s OpY.eql_slice rfl ?_; refine TS.nil ?_; refine TE.then ?_; refine TC.condE (fun hc => ?_) (fun hc => ?_)
  · obtain rfl := hc rfl
    refine TC.seqS ?_; refine TS.s OpY.assign rfl ?_; refine TS.nil ?_; refine TE.then ?_; refine TC.kp [2] [] ?_; refine TC.ret ?_; refine TE.then_ret ?_; exact TE.retO1 rfl ⟨0, 0, False, 0, 0⟩ NilS.sl0 ((Less.none fun h => h).trans (Less.none fun h => h))
  · refine TC.skip ?_; refine TE.then ?_; refine TC.kp [0] [] ?_; refine TC.seqS ?_; refine TS.s OpY.assign rfl ?_; refine TS.nil ?_; refine TE.then ?_; refine TC.kp [0, 3] [] ?_; refine TC.seq ?_; refine TC.seqS ?_; refine TS.s OpY.move rfl ?_; refine TS.s OpD.len rfl ?_; refine TS.s OpY.move rfl ?_; refine TS.nil ?_; refine TE.then ?_; refine TC.kp [0, 3, 13, 14, 15] [] ?_; refine TC.cutP (fun s : Int => many = s) (fun (m : Int) (_ : Unit) => (Env.set (Env.set Env.nil 0 (D (p0 : (List (List UInt8))))) 3 (D (m : Int)))) (fun (m : Int) (_ : Unit) => []) ?_ ?_
    · skip
      refine TC.block ?_; refine TC.loopP hmany (fun ⟨x, m⟩ (_ : Unit) => (Env.set (Env.set (Env.set (Env.set (Env.set Env.nil 0 (D (p0 : (List (List UInt8))))) 3 (D (m : Int))) 13 (D (p0 : (List (List UInt8))))) 14 (D ((p0.length : Int) : Int))) 15 (D (x : Int)))) (fun ⟨x, m⟩ (_ : Unit) => []) () (Env.cv (Env.cv (Env.cv (Env.cv (Env.cv (Env.le_nil _)))))) (Less.nil _) ?_
      rintro ⟨x, m⟩ ⟨⟩ y Hy hey
      replace Hy : chip_copied_l1 p0 x m = some y := Hy
      unfold chip_copied_l1 at Hy
      refine TC.seqS ?_; refine TS.s OpY.lss rfl ?_; refine TS.nil ?_; refine TE.then ?_; refine TC.kp [0, 3, 13, 14, 15, 16] [] ?_; refine TC.seq ?_; refine TC.cond (fun hc => ?_) (fun hc => ?_)
      · replace Hy := cT Hy hc
        refine TC.skip ?_; refine TE.then ?_; refine TC.kp [0, 3, 13, 14, 15] [] ?_; refine TC.seq ?_; refine TC.block ?_; refine TC.seqS ?_
        obtain ⟨q, eq, Hy⟩ := bnd Hy
        refine TS.s (OpD.index eq) rfl ?_; refine TS.s OpY.load rfl ?_; refine TS.s OpY.assign rfl ?_; refine TS.nil ?_; refine TE.then ?_; refine TC.kp [0, 3, 5, 13, 14, 15] [] ?_; refine TC.regionS ?_; refine TS.s OpY.move rfl ?_; refine TS.s OpY.move rfl ?_; refine TS.s OpD.len rfl ?_
        obtain ⟨m2, em, Hy⟩ := bnd Hy
        refine TS.s (OpD.add em) rfl ?_; refine TS.s OpY.assign rfl ?_; refine TS.nil ?_; refine TE.kp [0, 3, 13, 14, 15] [] ?_; refine TE.inBlock_normal ?_; refine TE.then ?_; refine TC.kp [0, 3, 13, 14, 15] [] ?_; refine TC.regionS ?_
        obtain ⟨y2, ey, Hy⟩ := bnd Hy
        refine TS.s (OpD.add ey) rfl ?_; refine TS.s OpY.move rfl ?_; refine TS.nil ?_; refine TE.kp [0, 3, 13, 14, 15] [] ?_; exact TE.backP ⟨y2, m2⟩ () (Option.some.inj Hy).symm (Env.cv (Env.cv (Env.cv (Env.cv (Env.cv (Env.le_nil _)))))) (Less.nil _)
      · replace Hy := cF Hy hc
        refine TC.exit ?_; refine TE.then_exit ?_; refine TE.then_exit ?_; refine TE.inBlock_here ?_; exact TE.cutP m () (hey _ (Option.some.inj Hy).symm).symm (Env.cv (Env.cv (Env.le_nil _))) (Less.nil _)
    rintro m ⟨⟩ hp
    replace hp := hp.symm
    subst hp
    refine TE.then ?_; refine TC.kp [0, 3] [] ?_; refine TC.seqS ?_; refine TS.s OpY.move rfl ?_; refine TS.make eu1 ⟨Int.le_refl _, (room_some eu1).1⟩ rfl fun br => ?_; refine TS.s OpY.assign rfl ?_; refine TS.nil ?_; refine TE.then ?_; refine TC.kp [0, 6] [br] ?_; refine TC.seqS ?_; refine TS.s OpY.move rfl ?_; refine TS.s OpD.len rfl ?_; refine TS.make eu2 ⟨(room_some eu2).1, Int.le_refl _⟩ rfl fun bo => ?_; refine TS.s OpY.assign rfl ?_; refine TS.nil ?_; refine TE.then ?_; refine TC.kp [0, 6, 7] [br, bo] ?_; refine TC.re bo (C' := RowS br True 1 [] p0.length) (fun A w cs _ h => RowS.nil (by simp) A w cs h) ?_
    have hmt : Int.toNat m = p0.flatten.length := by rw [hlen]; rfl
    rw [hmt]
    refine TC.seq ?_; refine TC.seqS ?_; refine TS.s OpY.move rfl ?_; refine TS.s OpD.len rfl ?_; refine TS.s OpY.move rfl ?_; refine TS.nil ?_; refine TE.then ?_; refine TC.kp [6, 7, 29, 30, 31] [br, bo] ?_; refine TC.cutP (fun s : Unit => True) (fun (_ : Unit) (_ : Unit) => (Env.set Env.nil 7 (Sl bo True 0 p0.length p0.length))) (fun (_ : Unit) (_ : Unit) => [⟨br, True, Row (p0.flatten : List UInt8) p0.flatten.length⟩, ⟨bo, True, RowS br True 1 (p0.map List.length) p0.length⟩]) ?_ ?_
    · skip
      refine TC.block ?_
      refine TC.loopP eu3 (fun (x : Int) (_ : Unit) => (Env.set (Env.set (Env.set (Env.set (Env.set Env.nil 6 (Sl br True 0 (p0.take x.toNat).flatten.length p0.flatten.length)) 7 (Sl bo True 0 p0.length p0.length)) 29 (D (p0 : (List (List UInt8))))) 30 (D ((p0.length : Int) : Int))) 31 (D (x : Int))))
        (fun (x : Int) (_ : Unit) => [⟨br, True, Row ((p0.take x.toNat).flatten ++ List.replicate (p0.flatten.length - (p0.take x.toNat).flatten.length) (Dat.z : UInt8)) p0.flatten.length⟩, ⟨bo, True, RowS br True 1 ((p0.take x.toNat).map List.length) p0.length⟩]) () (Env.cv (Env.cv (Env.cv (Env.cvBy (Sl_le rfl) (Env.cvBy (Sl_le rfl) (Env.le_nil _)))))) (Less.pk rfl (Less.pk rfl (Less.nil _))) ?_
      rintro x ⟨⟩ y Hy hey
      replace Hy : chip_copied_l2 p0 x = some y := Hy
      unfold chip_copied_l2 at Hy
      refine TC.seqS ?_; refine TS.s OpY.lss rfl ?_; refine TS.nil ?_; refine TE.then ?_; refine TC.kp [6, 7, 29, 30, 31, 32] [br, bo] ?_; refine TC.seq ?_; refine TC.cond (fun hc => ?_) (fun hc => ?_)
      · replace Hy := cT Hy hc
        obtain ⟨q, eq, Hy⟩ := bnd Hy
        obtain ⟨y2, ey, Hy⟩ := bnd Hy
        have h4 := idx_lt eq
        obtain ⟨-, h5⟩ := idx_some eq
        obtain ⟨h6, h7⟩ := List.getElem?_eq_some_iff.1 h5
        obtain ⟨e3, -⟩ := ok64_some ey
        have e5 : y2.toNat = x.toNat + 1 := by omega
        have hfit := chip_copied_fit h6 h7
        have hll : ((p0.take x.toNat).map List.length).length = x.toNat := by simp; omega
        refine TC.skip ?_; refine TE.then ?_; refine TC.kp [6, 7, 29, 30, 31] [br, bo] ?_; refine TC.seq ?_; refine TC.block ?_; refine TC.seqS ?_; refine TS.s OpY.move rfl ?_; refine TS.s (OpD.index eq) rfl ?_; refine TS.s OpY.load rfl ?_; refine TS.s OpY.assign rfl ?_; refine TS.s OpY.assign rfl ?_; refine TS.nil ?_; refine TE.then ?_; refine TC.kp [6, 7, 8, 9, 29, 30, 31] [br, bo] ?_; refine TC.seqS ?_; refine TS.s OpY.move rfl ?_; refine TS.s (OpD.lenSv (n := (p0.take x.toNat).flatten.length) rfl) rfl ?_; refine TS.s OpY.assign rfl ?_; refine TS.nil ?_; refine TE.then ?_; refine TC.kp [6, 7, 8, 9, 10, 29, 30, 31] [br, bo] ?_; refine TC.seqS ?_; refine TS.s OpY.move rfl ?_; refine TS.s OpY.move rfl ?_; refine TS.u (OpT.appIn (ys := q) inferInstance trivial rfl (by rw [List.length_append, List.length_replicate]; omega)) rfl ?_; refine TS.s OpY.assign rfl ?_; refine TS.nil ?_; refine TE.then ?_; refine TC.kp [6, 7, 8, 10, 29, 30, 31] [br, bo] ?_; refine TC.regionS ?_; refine TS.s OpY.move rfl ?_; refine TS.s OpY.move rfl ?_; refine TS.s OpY.move rfl ?_; refine TS.s OpY.move rfl ?_; refine TS.s OpY.move rfl ?_; refine TS.s (OpD.lenSv (n := (p0.take x.toNat).flatten.length + q.length) rfl) rfl ?_; refine TS.s OpY.move rfl ?_; refine TS.s (OpD.lenSv (n := (p0.take x.toNat).flatten.length + q.length) rfl) rfl ?_; refine TS.s (OpY.slice3Sl (by omega) (by omega) (by omega) (by omega)) rfl ?_; refine TS.s (OpD.indexq h4) rfl ?_; refine TS.un (OpT.storeHq (RowS.put (by rw [hll]; show 0 + x.toNat * 1 = _; omega) (by rw [hll]; omega) (by rw [← offS_length, hll, offS]; show 0 + _ * 1 = _; rw [← List.map_take, List.take_take, Nat.min_self, ← List.length_flatten]; simp))) ?_; refine TS.nil ?_; refine TE.kp [6, 7, 29, 30, 31] [br, bo] ?_; refine TE.nmB br (C' := Row ((p0.take y2.toNat).flatten ++ List.replicate (p0.flatten.length - (p0.take y2.toNat).flatten.length) (Dat.z : UInt8)) p0.flatten.length) (by rw [chip_copied_step h6 h7, e5]) ?_
        refine TE.nmB bo (C' := RowS br True 1 ((p0.take y2.toNat).map List.length) p0.length) (by
          rw [e5, List.take_succ_eq_append_getElem h6, List.map_append, h7]
          congr 2
          simp; omega) ?_
        refine TE.see 6 (Sl br True 0 (p0.take y2.toNat).flatten.length p0.flatten.length) (Sl_le (by rw [e5, List.take_succ_eq_append_getElem h6, List.flatten_append, h7]; simp)) ?_; refine TE.inBlock_normal ?_; refine TE.then ?_; refine TC.kp [6, 7, 29, 30, 31] [br, bo] ?_; refine TC.regionS ?_; refine TS.s (OpD.add ey) rfl ?_; refine TS.s OpY.move rfl ?_; refine TS.nil ?_; refine TE.kp [6, 7, 29, 30, 31] [br, bo] ?_; exact TE.backP y2 () (Option.some.inj Hy).symm (Env.cv (Env.cv (Env.cv (Env.cvBy (Sl_le rfl) (Env.cvBy (Sl_le rfl) (Env.le_nil _)))))) (Less.pk rfl (Less.pk rfl (Less.nil _)))
      · replace Hy := cF Hy hc
        have hge : p0.take x.toNat = p0 := List.take_of_length_le (by have := of_decide_eq_false hc; omega)
        rw [hge]
        refine TC.exit ?_; refine TE.then_exit ?_; refine TE.then_exit ?_; refine TE.inBlock_here ?_; exact TE.cutP () () trivial (Env.cvBy (Sl_le rfl) (Env.le_nil _)) (Less.pk (by rw [Nat.sub_self]; simp) (Less.pk rfl (Less.nil _)))
    rintro ⟨⟩ ⟨⟩ hp
    refine TE.then ?_; refine TC.kp [7] [br, bo] ?_; refine TC.seqS ?_; refine TS.s OpY.move rfl ?_; refine TS.s OpY.assign rfl ?_; refine TS.nil ?_; refine TE.then ?_; refine TC.kp [2] [br, bo] ?_; refine TC.ret ?_; exact TE.retO1 rfl ⟨bo, br, True, p0.length, p0.flatten.length⟩ (Sl_le rfl) (Less.pk rfl (Less.pk rfl (Less.nil _)))
theorem chip_copied_c {A : Nat → Prop} {p0 r : (List (List UInt8))} (w : World) (v0 : Value) (hA : ∀ k, w.heap.size ≤ k → A k) (h0 : (D (p0 : (List (List UInt8)))).p A w v0) (H : chip_copied p0 = some r) :
    Calls Try.prog 93 #[v0] w (Ret A w (D r)) := (chip_copied_g w v0 hA ⟨fun k ⟨e, he, _⟩ => absurd he (by simp)⟩ List.Pairwise.nil (fun e he => absurd he (by simp)) (Ty.enter h0) H).mono fun e w' h => RetO.pub hA (fun g A w v hb h => rowS_data (hb _ (List.mem_cons_self ..)) (hb _ (List.mem_cons_of_mem _ (List.mem_cons_self ..))) h) h
def slices_Clone_api_Fault (s0 : (List Fault)) : Option (List Fault) :=
  (room 16 ((0 + s0.length : Nat) : Int)).bind fun _ => some s0
theorem slices_Clone_api_Fault_o {A : Nat → Prop} {s0 : (List Fault)}  {r : (List Fault)} (w : World) (v0 : Value) (hA : ∀ k, w.heap.size ≤ k → A k) (hO : OwnIn A []) (hap : Apart []) (hks : Pks (Pub A []) [] w) (h0 : (D (s0 : (List Fault))).p (Pub A []) w v0) (H : slices_Clone_api_Fault s0 = some r) :
    Calls Try.prog 65 #[v0] w (RetO A w [] (fun g : Nat × Prop × Nat => Sl g.1 g.2.1 0 (List.length r) g.2.2) fun g => [⟨g.1, g.2.1, Row (r : List Fault) g.2.2⟩]) := by
  unfold slices_Clone_api_Fault at H
  refine enterO1 hA hap hks Try.func65 rfl Try.ntmps65 rfl h0 ?_
  obtain ⟨u, eu, H⟩ := bnd H
  obtain rfl := Option.some.inj H
  refine TC.seqS ?_; refine TS.s OpY.assign rfl ?_; refine TS.nil ?_; refine TE.then ?_; refine TC.kp [0] [] ?_; refine TC.seq ?_; refine TC.seqS ?_; refine TS.s OpY.move rfl ?_; refine TS.s OpY.eql_slice rfl ?_; refine TS.nil ?_; refine TE.then ?_; refine TC.condE (fun hc => ?_) (fun hc => ?_)
  · obtain rfl := hc rfl
    refine TC.seqS ?_; refine TS.s OpY.assign rfl ?_; refine TS.nil ?_; refine TE.then ?_; refine TC.kp [2] [] ?_; refine TC.ret ?_; refine TE.then_ret ?_; exact TE.retO1 rfl ⟨0, False, 0⟩ NilS.sl0 (Less.nilRow (Less.nil _))
  · refine TC.skip ?_; refine TE.then ?_; refine TC.kp [0] [] ?_; refine TC.seqS ?_; refine TS.build [] rfl rfl (by decide) rfl fun b => ?_; refine TS.s OpY.move rfl ?_; refine TS.app (ys := s0) inferInstance eu rfl rfl rfl fun b1 p1 c1 => ?_; refine TS.s OpY.assign rfl ?_; refine TS.nil ?_; refine TE.then ?_; refine TC.kp [2] [b1] ?_; refine TC.ret ?_; exact TE.retO1 rfl ⟨b1, p1, c1⟩ (Sl_le (by simp)) (Less.pk rfl (Less.nil _))
theorem slices_Clone_api_Fault_c {A : Nat → Prop} {s0 : (List Fault)} {r : (List Fault)} (w : World) (v0 : Value) (hA : ∀ k, w.heap.size ≤ k → A k) (h0 : (D (s0 : (List Fault))).p A w v0) (H : slices_Clone_api_Fault s0 = some r) :
    Calls Try.prog 65 #[v0] w (Ret A w (D r)) := (slices_Clone_api_Fault_o w v0 hA ⟨fun k ⟨e, he, _⟩ => absurd he (by simp)⟩ List.Pairwise.nil (fun e he => absurd he (by simp)) (Ty.enter h0) H).mono fun e w' h => RetO.pub1 hA h
def chip_clone_l1 (x_3 : (List Block)) (x_7 : Int) (l_8 : (List Block)) : Option ((Int × (List Block)) ⊕ (List Block)) :=
  bif (decide (x_7 < (x_3.length : Int))) then ((idx l_8 x_7).bind fun x_10 => (chip_copied x_10.Pages).bind fun x_11 => (idx l_8 x_7).bind fun x_12 => (some ((l_8.set (Int.toNat x_7) (⟨x_11, x_12.Used, x_12.Worn, x_12.Bad⟩ : Block)) : (List Block))).bind fun l_13 => (addI x_7 (1 : Int)).bind fun x_14 => some (.inl (x_14, l_13))) else (some (.inr l_8))
def chip_clone (c0 : Chip) : Option Chip :=
  (slices_Clone_api_Block c0.Blocks).bind fun x_3 => (loopO (fun s => chip_clone_l1 x_3 s.1 s.2) ((0 : Int), x_3)).bind fun l_5 => (slices_Clone_api_Fault c0.Faults).bind fun x_15 => (some ((⟨c0.Pages, c0.Size, c0.Blocks, c0.Ops, c0.Off, x_15⟩ : Chip) : Chip)).bind fun c_16 => some (⟨c_16.Pages, c_16.Size, l_5, c_16.Ops, c_16.Off, c_16.Faults⟩ : Chip)
theorem chip_clone_o {A : Nat → Prop} {c0 : Chip}  {r : Chip} (w : World) (v0 : Value) (hA : ∀ k, w.heap.size ≤ k → A k) (hO : OwnIn A []) (hap : Apart []) (hks : Pks (Pub A []) [] w) (h0 : (D (c0 : Chip)).p (Pub A []) w v0) (H : chip_clone c0 = some r) :
    Calls Try.prog 64 #[v0] w (RetO A w [] (fun g : Nat × Prop × Nat => VC (Ct.mix (One ((⟨r.Pages, r.Size, [], r.Ops, r.Off, r.Faults⟩ : Chip) : Chip)) 2 (Sl g.1 g.2.1 0 (List.length r.Blocks) g.2.2))) fun g => [⟨g.1, g.2.1, Row (r.Blocks : List Block) g.2.2⟩]) := by
  unfold chip_clone at H
  refine enterO1 hA hap hks Try.func64 rfl Try.ntmps64 rfl h0 ?_; refine TC.seqS ?_; refine TS.box rfl fun b1_0 => ?_; refine TS.alloc (α := Chip) rfl fun b2_1 => ?_; refine TS.nil ?_; refine TE.then ?_; refine TC.kp [1, 2] [b1_0, b2_1] ?_; refine TC.seqS ?_; refine TS.s OpY.fieldAddr rfl ?_; refine TS.s (OpD.ldq (Pl.fld (off := 2) (α := Chip) (β := (List Block)) Pl.one)) rfl ?_
  obtain ⟨x_3, ex_3, H⟩ := bnd H
  refine TS.t (OpT.callO1 [] fun w v0 hA hO hap hks h0 => slices_Clone_api_Block_o w v0 hA hO hap hks (toD h0) ex_3) rfl fun ⟨b6_3, p6_3, c6_3⟩ => ?_; dsimp only [List.cons_append, List.nil_append]
  refine TS.s OpY.fieldAddr rfl ?_; refine TS.un (OpT.storeHq (CtH.new (by decide))) ?_; refine TS.nil ?_; refine TE.then ?_; refine TC.kp [1, 2] [b1_0, b6_3, b2_1] ?_; refine TC.seq ?_; refine TC.seqS ?_; refine TS.s OpY.fieldAddr rfl ?_; refine TS.s (OpD.ldHq CeH.here) rfl ?_; refine TS.s (OpD.lenSv (n := x_3.length) rfl) rfl ?_; refine TS.s OpY.move rfl ?_; refine TS.nil ?_; refine TE.then ?_; refine TC.kp [1, 2, 10, 11] [b1_0, b6_3, b2_1] ?_
  obtain ⟨o_6, H6, H⟩ := bnd H
  refine TC.cutP (fun s : (List Block) => o_6 = s) (fun (l_5 : (List Block)) (_ : Unit) => (Env.set (Env.set Env.nil 1 (Pt b1_0 0)) 2 (Pt b2_1 0))) (fun (l_5 : (List Block)) (_ : Unit) => [⟨b6_3, p6_3, (Row (l_5 : List Block) c6_3)⟩, ⟨b1_0, True, (Ct.mix (One (c0 : Chip)) 2 (Sl b6_3 p6_3 0 l_5.length c6_3))⟩, ⟨b2_1, True, (One (Dat.z : Chip))⟩]) ?_ ?_
  · skip
    refine TC.block ?_; refine TC.loopP H6 (fun ⟨x_7, l_8⟩ (_ : Unit) => (Env.set (Env.set (Env.set (Env.set Env.nil 1 (Pt b1_0 0)) 2 (Pt b2_1 0)) 10 (D ((x_3.length : Int) : Int))) 11 (D (x_7 : Int)))) (fun ⟨x_7, l_8⟩ (_ : Unit) => [⟨b6_3, p6_3, (Row (l_8 : List Block) c6_3)⟩, ⟨b1_0, True, (Ct.mix (One (c0 : Chip)) 2 (Sl b6_3 p6_3 0 l_8.length c6_3))⟩, ⟨b2_1, True, (One (Dat.z : Chip))⟩]) () (Env.cv (Env.cv (Env.cv (Env.cv (Env.le_nil _))))) (Less.pk rfl (Less.pk rfl (Less.pk rfl (Less.nil _)))) ?_
    rintro ⟨x_7, l_8⟩ ⟨⟩ x_9 H9 he9
    replace H9 : chip_clone_l1 x_3 x_7 l_8 = some x_9 := H9
    unfold chip_clone_l1 at H9
    refine TC.seqS ?_; refine TS.s OpY.lss rfl ?_; refine TS.nil ?_; refine TE.then ?_; refine TC.kp [1, 2, 10, 11, 12] [b1_0, b6_3, b2_1] ?_; refine TC.seq ?_; refine TC.cond (fun hc => ?_) (fun hc => ?_)
    · replace H9 := cT H9 hc
      refine TC.skip ?_; refine TE.then ?_; refine TC.kp [1, 2, 10, 11] [b1_0, b6_3, b2_1] ?_; refine TC.seq ?_; refine TC.block ?_; refine TC.seqS ?_; refine TS.s OpY.move rfl ?_; refine TS.s OpY.assign rfl ?_; refine TS.nil ?_; refine TE.then ?_; refine TC.kp [1, 2, 3, 10, 11] [b1_0, b6_3, b2_1] ?_; refine TC.regD [8, 9, 12] [b6_3] mix (by kernel_rfl) (by kernel_rfl) ?_; refine TR.s OpY.fieldAddr rfl ?_; refine TR.s (OpD.ldHq CeH.here) rfl ?_; refine TR.s OpY.move rfl ?_; refine TR.s OpY.fieldAddr rfl ?_; refine TR.s (OpD.ldHq CeH.here) rfl ?_; refine TR.s OpY.move rfl ?_
      obtain ⟨x_10, ex_10, H9⟩ := bnd H9
      refine TR.s (OpD.indexq (idx_in ex_10 rfl)) rfl ?_; refine TR.s OpY.fieldAddr rfl ?_; refine TR.t (fun g => OpT.G rfl (OpD.ldq (Pl.fld (off := 0) (α := Block) (β := (List (List UInt8))) (Pl.rowz ex_10)))) rfl ?_
      obtain ⟨x_11, ex_11, H9⟩ := bnd H9
      refine TR.t (fun g => OpT.G rfl (OpY.call1 fun w v0 hA h0 => chip_copied_c w v0 hA (toD h0) ex_11)) rfl ?_
      obtain ⟨x_12, ex_12, H9⟩ := bnd H9
      refine TR.s (OpD.indexq (idx_in ex_12 rfl)) rfl ?_; refine TR.s OpY.fieldAddr rfl ?_; refine TR.tn (fun g => (OpT.storeq (y := (x_11 : (List (List UInt8)))) (Pl.fld (off := 0) (α := Block) (β := (List (List UInt8))) (Pl.rowz ex_12)))) rfl ?_; refine TR.nil ?_
      rintro ⟨⟨⟨_, _⟩, _⟩, _⟩
      dsimp only [Fam.nextS, Fam.nextN, Fam.one, List.cons_append, List.nil_append]
      refine TE.kp [1, 2, 10, 11] [b1_0, b6_3, b2_1] ?_
      obtain ⟨l_13, el_13, H9⟩ := bnd H9
      refine TE.nmB b6_3 (nm_row el_13) ?_; refine TE.nmB b1_0 (mix_n (nm_len el_13 (by simp))) ?_; refine TE.inBlock_normal ?_; refine TE.then ?_; refine TC.kp [1, 2, 10, 11] [b1_0, b6_3, b2_1] ?_; refine TC.regionS ?_
      obtain ⟨x_14, ex_14, H9⟩ := bnd H9
      refine TS.s (OpD.add ex_14) rfl ?_; refine TS.s OpY.move rfl ?_; refine TS.nil ?_; refine TE.kp [1, 2, 10, 11] [b1_0, b6_3, b2_1] ?_; exact TE.backP ⟨x_14, l_13⟩ () (Option.some.inj H9).symm (Env.cv (Env.cv (Env.cv (Env.cv (Env.le_nil _))))) (Less.pk rfl (Less.pk rfl (Less.pk rfl (Less.nil _))))
    · replace H9 := cF H9 hc
      refine TC.exit ?_; refine TE.then_exit ?_; refine TE.then_exit ?_; refine TE.inBlock_here ?_; exact TE.cutP l_8 () (he9 _ (Option.some.inj H9).symm).symm (Env.cv (Env.cv (Env.le_nil _))) (Less.pk rfl (Less.pk rfl (Less.pk rfl (Less.nil _))))
  rintro l_5 ⟨⟩ hp
  replace hp := hp.symm
  subst hp
  refine TE.then ?_; refine TC.kp [1, 2] [b1_0, b6_3, b2_1] ?_; refine TC.seqS ?_; refine TS.s OpY.fieldAddr rfl ?_; refine TS.s (OpD.ldq (Pl.mix (Pl.fld (off := 5) (α := Chip) (β := (List Fault)) Pl.one) (by first | decide | omega))) rfl ?_
  obtain ⟨x_15, ex_15, H⟩ := bnd H
  refine TS.s (OpY.call1 fun w v0 hA h0 => slices_Clone_api_Fault_c w v0 hA (toD h0) ex_15) rfl ?_; refine TS.s OpY.fieldAddr rfl ?_; refine TS.un (OpT.storeq (y := (x_15 : (List Fault))) (Pl.mix (Pl.fld (off := 5) (α := Chip) (β := (List Fault)) Pl.one) (by first | decide | omega))) ?_; refine TS.nil ?_; refine TE.then ?_; refine TC.kp [1, 2] [b1_0, b6_3, b2_1] ?_
  obtain ⟨c_16, ec_16, H⟩ := bnd H
  refine TC.nmB b1_0 (nm_mix (nm_one ec_16)) ?_; refine TC.seqS ?_; refine TS.s (OpY.ldC trivial rfl rfl) rfl ?_; refine TS.un (OpT.storeC trivial rfl CtSc.h) ?_; refine TS.nil ?_; refine TE.then ?_; refine TC.kp [2] [b2_1, b6_3] ?_; refine TC.ret ?_
  obtain rfl := (Option.some.inj H)
  exact TE.retO1 rfl ⟨b6_3, p6_3, c6_3⟩ (VC_le (mix_nil (α := Block) (by have h := ((Pl.fld (off := 2) (α := Chip) (β := (List Block)) (Pl.one (α := Chip) (i := Chip_dat) (x := c_16)))).st ([] : (List Block)); exact h) rfl)) (Less.pk rfl (Less.nil _))
theorem chip_copied_eq {p r : List (List UInt8)} (H : chip_copied p = some r) : r = p := by
  unfold chip_copied at H
  obtain ⟨_, _, H⟩ := bnd H
  obtain ⟨_, _, H⟩ := bnd H
  obtain ⟨_, _, H⟩ := bnd H
  obtain ⟨_, _, H⟩ := bnd H
  exact (Option.some.inj H).symm
theorem chip_clone_step {l : List Block} {x x' : Int} {l' x3 : List Block} (h : chip_clone_l1 x3 x l = some (.inl (x', l'))) : l' = l := by
  unfold chip_clone_l1 at h
  cases hc : decide (x < (x3.length : Int)) with
  | false => replace h := cF h hc; cases Option.some.inj h
  | true =>
    replace h := cT h hc
    obtain ⟨y, ey, h⟩ := bnd h
    obtain ⟨p, ep, h⟩ := bnd h
    obtain ⟨z, ez, h⟩ := bnd h
    obtain ⟨l2, el, h⟩ := bnd h
    obtain ⟨_, _, h⟩ := bnd h
    have h := Option.some.inj h
    injection h with h
    injection h with h1 h2
    subst h2
    rw [ey] at ez
    obtain rfl := Option.some.inj ez
    obtain rfl := chip_copied_eq ep
    obtain ⟨-, h5⟩ := idx_some ey
    obtain ⟨h6, h7⟩ := List.getElem?_eq_some_iff.1 h5
    rw [← Option.some.inj el, ← h7, List.set_getElem_self]
theorem chip_clone_end {l : List Block} {x : Int} {l' x3 : List Block} (h : chip_clone_l1 x3 x l = some (.inr l')) : l' = l := by
  unfold chip_clone_l1 at h
  cases hc : decide (x < (x3.length : Int)) with
  | true =>
    replace h := cT h hc
    obtain ⟨y, ey, h⟩ := bnd h
    obtain ⟨p, ep, h⟩ := bnd h
    obtain ⟨z, ez, h⟩ := bnd h
    obtain ⟨l2, el, h⟩ := bnd h
    obtain ⟨_, _, h⟩ := bnd h
    cases Option.some.inj h
  | false => replace h := cF h hc; injection Option.some.inj h with h; exact h.symm
theorem chip_clone_loop {x3 l : List Block} (h : loopO (fun s => chip_clone_l1 x3 s.1 s.2) ((0 : Int), x3) = some l) : l = x3 :=
  loopO_part (fun s : Int × List Block => s.2 = x3) (fun l => l = x3) (fun ⟨_, _⟩ ⟨_, _⟩ h1 hf => (chip_clone_step hf).trans h1) (fun ⟨_, _⟩ _ h1 hf => (chip_clone_end hf).trans h1) rfl h
theorem clone_Block_eq {s r : List Block} (h : slices_Clone_api_Block s = some r) : r = s := by
  unfold slices_Clone_api_Block at h; obtain ⟨_, _, h⟩ := bnd h; exact (Option.some.inj h).symm
theorem clone_Fault_eq {s r : List Fault} (h : slices_Clone_api_Fault s = some r) : r = s := by
  unfold slices_Clone_api_Fault at h; obtain ⟨_, _, h⟩ := bnd h; exact (Option.some.inj h).symm
theorem chip_clone_eq {c r : Chip} (H : chip_clone c = some r) : r = c := by
  unfold chip_clone at H
  obtain ⟨_, e1, H⟩ := bnd H
  obtain ⟨_, e2, H⟩ := bnd H
  obtain ⟨_, e3, H⟩ := bnd H
  obtain ⟨_, e4, H⟩ := bnd H
  obtain rfl := clone_Block_eq e1
  obtain rfl := chip_clone_loop e2
  obtain rfl := clone_Fault_eq e3
  have h := Option.some.inj H
  have h4 := Option.some.inj e4
  subst h4
  exact h.symm
def cloJ (b6_3 : Nat) (p6_3 : Prop) (c6_3 b1_0 b2_1 : Nat) (c0 : Chip) (P : List (List UInt8)) (β x : Int) (l : List Block) (m : Nat × Nat × Prop × Nat × Nat) : List Pe :=
  if x ≤ β then [⟨b6_3, p6_3, (Row (l : List Block) c6_3)⟩, ⟨b1_0, True, (Ct.mix (One (c0 : Chip)) 2 (Sl b6_3 p6_3 0 l.length c6_3))⟩, ⟨b2_1, True, (One (Dat.z : Chip))⟩]
  else [⟨b6_3, p6_3, (Ct.mix (Row (l : List Block) c6_3) ((0 + Int.toNat β * Dat.sz Block) + 0) (Sl m.1 m.2.2.1 0 P.length m.2.2.2.1))⟩, ⟨b1_0, True, (Ct.mix (One (c0 : Chip)) 2 (Sl b6_3 p6_3 0 l.length c6_3))⟩, ⟨b2_1, True, (One (Dat.z : Chip))⟩,
    ⟨m.1, m.2.2.1, RowS m.2.1 m.2.2.1 1 (P.map List.length) P.length⟩, ⟨m.2.1, m.2.2.1, Row (P.flatten : List UInt8) m.2.2.2.2⟩]
theorem cloJ_lo {b6_3 : Nat} {p6_3 : Prop} {c6_3 b1_0 b2_1 : Nat} {c0 : Chip} {P : List (List UInt8)} {β x : Int} {l : List Block} {m : Nat × Nat × Prop × Nat × Nat} (h : x ≤ β) : cloJ b6_3 p6_3 c6_3 b1_0 b2_1 c0 P β x l m =
    [⟨b6_3, p6_3, (Row (l : List Block) c6_3)⟩, ⟨b1_0, True, (Ct.mix (One (c0 : Chip)) 2 (Sl b6_3 p6_3 0 l.length c6_3))⟩, ⟨b2_1, True, (One (Dat.z : Chip))⟩] := if_pos h
theorem cloJ_hi {b6_3 : Nat} {p6_3 : Prop} {c6_3 b1_0 b2_1 : Nat} {c0 : Chip} {P : List (List UInt8)} {β x : Int} {l : List Block} {bo br : Nat} {po : Prop} {co cr : Nat} (h : β < x) : cloJ b6_3 p6_3 c6_3 b1_0 b2_1 c0 P β x l ⟨bo, br, po, co, cr⟩ =
    [⟨b6_3, p6_3, (Ct.mix (Row (l : List Block) c6_3) ((0 + Int.toNat β * Dat.sz Block) + 0) (Sl bo po 0 P.length co))⟩, ⟨b1_0, True, (Ct.mix (One (c0 : Chip)) 2 (Sl b6_3 p6_3 0 l.length c6_3))⟩, ⟨b2_1, True, (One (Dat.z : Chip))⟩,
      ⟨bo, po, RowS br po 1 (P.map List.length) P.length⟩, ⟨br, po, Row (P.flatten : List UInt8) cr⟩] := if_neg (by omega)
theorem chip_clone_g {A : Nat → Prop} {c0 r : Chip} {β : Int} {y : Block} (w : World) (v0 : Value) (hA : ∀ k, w.heap.size ≤ k → A k) (hO : OwnIn A []) (hap : Apart []) (hks : Pks (Pub A []) [] w) (h0 : (D (c0 : Chip)).p (Pub A []) w v0) (H : chip_clone c0 = some r) (hβ : idx r.Blocks β = some y) :
    Calls Try.prog 64 #[v0] w (RetO A w [] (fun g : Nat × Prop × Nat × Nat × Nat × Prop × Nat × Nat => VC (Ct.mix (One ((⟨r.Pages, r.Size, [], r.Ops, r.Off, r.Faults⟩ : Chip) : Chip)) 2 (Sl g.1 g.2.1 0 (List.length r.Blocks) g.2.2.1)))
      fun g => [⟨g.1, g.2.1, Ct.mix (Row (r.Blocks : List Block) g.2.2.1) ((0 + Int.toNat β * Dat.sz Block) + 0) (Sl g.2.2.2.1 g.2.2.2.2.2.1 0 y.Pages.length g.2.2.2.2.2.2.1)⟩, ⟨g.2.2.2.1, g.2.2.2.2.2.1, RowS g.2.2.2.2.1 g.2.2.2.2.2.1 1 (y.Pages.map List.length) y.Pages.length⟩, ⟨g.2.2.2.2.1, g.2.2.2.2.2.1, Row (y.Pages.flatten : List UInt8) g.2.2.2.2.2.2.2⟩]) := by
  have hr := chip_clone_eq H
  unfold chip_clone at H
  refine enterO1 hA hap hks Try.func64 rfl Try.ntmps64 rfl h0 ?_; refine TC.seqS ?_; refine TS.box rfl fun b1_0 => ?_; refine TS.alloc (α := Chip) rfl fun b2_1 => ?_; refine TS.nil ?_; refine TE.then ?_; refine TC.kp [1, 2] [b1_0, b2_1] ?_; refine TC.seqS ?_; refine TS.s OpY.fieldAddr rfl ?_; refine TS.s (OpD.ldq (Pl.fld (off := 2) (α := Chip) (β := (List Block)) Pl.one)) rfl ?_
  obtain ⟨x_3, ex_3, H⟩ := bnd H
  have hx3 := clone_Block_eq ex_3
  refine TS.t (OpT.callO1 [] fun w v0 hA hO hap hks h0 => slices_Clone_api_Block_o w v0 hA hO hap hks (toD h0) ex_3) rfl fun ⟨b6_3, p6_3, c6_3⟩ => ?_; dsimp only [List.cons_append, List.nil_append]
  refine TS.s OpY.fieldAddr rfl ?_; refine TS.un (OpT.storeHq (CtH.new (by decide))) ?_; refine TS.nil ?_; refine TE.then ?_; refine TC.kp [1, 2] [b1_0, b6_3, b2_1] ?_; refine TC.seq ?_; refine TC.seqS ?_; refine TS.s OpY.fieldAddr rfl ?_; refine TS.s (OpD.ldHq CeH.here) rfl ?_; refine TS.s (OpD.lenSv (n := x_3.length) rfl) rfl ?_; refine TS.s OpY.move rfl ?_; refine TS.nil ?_; refine TE.then ?_; refine TC.kp [1, 2, 10, 11] [b1_0, b6_3, b2_1] ?_
  obtain ⟨o_6, H6, H⟩ := bnd H
  have ho6 := chip_clone_loop H6
  have hβ' : idx x_3 β = some y := by rw [hx3, ← hr]; exact hβ
  have hβ2 := idx_lt hβ'
  refine TC.cutP (fun s : (List Block) => o_6 = s) (fun (l_5 : (List Block)) (_ : Nat × Nat × Prop × Nat × Nat) => (Env.set (Env.set Env.nil 1 (Pt b1_0 0)) 2 (Pt b2_1 0))) (fun (l_5 : (List Block)) (m : Nat × Nat × Prop × Nat × Nat) => [⟨b6_3, p6_3, (Ct.mix (Row (l_5 : List Block) c6_3) ((0 + Int.toNat β * Dat.sz Block) + 0) (Sl m.1 m.2.2.1 0 y.Pages.length m.2.2.2.1))⟩, ⟨b1_0, True, (Ct.mix (One (c0 : Chip)) 2 (Sl b6_3 p6_3 0 l_5.length c6_3))⟩, ⟨b2_1, True, (One (Dat.z : Chip))⟩,
    ⟨m.1, m.2.2.1, RowS m.2.1 m.2.2.1 1 (y.Pages.map List.length) y.Pages.length⟩, ⟨m.2.1, m.2.2.1, Row (y.Pages.flatten : List UInt8) m.2.2.2.2⟩]) ?_ ?_
  · skip
    refine TC.block ?_
    refine TC.loopPI H6 (fun s : Int × List Block => s.2 = x_3) rfl (fun ⟨_, _⟩ ⟨_, _⟩ h1 hf => (chip_clone_step hf).trans h1) (fun ⟨x_7, l_8⟩ (_ : Nat × Nat × Prop × Nat × Nat) => (Env.set (Env.set (Env.set (Env.set Env.nil 1 (Pt b1_0 0)) 2 (Pt b2_1 0)) 10 (D ((x_3.length : Int) : Int))) 11 (D (x_7 : Int)))) (fun ⟨x_7, l_8⟩ m => cloJ b6_3 p6_3 c6_3 b1_0 b2_1 c0 y.Pages β x_7 l_8 m) ⟨0, 0, True, 0, 0⟩ (Env.cv (Env.cv (Env.cv (Env.cv (Env.le_nil _))))) (by
      show Less _ (cloJ b6_3 p6_3 c6_3 b1_0 b2_1 c0 y.Pages β 0 x_3 _)
      rw [cloJ_lo (by omega)]; exact (Less.pk rfl (Less.pk rfl (Less.pk rfl (Less.nil _))))) ?_
    rintro ⟨x_7, l_8⟩ m x_9 hl8 H9 he9
    replace H9 : chip_clone_l1 x_3 x_7 l_8 = some x_9 := H9
    obtain rfl : l_8 = x_3 := hl8
    have hend := @chip_clone_end l_8 x_7
    unfold chip_clone_l1 at H9
    show TC _ _ _ _ (cloJ b6_3 p6_3 c6_3 b1_0 b2_1 c0 y.Pages β x_7 l_8 m) _ _
    rcases Int.lt_trichotomy x_7 β with hx | hx | hx
    · rw [cloJ_lo (by omega)]
      refine TC.seqS ?_; refine TS.s OpY.lss rfl ?_; refine TS.nil ?_; refine TE.then ?_; refine TC.kp [1, 2, 10, 11, 12] [b1_0, b6_3, b2_1] ?_; refine TC.seq ?_; refine TC.cond (fun hc => ?_) (fun hc => ?_)
      · replace H9 := cT H9 hc
        obtain ⟨x_10, ex_10, H9⟩ := bnd H9
        obtain ⟨x_11, ex_11, H9⟩ := bnd H9
        obtain ⟨x_12, ex_12, H9⟩ := bnd H9
        obtain ⟨l_13, el_13, H9⟩ := bnd H9
        obtain ⟨x_14, ex_14, H9⟩ := bnd H9
        have e14 := (ok64_some ex_14).1
        have hset : (l_8.set (Int.toNat x_7) (⟨x_11, x_12.Used, x_12.Worn, x_12.Bad⟩ : Block)) = l_8 := by
          have h12 : x_12 = x_10 := by rw [ex_10] at ex_12; exact (Option.some.inj ex_12).symm
          obtain ⟨-, h5⟩ := idx_some ex_10
          obtain ⟨h6, h7⟩ := List.getElem?_eq_some_iff.1 h5
          rw [chip_copied_eq ex_11, h12]
          show l_8.set (Int.toNat x_7) x_10 = l_8
          rw [← h7, List.set_getElem_self]
        rw [show l_13 = l_8 from (Option.some.inj el_13).symm.trans hset] at H9
        refine TC.skip ?_; refine TE.then ?_; refine TC.kp [1, 2, 10, 11] [b1_0, b6_3, b2_1] ?_; refine TC.seq ?_; refine TC.block ?_; refine TC.seqS ?_; refine TS.s OpY.move rfl ?_; refine TS.s OpY.assign rfl ?_; refine TS.nil ?_; refine TE.then ?_; refine TC.kp [1, 2, 3, 10, 11] [b1_0, b6_3, b2_1] ?_; refine TC.regD [8, 9, 12] [b6_3] mix (by kernel_rfl) (by kernel_rfl) ?_; refine TR.s OpY.fieldAddr rfl ?_; refine TR.s (OpD.ldHq CeH.here) rfl ?_; refine TR.s OpY.move rfl ?_; refine TR.s OpY.fieldAddr rfl ?_; refine TR.s (OpD.ldHq CeH.here) rfl ?_; refine TR.s OpY.move rfl ?_; refine TR.s (OpD.indexq (idx_in ex_10 rfl)) rfl ?_; refine TR.s OpY.fieldAddr rfl ?_; refine TR.t (fun g => OpT.G rfl (OpD.ldq (Pl.fld (off := 0) (α := Block) (β := (List (List UInt8))) (Pl.rowz ex_10)))) rfl ?_; refine TR.t (fun g => OpT.G rfl (OpY.call1 fun w v0 hA h0 => chip_copied_c w v0 hA (toD h0) ex_11)) rfl ?_; refine TR.s (OpD.indexq (idx_in ex_12 rfl)) rfl ?_; refine TR.s OpY.fieldAddr rfl ?_; refine TR.tn (fun g => (OpT.storeq (y := (x_11 : (List (List UInt8)))) (Pl.fld (off := 0) (α := Block) (β := (List (List UInt8))) (Pl.rowz ex_12)))) rfl ?_; refine TR.nil ?_
        rintro ⟨⟨⟨_, _⟩, _⟩, _⟩
        dsimp only [Fam.nextS, Fam.nextN, Fam.one, List.cons_append, List.nil_append]
        refine TE.kp [1, 2, 10, 11] [b1_0, b6_3, b2_1] ?_; refine TE.nmB b6_3 (by rw [hset]) ?_; refine TE.inBlock_normal ?_; refine TE.then ?_; refine TC.kp [1, 2, 10, 11] [b1_0, b6_3, b2_1] ?_; refine TC.regionS ?_; refine TS.s (OpD.add ex_14) rfl ?_; refine TS.s OpY.move rfl ?_; refine TS.nil ?_; refine TE.kp [1, 2, 10, 11] [b1_0, b6_3, b2_1] ?_; exact TE.backP ⟨x_14, l_8⟩ m (Option.some.inj H9).symm (Env.cv (Env.cv (Env.cv (Env.cv (Env.le_nil _))))) (by rw [cloJ_lo (by omega)]; exact (Less.pk rfl (Less.pk rfl (Less.pk rfl (Less.nil _)))))
      · have := of_decide_eq_false hc; omega
    · subst hx
      rw [cloJ_lo (by omega)]
      refine TC.seqS ?_; refine TS.s OpY.lss rfl ?_; refine TS.nil ?_; refine TE.then ?_; refine TC.kp [1, 2, 10, 11, 12] [b1_0, b6_3, b2_1] ?_; refine TC.seq ?_; refine TC.cond (fun hc => ?_) (fun hc => ?_)
      · replace H9 := cT H9 hc
        obtain ⟨x_10, ex_10, H9⟩ := bnd H9
        obtain ⟨x_11, ex_11, H9⟩ := bnd H9
        obtain ⟨x_12, ex_12, H9⟩ := bnd H9
        obtain ⟨l_13, el_13, H9⟩ := bnd H9
        obtain ⟨x_14, ex_14, H9⟩ := bnd H9
        have e14 := (ok64_some ex_14).1
        have hset : (l_8.set (Int.toNat x_7) (⟨x_11, x_12.Used, x_12.Worn, x_12.Bad⟩ : Block)) = l_8 := by
          have h12 : x_12 = x_10 := by rw [ex_10] at ex_12; exact (Option.some.inj ex_12).symm
          obtain ⟨-, h5⟩ := idx_some ex_10
          obtain ⟨h6, h7⟩ := List.getElem?_eq_some_iff.1 h5
          rw [chip_copied_eq ex_11, h12]
          show l_8.set (Int.toNat x_7) x_10 = l_8
          rw [← h7, List.set_getElem_self]
        rw [show l_13 = l_8 from (Option.some.inj el_13).symm.trans hset] at H9
        have K9 := H9
        rw [hβ'] at ex_10
        obtain rfl := Option.some.inj ex_10
        replace ex_10 := hβ'
        obtain rfl := chip_copied_eq ex_11
        refine TC.skip ?_; refine TE.then ?_; refine TC.kp [1, 2, 10, 11] [b1_0, b6_3, b2_1] ?_; refine TC.seq ?_; refine TC.block ?_; refine TC.seqS ?_; refine TS.s OpY.move rfl ?_; refine TS.s OpY.assign rfl ?_; refine TS.nil ?_; refine TE.then ?_; refine TC.kp [1, 2, 3, 10, 11] [b1_0, b6_3, b2_1] ?_; refine TC.regD [8, 9, 12] [b6_3] mix (by kernel_rfl) (by kernel_rfl) ?_; refine TR.s OpY.fieldAddr rfl ?_; refine TR.s (OpD.ldHq CeH.here) rfl ?_; refine TR.s OpY.move rfl ?_; refine TR.s OpY.fieldAddr rfl ?_; refine TR.s (OpD.ldHq CeH.here) rfl ?_; refine TR.s OpY.move rfl ?_; refine TR.s (OpD.indexq (idx_in ex_10 rfl)) rfl ?_; refine TR.s OpY.fieldAddr rfl ?_; refine TR.t (fun g => OpT.G rfl (OpD.ldq (Pl.fld (off := 0) (α := Block) (β := (List (List UInt8))) (Pl.rowz ex_10)))) rfl ?_; refine TR.t (fun g => OpT.callO1 [] fun w v0 hA hO hap hks h0 => chip_copied_g w v0 hA hO hap hks (toD h0) ex_11) rfl ?_; refine TR.s (OpD.indexq (idx_in ex_12 rfl)) rfl ?_; refine TR.s OpY.fieldAddr rfl ?_; refine TR.tn (fun g => (OpT.storeHq (CtH.rowAt ex_12 (off := 0) (by omega) (by decide)))) rfl ?_; refine TR.nil ?_
        rintro ⟨⟨⟨_, _⟩, ⟨bo, br, po, co, cr⟩⟩, _⟩
        dsimp only [Fam.nextS, Fam.nextN, Fam.one, List.cons_append, List.nil_append]
        refine TE.kp [1, 2, 10, 11] [b1_0, b6_3, b2_1, bo, br] ?_
        skip
        refine TE.inBlock_normal ?_; refine TE.then ?_; refine TC.kp [1, 2, 10, 11] [b1_0, b6_3, b2_1, bo, br] ?_; refine TC.regionS ?_; refine TS.s (OpD.add ex_14) rfl ?_; refine TS.s OpY.move rfl ?_; refine TS.nil ?_; refine TE.kp [1, 2, 10, 11] [b1_0, b6_3, b2_1, bo, br] ?_; exact TE.backP ⟨x_14, l_8⟩ ⟨bo, br, po, co, cr⟩ (Option.some.inj K9).symm (Env.cv (Env.cv (Env.cv (Env.cv (Env.le_nil _))))) (by rw [cloJ_hi (by omega)]; exact (Less.pk rfl (Less.pk rfl (Less.pk rfl (Less.pk rfl (Less.pk rfl (Less.nil _)))))))
      · have := of_decide_eq_false hc; omega
    · obtain ⟨bo, br, po, co, cr⟩ := m
      rw [cloJ_hi hx]
      refine TC.seqS ?_; refine TS.s OpY.lss rfl ?_; refine TS.nil ?_; refine TE.then ?_; refine TC.kp [1, 2, 10, 11, 12] [b1_0, b6_3, b2_1, bo, br] ?_; refine TC.seq ?_; refine TC.cond (fun hc => ?_) (fun hc => ?_)
      · replace H9 := cT H9 hc
        obtain ⟨x_10, ex_10, H9⟩ := bnd H9
        obtain ⟨x_11, ex_11, H9⟩ := bnd H9
        obtain ⟨x_12, ex_12, H9⟩ := bnd H9
        obtain ⟨l_13, el_13, H9⟩ := bnd H9
        obtain ⟨x_14, ex_14, H9⟩ := bnd H9
        have e14 := (ok64_some ex_14).1
        have hset : (l_8.set (Int.toNat x_7) (⟨x_11, x_12.Used, x_12.Worn, x_12.Bad⟩ : Block)) = l_8 := by
          have h12 : x_12 = x_10 := by rw [ex_10] at ex_12; exact (Option.some.inj ex_12).symm
          obtain ⟨-, h5⟩ := idx_some ex_10
          obtain ⟨h6, h7⟩ := List.getElem?_eq_some_iff.1 h5
          rw [chip_copied_eq ex_11, h12]
          show l_8.set (Int.toNat x_7) x_10 = l_8
          rw [← h7, List.set_getElem_self]
        rw [show l_13 = l_8 from (Option.some.inj el_13).symm.trans hset] at H9
        have hxn : Int.toNat x_7 ≠ Int.toNat β := by have := idx_lt ex_10; omega
        refine TC.skip ?_; refine TE.then ?_; refine TC.kp [1, 2, 10, 11] [b1_0, b6_3, b2_1, bo, br] ?_; refine TC.seq ?_; refine TC.block ?_; refine TC.seqS ?_; refine TS.s OpY.move rfl ?_; refine TS.s OpY.assign rfl ?_; refine TS.nil ?_; refine TE.then ?_; refine TC.kp [1, 2, 3, 10, 11] [b1_0, b6_3, b2_1, bo, br] ?_; refine TC.regD [8, 9, 12] [b6_3] mix (by kernel_rfl) (by kernel_rfl) ?_; refine TR.s OpY.fieldAddr rfl ?_; refine TR.s (OpD.ldHq CeH.here) rfl ?_; refine TR.s OpY.move rfl ?_; refine TR.s OpY.fieldAddr rfl ?_; refine TR.s (OpD.ldHq CeH.here) rfl ?_; refine TR.s OpY.move rfl ?_; refine TR.s (OpD.indexq (idx_in ex_10 rfl)) rfl ?_; refine TR.s OpY.fieldAddr rfl ?_; refine TR.t (fun g => OpT.G rfl (OpD.ldq (Pl.mix (Pl.fld (off := 0) (α := Block) (β := (List (List UInt8))) (Pl.rowz ex_10)) (by simp only [show Dat.sz Block = 4 from rfl, show Dat.sz (List (List UInt8)) = 1 from rfl]; omega)))) rfl ?_; refine TR.t (fun g => OpT.G rfl (OpY.call1 fun w v0 hA h0 => chip_copied_c w v0 hA (toD h0) ex_11)) rfl ?_; refine TR.s (OpD.indexq (idx_in ex_12 rfl)) rfl ?_; refine TR.s OpY.fieldAddr rfl ?_; refine TR.tn (fun g => (OpT.storeq (y := (x_11 : (List (List UInt8)))) (Pl.mix (Pl.fld (off := 0) (α := Block) (β := (List (List UInt8))) (Pl.rowz ex_12)) (by simp only [show Dat.sz Block = 4 from rfl, show Dat.sz (List (List UInt8)) = 1 from rfl]; omega)))) rfl ?_; refine TR.nil ?_
        rintro ⟨⟨⟨_, _⟩, _⟩, _⟩
        dsimp only [Fam.nextS, Fam.nextN, Fam.one, List.cons_append, List.nil_append]
        refine TE.kp [1, 2, 10, 11] [b1_0, b6_3, b2_1, bo, br] ?_; refine TE.nmB b6_3 (nm_mix (by rw [hset])) ?_; refine TE.inBlock_normal ?_; refine TE.then ?_; refine TC.kp [1, 2, 10, 11] [b1_0, b6_3, b2_1, bo, br] ?_; refine TC.regionS ?_; refine TS.s (OpD.add ex_14) rfl ?_; refine TS.s OpY.move rfl ?_; refine TS.nil ?_; refine TE.kp [1, 2, 10, 11] [b1_0, b6_3, b2_1, bo, br] ?_; exact TE.backP ⟨x_14, l_8⟩ ⟨bo, br, po, co, cr⟩ (Option.some.inj H9).symm (Env.cv (Env.cv (Env.cv (Env.cv (Env.le_nil _))))) (by rw [cloJ_hi (by omega)]; exact (Less.pk rfl (Less.pk rfl (Less.pk rfl (Less.pk rfl (Less.pk rfl (Less.nil _)))))))
      · replace H9 := cF H9 hc
        refine TC.exit ?_; refine TE.then_exit ?_; refine TE.then_exit ?_; refine TE.inBlock_here ?_; exact TE.cutP l_8 ⟨bo, br, po, co, cr⟩ (he9 _ (Option.some.inj H9).symm).symm (Env.cv (Env.cv (Env.le_nil _))) (Less.pk rfl (Less.pk rfl (Less.pk rfl (Less.pk rfl (Less.pk rfl (Less.nil _))))))
  rintro l_5 ⟨bo, br, po, co, cr⟩ hp
  replace hp := hp.symm
  subst hp
  dsimp only
  refine TE.then ?_; refine TC.kp [1, 2] [b1_0, b6_3, b2_1, bo, br] ?_; refine TC.seqS ?_; refine TS.s OpY.fieldAddr rfl ?_; refine TS.s (OpD.ldq (Pl.mix (Pl.fld (off := 5) (α := Chip) (β := (List Fault)) Pl.one) (by first | decide | omega))) rfl ?_
  obtain ⟨x_15, ex_15, H⟩ := bnd H
  refine TS.s (OpY.call1 fun w v0 hA h0 => slices_Clone_api_Fault_c w v0 hA (toD h0) ex_15) rfl ?_; refine TS.s OpY.fieldAddr rfl ?_; refine TS.un (OpT.storeq (y := (x_15 : (List Fault))) (Pl.mix (Pl.fld (off := 5) (α := Chip) (β := (List Fault)) Pl.one) (by first | decide | omega))) ?_; refine TS.nil ?_; refine TE.then ?_; refine TC.kp [1, 2] [b1_0, b6_3, b2_1, bo, br] ?_
  obtain ⟨c_16, ec_16, H⟩ := bnd H
  refine TC.nmB b1_0 (nm_mix (nm_one ec_16)) ?_; refine TC.seqS ?_; refine TS.s (OpY.ldC trivial rfl rfl) rfl ?_; refine TS.un (OpT.storeC trivial rfl CtSc.h) ?_; refine TS.nil ?_; refine TE.then ?_; refine TC.kp [2] [b2_1, b6_3, bo, br] ?_; refine TC.ret ?_
  obtain rfl := (Option.some.inj H)
  exact TE.retO1 rfl ⟨b6_3, p6_3, c6_3, bo, br, po, co, cr⟩ (VC_le (mix_nil (α := Block) (by have h := ((Pl.fld (off := 2) (α := Chip) (β := (List Block)) (Pl.one (α := Chip) (i := Chip_dat) (x := c_16)))).st ([] : (List Block)); exact h) rfl)) (Less.pk rfl (Less.pk rfl (Less.pk rfl (Less.nil _))))
def chip_Right_l2 (c0 : Chip) (x_6 : Block) (x_10 : Int) : Option (Int ⊕ (Unit ⊕ Bool)) :=
  bif (decide (x_10 < (x_6.Pages.length : Int))) then ((idx x_6.Pages x_10).bind fun x_12 => bif (decide ((x_12.length : Int) ≠ c0.Size)) then (some (.inr (.inr false))) else ((addI x_10 (1 : Int)).bind fun x_15 => some (.inl x_15))) else (some (.inr (.inl ())))
def chip_Right_l1 (c0 : Chip) (x_4 : Int) : Option (Int ⊕ (Unit ⊕ Bool)) :=
  bif (decide (x_4 < (c0.Blocks.length : Int))) then ((idx c0.Blocks x_4).bind fun x_6 => bif (((((decide ((x_6.Pages.length : Int) ≠ c0.Pages)) || (decide (x_6.Used < (0 : Int)))) || (decide (x_6.Used > c0.Pages))) || (decide (x_6.Worn < (0 : Int)))) || (decide (x_6.Worn > (1099511627776 : Int)))) then (some (.inr (.inr false))) else ((loopO (fun s => chip_Right_l2 c0 x_6 s) (0 : Int)).bind fun o_9 => elS o_9 (fun _ => (addI x_4 (1 : Int)).bind fun x_16 => some (.inl x_16)) (fun q => some (.inr (.inr q))))) else (some (.inr (.inl ())))
def chip_Right (c0 : Chip) : Option Bool :=
  (chip_sound (c0.Blocks.length : Int) c0.Pages c0.Size).bind fun x_2 => bif ((((!x_2) || (decide (c0.Ops < (0 : Int)))) || (decide (c0.Ops > (1099511627776 : Int)))) || (decide ((c0.Faults.length : Int) > (64 : Int)))) then (some false) else ((loopO (fun s => chip_Right_l1 c0 s) (0 : Int)).bind fun o_3 => elS o_3 (fun _ => some true) (fun q => some q))
theorem chip_Right_c {A : Nat → Prop} {c0 : Chip}  {r : Bool} (w : World) (v0 : Value) (hA : ∀ k, w.heap.size ≤ k → A k)  (h0 : (D (c0 : Chip)).p A w v0) (H : chip_Right c0 = some r) :
    Calls Try.prog 21 #[v0] w (Ret A w (D (r : Bool))) := by
  unfold chip_Right at H
  refine enter1 hA Try.func21 rfl Try.ntmps21 rfl h0 ?_; refine TC.seqS ?_; refine TS.box rfl fun b1_0 => ?_; refine TS.s OpY.assign rfl ?_; refine TS.nil ?_; refine TE.then ?_; refine TC.kp [1] [b1_0] ?_; refine TC.seq ?_; refine TC.seqS ?_; refine TS.s OpY.fieldAddr rfl ?_; refine TS.s (OpD.ldq (Pl.fld (off := 2) (α := Chip) (β := (List Block)) Pl.one)) rfl ?_; refine TS.s OpD.len rfl ?_; refine TS.s OpY.fieldAddr rfl ?_; refine TS.s (OpD.ldq (Pl.fld (off := 0) (α := Chip) (β := Int) Pl.one)) rfl ?_; refine TS.s OpY.fieldAddr rfl ?_; refine TS.s (OpD.ldq (Pl.fld (off := 1) (α := Chip) (β := Int) Pl.one)) rfl ?_
  obtain ⟨x_2, ex_2, H⟩ := bnd H
  refine TS.s (OpY.call3 fun w v0 v1 v2 hA h0 h1 h2 => chip_sound_c w v0 v1 v2 hA (toD h0) (toD h1) (toD h2) ex_2) rfl ?_; refine TS.s OpY.notB rfl ?_; refine TS.s OpY.move rfl ?_; refine TS.g 16 rfl (fun hg => OpY.fieldAddr) rfl ?_; refine TS.g 16 rfl (fun hg => (OpD.ldq (Pl.fld (off := 3) (α := Chip) (β := Int) Pl.one))) rfl ?_; refine TS.g 16 rfl (fun hg => OpY.lss) rfl ?_; refine TS.s OpY.pickOr rfl ?_; refine TS.s OpY.move rfl ?_; refine TS.g 21 rfl (fun hg => OpY.fieldAddr) rfl ?_; refine TS.g 21 rfl (fun hg => (OpD.ldq (Pl.fld (off := 3) (α := Chip) (β := Int) Pl.one))) rfl ?_; refine TS.g 21 rfl (fun hg => OpY.gtr) rfl ?_; refine TS.s OpY.pickOr rfl ?_; refine TS.s OpY.move rfl ?_; refine TS.g 26 rfl (fun hg => OpY.fieldAddr) rfl ?_; refine TS.g 26 rfl (fun hg => (OpD.ldq (Pl.fld (off := 5) (α := Chip) (β := (List Fault)) Pl.one))) rfl ?_; refine TS.g 26 rfl (fun hg => OpD.len) rfl ?_; refine TS.g 26 rfl (fun hg => OpY.gtr) rfl ?_; refine TS.s OpY.pickOr rfl ?_; refine TS.nil ?_; refine TE.then ?_; refine TC.kp [1, 31] [b1_0] ?_; refine TC.cond (fun hc => ?_) (fun hc => ?_)
  · replace H := cT H hc
    refine TC.seqS ?_; refine TS.s OpY.assign rfl ?_; refine TS.nil ?_; refine TE.then ?_; refine TC.kp [2] [] ?_; refine TC.ret ?_; refine TE.then_ret ?_
    obtain rfl := (Option.some.inj H)
    exact TE.ret1 rfl Cv.le
  · replace H := cF H hc
    refine TC.skip ?_; refine TE.then ?_; refine TC.kp [1] [b1_0] ?_; refine TC.seq ?_; refine TC.seqS ?_; refine TS.s OpY.fieldAddr rfl ?_; refine TS.s (OpD.ldq (Pl.fld (off := 2) (α := Chip) (β := (List Block)) Pl.one)) rfl ?_; refine TS.s OpD.len rfl ?_; refine TS.s OpY.move rfl ?_; refine TS.nil ?_; refine TE.then ?_; refine TC.kp [1, 33, 34, 35] [b1_0] ?_
    obtain ⟨o_3, H3, H⟩ := bnd H
    refine TC.cutP (fun s : Unit => o_3 = .inl s) (fun (_ : Unit) (_ : Unit) => Env.nil) (fun (_ : Unit) (_ : Unit) => []) ?_ ?_
    · skip
      refine TC.block ?_; refine TC.loopP H3 (fun (x_4 : Int) (_ : Unit) => (Env.set (Env.set (Env.set (Env.set Env.nil 1 (Pt b1_0 0)) 33 (D (c0.Blocks : (List Block)))) 34 (D ((c0.Blocks.length : Int) : Int))) 35 (D (x_4 : Int)))) (fun (x_4 : Int) (_ : Unit) => [⟨b1_0, True, (One (c0 : Chip))⟩]) () (Env.cv (Env.cv (Env.cv (Env.cv (Env.le_nil _))))) (Less.pk rfl (Less.nil _)) ?_
      rintro x_4 ⟨⟩ x_5 H5 he5
      replace H5 : chip_Right_l1 c0 x_4 = some x_5 := H5
      unfold chip_Right_l1 at H5
      refine TC.seqS ?_; refine TS.s OpY.lss rfl ?_; refine TS.nil ?_; refine TE.then ?_; refine TC.kp [1, 33, 34, 35, 36] [b1_0] ?_; refine TC.seq ?_; refine TC.cond (fun hc => ?_) (fun hc => ?_)
      · replace H5 := cT H5 hc
        refine TC.skip ?_; refine TE.then ?_; refine TC.kp [1, 33, 34, 35] [b1_0] ?_; refine TC.seq ?_; refine TC.block ?_; refine TC.seqS ?_
        obtain ⟨x_6, ex_6, H5⟩ := bnd H5
        refine TS.s (OpD.index ex_6) rfl ?_; refine TS.s OpY.load rfl ?_; refine TS.alloc (α := Block) rfl fun b4_6 => ?_; refine TS.un (OpT.storeq (y := (x_6 : Block)) Pl.one) ?_; refine TS.nil ?_; refine TE.then ?_; refine TC.kp [1, 4, 33, 34, 35] [b1_0, b4_6] ?_; refine TC.seq ?_; refine TC.seqS ?_; refine TS.s OpY.fieldAddr rfl ?_; refine TS.s (OpD.ldq (Pl.fld (off := 0) (α := Block) (β := (List (List UInt8))) Pl.one)) rfl ?_; refine TS.s OpD.len rfl ?_; refine TS.s OpY.fieldAddr rfl ?_; refine TS.s (OpD.ldq (Pl.fld (off := 0) (α := Chip) (β := Int) Pl.one)) rfl ?_; refine TS.s OpY.neq rfl ?_; refine TS.s OpY.move rfl ?_; refine TS.g 45 rfl (fun hg => OpY.fieldAddr) rfl ?_; refine TS.g 45 rfl (fun hg => (OpD.ldq (Pl.fld (off := 1) (α := Block) (β := Int) Pl.one))) rfl ?_; refine TS.g 45 rfl (fun hg => OpY.lss) rfl ?_; refine TS.s OpY.pickOr rfl ?_; refine TS.s OpY.move rfl ?_; refine TS.g 50 rfl (fun hg => OpY.fieldAddr) rfl ?_; refine TS.g 50 rfl (fun hg => (OpD.ldq (Pl.fld (off := 1) (α := Block) (β := Int) Pl.one))) rfl ?_; refine TS.g 50 rfl (fun hg => OpY.fieldAddr) rfl ?_; refine TS.g 50 rfl (fun hg => (OpD.ldq (Pl.fld (off := 0) (α := Chip) (β := Int) Pl.one))) rfl ?_; refine TS.g 50 rfl (fun hg => OpY.gtr) rfl ?_; refine TS.s OpY.pickOr rfl ?_; refine TS.s OpY.move rfl ?_; refine TS.g 57 rfl (fun hg => OpY.fieldAddr) rfl ?_; refine TS.g 57 rfl (fun hg => (OpD.ldq (Pl.fld (off := 2) (α := Block) (β := Int) Pl.one))) rfl ?_; refine TS.g 57 rfl (fun hg => OpY.lss) rfl ?_; refine TS.s OpY.pickOr rfl ?_; refine TS.s OpY.move rfl ?_; refine TS.g 62 rfl (fun hg => OpY.fieldAddr) rfl ?_; refine TS.g 62 rfl (fun hg => (OpD.ldq (Pl.fld (off := 2) (α := Block) (β := Int) Pl.one))) rfl ?_; refine TS.g 62 rfl (fun hg => OpY.gtr) rfl ?_; refine TS.s OpY.pickOr rfl ?_; refine TS.nil ?_; refine TE.then ?_; refine TC.kp [1, 4, 33, 34, 35, 66] [b1_0, b4_6] ?_; refine TC.cond (fun hc => ?_) (fun hc => ?_)
        · replace H5 := cT H5 hc
          refine TC.seqS ?_; refine TS.s OpY.assign rfl ?_; refine TS.nil ?_; refine TE.then ?_; refine TC.kp [2] [] ?_; refine TC.ret ?_; refine TE.then_ret ?_; refine TE.inBlock_ret ?_; refine TE.then_ret ?_; refine TE.then_ret ?_; refine TE.inBlock_ret ?_; refine TE.cut_ret ?_
          have R7 := elS_r (he5 _ (Option.some.inj H5).symm) H
          refine TE.then_ret ?_
          obtain rfl := (Option.some.inj R7)
          exact TE.ret1 rfl Cv.le
        · replace H5 := cF H5 hc
          refine TC.skip ?_; refine TE.then ?_; refine TC.kp [1, 4, 33, 34, 35] [b1_0, b4_6] ?_; refine TC.seqS ?_; refine TS.s OpY.fieldAddr rfl ?_; refine TS.s (OpD.ldq (Pl.fld (off := 0) (α := Block) (β := (List (List UInt8))) Pl.one)) rfl ?_; refine TS.s OpD.len rfl ?_; refine TS.s OpY.move rfl ?_; refine TS.nil ?_; refine TE.then ?_; refine TC.kp [1, 33, 34, 35, 68, 69, 70] [b1_0] ?_
          obtain ⟨o_9, H9, H5⟩ := bnd H5
          refine TC.cutP (fun s : Unit => o_9 = .inl s) (fun (_ : Unit) (_ : Unit) => (Env.set (Env.set (Env.set (Env.set Env.nil 1 (Pt b1_0 0)) 33 (D (c0.Blocks : (List Block)))) 34 (D ((c0.Blocks.length : Int) : Int))) 35 (D (x_4 : Int)))) (fun (_ : Unit) (_ : Unit) => [⟨b1_0, True, (One (c0 : Chip))⟩]) ?_ ?_
          · skip
            refine TC.block ?_; refine TC.loopP H9 (fun (x_10 : Int) (_ : Unit) => (Env.set (Env.set (Env.set (Env.set (Env.set (Env.set (Env.set Env.nil 1 (Pt b1_0 0)) 33 (D (c0.Blocks : (List Block)))) 34 (D ((c0.Blocks.length : Int) : Int))) 35 (D (x_4 : Int))) 68 (D (x_6.Pages : (List (List UInt8))))) 69 (D ((x_6.Pages.length : Int) : Int))) 70 (D (x_10 : Int)))) (fun (x_10 : Int) (_ : Unit) => [⟨b1_0, True, (One (c0 : Chip))⟩]) () (Env.cv (Env.cv (Env.cv (Env.cv (Env.cv (Env.cv (Env.cv (Env.le_nil _)))))))) (Less.pk rfl (Less.nil _)) ?_
            rintro x_10 ⟨⟩ x_11 H11 he11
            replace H11 : chip_Right_l2 c0 x_6 x_10 = some x_11 := H11
            unfold chip_Right_l2 at H11
            refine TC.seqS ?_; refine TS.s OpY.lss rfl ?_; refine TS.nil ?_; refine TE.then ?_; refine TC.kp [1, 33, 34, 35, 68, 69, 70, 71] [b1_0] ?_; refine TC.seq ?_; refine TC.cond (fun hc => ?_) (fun hc => ?_)
            · replace H11 := cT H11 hc
              refine TC.skip ?_; refine TE.then ?_; refine TC.kp [1, 33, 34, 35, 68, 69, 70] [b1_0] ?_; refine TC.seq ?_; refine TC.block ?_; refine TC.seqS ?_
              obtain ⟨x_12, ex_12, H11⟩ := bnd H11
              refine TS.s (OpD.index ex_12) rfl ?_; refine TS.s OpY.load rfl ?_; refine TS.s OpY.assign rfl ?_; refine TS.nil ?_; refine TE.then ?_; refine TC.kp [1, 6, 33, 34, 35, 68, 69, 70] [b1_0] ?_; refine TC.seqS ?_; refine TS.s OpY.move rfl ?_; refine TS.s OpD.len rfl ?_; refine TS.s OpY.fieldAddr rfl ?_; refine TS.s (OpD.ldq (Pl.fld (off := 1) (α := Chip) (β := Int) Pl.one)) rfl ?_; refine TS.s OpY.neq rfl ?_; refine TS.nil ?_; refine TE.then ?_; refine TC.kp [1, 33, 34, 35, 68, 69, 70, 78] [b1_0] ?_; refine TC.cond (fun hc => ?_) (fun hc => ?_)
              · replace H11 := cT H11 hc
                refine TC.seqS ?_; refine TS.s OpY.assign rfl ?_; refine TS.nil ?_; refine TE.then ?_; refine TC.kp [2] [] ?_; refine TC.ret ?_; refine TE.inBlock_ret ?_; refine TE.then_ret ?_; refine TE.then_ret ?_; refine TE.inBlock_ret ?_; refine TE.cut_ret ?_
                have R12 := elS_r (he11 _ (Option.some.inj H11).symm) H5
                refine TE.inBlock_ret ?_; refine TE.then_ret ?_; refine TE.then_ret ?_; refine TE.inBlock_ret ?_; refine TE.cut_ret ?_
                have R13 := elS_r (he5 _ (Option.some.inj R12).symm) H
                refine TE.then_ret ?_
                obtain rfl := (Option.some.inj R13)
                exact TE.ret1 rfl Cv.le
              · replace H11 := cF H11 hc
                refine TC.skip ?_; refine TE.inBlock_normal ?_; refine TE.then ?_; refine TC.kp [1, 33, 34, 35, 68, 69, 70] [b1_0] ?_; refine TC.regionS ?_
                obtain ⟨x_15, ex_15, H11⟩ := bnd H11
                refine TS.s (OpD.add ex_15) rfl ?_; refine TS.s OpY.move rfl ?_; refine TS.nil ?_; refine TE.kp [1, 33, 34, 35, 68, 69, 70] [b1_0] ?_; exact TE.backP x_15 () (Option.some.inj H11).symm (Env.cv (Env.cv (Env.cv (Env.cv (Env.cv (Env.cv (Env.cv (Env.le_nil _)))))))) (Less.pk rfl (Less.nil _))
            · replace H11 := cF H11 hc
              refine TC.exit ?_; refine TE.then_exit ?_; refine TE.then_exit ?_; refine TE.inBlock_here ?_; exact TE.cutP () () (he11 _ (Option.some.inj H11).symm).symm (Env.cv (Env.cv (Env.cv (Env.cv (Env.le_nil _))))) (Less.pk rfl (Less.nil _))
          rintro ⟨⟩ ⟨⟩ hp
          replace H5 := elS_l hp H5
          refine TE.inBlock_normal ?_; refine TE.then ?_; refine TC.kp [1, 33, 34, 35] [b1_0] ?_; refine TC.regionS ?_
          obtain ⟨x_16, ex_16, H5⟩ := bnd H5
          refine TS.s (OpD.add ex_16) rfl ?_; refine TS.s OpY.move rfl ?_; refine TS.nil ?_; refine TE.kp [1, 33, 34, 35] [b1_0] ?_; exact TE.backP x_16 () (Option.some.inj H5).symm (Env.cv (Env.cv (Env.cv (Env.cv (Env.le_nil _))))) (Less.pk rfl (Less.nil _))
      · replace H5 := cF H5 hc
        refine TC.exit ?_; refine TE.then_exit ?_; refine TE.then_exit ?_; refine TE.inBlock_here ?_; exact TE.cutP () () (he5 _ (Option.some.inj H5).symm).symm (Env.le_nil _) (Less.nil _)
    rintro ⟨⟩ ⟨⟩ hp
    replace H := elS_l hp H
    refine TE.then ?_; refine TC.kp [] [] ?_; refine TC.seqS ?_; refine TS.s OpY.assign rfl ?_; refine TS.nil ?_; refine TE.then ?_; refine TC.kp [2] [] ?_; refine TC.ret ?_
    obtain rfl := (Option.some.inj H)
    exact TE.ret1 rfl Cv.le
def chip_has (c0 : Chip) (block0 : Int) : Option Bool :=
  (chip_Right c0).bind fun x_2 => some ((x_2 && (decide (block0 ≥ (0 : Int)))) && (decide (block0 < (c0.Blocks.length : Int))))
theorem chip_has_c {A : Nat → Prop} {c0 : Chip} {block0 : Int}  {r : Bool} (w : World) (v0 v1 : Value) (hA : ∀ k, w.heap.size ≤ k → A k)  (h0 : (D (c0 : Chip)).p A w v0) (h1 : (D (block0 : Int)).p A w v1) (H : chip_has c0 block0 = some r) :
    Calls Try.prog 66 #[v0, v1] w (Ret A w (D (r : Bool))) := by
  unfold chip_has at H
  refine enter2 hA Try.func66 rfl Try.ntmps66 rfl h0 h1 ?_; refine TC.seqS ?_; refine TS.box rfl fun b2_0 => ?_; refine TS.s OpY.assign rfl ?_; refine TS.nil ?_; refine TE.then ?_; refine TC.kp [1, 2] [b2_0] ?_; refine TC.seqS ?_; refine TS.s (OpD.ldq Pl.one) rfl ?_
  obtain ⟨x_2, ex_2, H⟩ := bnd H
  refine TS.s (OpY.call1 fun w v0 hA h0 => chip_Right_c w v0 hA (toD h0) ex_2) rfl ?_; refine TS.s OpY.move rfl ?_; refine TS.g 7 rfl (fun hg => OpY.move) rfl ?_; refine TS.g 7 rfl (fun hg => OpY.geq) rfl ?_; refine TS.s OpY.pickAnd rfl ?_; refine TS.s OpY.move rfl ?_; refine TS.g 11 rfl (fun hg => OpY.move) rfl ?_; refine TS.g 11 rfl (fun hg => OpY.fieldAddr) rfl ?_; refine TS.g 11 rfl (fun hg => (OpD.ldq (Pl.fld (off := 2) (α := Chip) (β := (List Block)) Pl.one))) rfl ?_; refine TS.g 11 rfl (fun hg => OpD.len) rfl ?_; refine TS.g 11 rfl (fun hg => OpY.lss) rfl ?_; refine TS.s OpY.pickAnd rfl ?_; refine TS.s OpY.assign rfl ?_; refine TS.nil ?_; refine TE.then ?_; refine TC.kp [4] [] ?_; refine TC.ret ?_
  obtain rfl := (Option.some.inj H)
  exact TE.ret1 rfl Cv.le
theorem chip_has_none {c : Chip} {n : Int} {x : Bool} (H : chip_has c n = some x) (h : idx c.Blocks n = none) : x = false := by
  unfold chip_has at H
  obtain ⟨a, _, H⟩ := bnd H
  rw [← Option.some.inj H]
  unfold idx at h
  split at h
  · have h2 := List.getElem?_eq_none_iff.1 h
    have h3 : decide (n < (c.Blocks.length : Int)) = false := by simp; omega
    rw [h3, Bool.and_false]
  · have h3 : decide (n ≥ (0 : Int)) = false := by simp; omega
    rw [h3, Bool.and_false, Bool.false_and]
theorem block_same {xs : List Block} {k : Int} {y : Block} (e : idx xs k = some y) : xs.set k.toNat (⟨y.Pages, y.Used, y.Worn, y.Bad⟩ : Block) = xs := by
  obtain ⟨-, h5⟩ := idx_some e
  obtain ⟨h6, h7⟩ := List.getElem?_eq_some_iff.1 h5
  show xs.set k.toNat y = xs
  rw [← h7, List.set_getElem_self]
theorem block_keep {xs : List Block} {c : Nat} {k : Int} {y : Block} (e : idx xs k = some y) : CtSet (Row xs c) ((0 + Int.toNat k * Dat.sz Block) + 0) (List (List UInt8)) instList y.Pages (Row xs c) := by
  have h := ((Pl.fld (off := 0) (α := Block) (i := Block_dat) (β := (List (List UInt8))) (j := instList) (Pl.rowz (i := Block_dat) (c := c) e))).st y.Pages
  rw [block_same e] at h
  exact h
def slices_Clone_byte (s0 : (List UInt8)) : Option (List UInt8) :=
  (room 1 ((0 + s0.length : Nat) : Int)).bind fun _ => some s0
theorem slices_Clone_byte_o {A : Nat → Prop} {s0 : (List UInt8)}  {r : (List UInt8)} (w : World) (v0 : Value) (hA : ∀ k, w.heap.size ≤ k → A k) (hO : OwnIn A []) (hap : Apart []) (hks : Pks (Pub A []) [] w) (h0 : (D (s0 : (List UInt8))).p (Pub A []) w v0) (H : slices_Clone_byte s0 = some r) :
    Calls Try.prog 69 #[v0] w (RetO A w [] (fun g : Nat × Prop × Nat => Sl g.1 g.2.1 0 (List.length r) g.2.2) fun g => [⟨g.1, g.2.1, Row (r : List UInt8) g.2.2⟩]) := by
  unfold slices_Clone_byte at H
  refine enterO1 hA hap hks Try.func69 rfl Try.ntmps69 rfl h0 ?_
  obtain ⟨u, eu, H⟩ := bnd H
  obtain rfl := Option.some.inj H
  refine TC.seqS ?_; refine TS.s OpY.assign rfl ?_; refine TS.nil ?_; refine TE.then ?_; refine TC.kp [0] [] ?_; refine TC.seq ?_; refine TC.seqS ?_; refine TS.s OpY.move rfl ?_; refine TS.s OpY.eql_slice rfl ?_; refine TS.nil ?_; refine TE.then ?_; refine TC.condE (fun hc => ?_) (fun hc => ?_)
  · obtain rfl := hc rfl
    refine TC.seqS ?_; refine TS.s OpY.assign rfl ?_; refine TS.nil ?_; refine TE.then ?_; refine TC.kp [2] [] ?_; refine TC.ret ?_; refine TE.then_ret ?_; exact TE.retO1 rfl ⟨0, False, 0⟩ NilS.sl0 (Less.nilRow (Less.nil _))
  · refine TC.skip ?_; refine TE.then ?_; refine TC.kp [0] [] ?_; refine TC.seqS ?_; refine TS.build [] rfl rfl (by decide) rfl fun b => ?_; refine TS.s OpY.move rfl ?_; refine TS.app (ys := s0) inferInstance eu rfl rfl rfl fun b1 p1 c1 => ?_; refine TS.s OpY.assign rfl ?_; refine TS.nil ?_; refine TE.then ?_; refine TC.kp [2] [b1] ?_; refine TC.ret ?_; exact TE.retO1 rfl ⟨b1, p1, c1⟩ (Sl_le (by simp)) (Less.pk rfl (Less.nil _))
theorem slices_Clone_byte_c {A : Nat → Prop} {s0 : (List UInt8)} {r : (List UInt8)} (w : World) (v0 : Value) (hA : ∀ k, w.heap.size ≤ k → A k) (h0 : (D (s0 : (List UInt8))).p A w v0) (H : slices_Clone_byte s0 = some r) :
    Calls Try.prog 69 #[v0] w (Ret A w (D r)) := (slices_Clone_byte_o w v0 hA ⟨fun k ⟨e, he, _⟩ => absurd he (by simp)⟩ List.Pairwise.nil (fun e he => absurd he (by simp)) (Ty.enter h0) H).mono fun e w' h => RetO.pub1 hA h
end Go.Proofs.Ytefmfhbkihplgaa.Tr
namespace Go.Proofs.Ytefmfhbkihplgaa.Tr
open Go Go.RowKit
set_option maxRecDepth 100000
set_option synthInstance.maxHeartbeats 400000
set_option synthInstance.maxSize 4096
def chip_strikes_l1 (c0 : Chip) (x_4 : Int) : Option (Int ⊕ (Unit ⊕ (Fault × Bool))) :=
  bif (decide (x_4 < (c0.Faults.length : Int))) then ((idx c0.Faults x_4).bind fun x_6 => bif (decide (x_6.Op = c0.Ops)) then (some (.inr (.inr (x_6, (x_6.Cut || x_6.Fail))))) else ((addI x_4 (1 : Int)).bind fun x_9 => some (.inl x_9))) else (some (.inr (.inl ())))
def chip_strikes (c0 : Chip) : Option (Fault × Bool) :=
  (loopO (fun s => chip_strikes_l1 c0 s) (0 : Int)).bind fun o_3 => elS o_3 (fun _ => (some ((⟨0, false, false, 0⟩ : Fault) : Fault)).bind fun k_10 => some (k_10, false)) (fun q => some q)
theorem chip_strikes_c {A : Nat → Prop} {c0 : Chip}  {r : (Fault × Bool)} (w : World) (v0 : Value) (hA : ∀ k, w.heap.size ≤ k → A k)  (h0 : (D (c0 : Chip)).p A w v0) (H : chip_strikes c0 = some r) :
    Calls Try.prog 67 #[v0] w (Ret A w (Tup [D (r.1 : Fault), D (r.2 : Bool)])) := by
  unfold chip_strikes at H
  refine enter1 hA Try.func67 rfl Try.ntmps67 rfl h0 ?_; refine TC.seqS ?_; refine TS.box rfl fun b1_0 => ?_; refine TS.alloc (α := Fault) rfl fun b2_1 => ?_; refine TS.s OpY.assign rfl ?_; refine TS.nil ?_; refine TE.then ?_; refine TC.kp [1, 2] [b1_0, b2_1] ?_; refine TC.seq ?_; refine TC.seqS ?_; refine TS.s OpY.fieldAddr rfl ?_; refine TS.s (OpD.ldq (Pl.fld (off := 5) (α := Chip) (β := (List Fault)) Pl.one)) rfl ?_; refine TS.s OpD.len rfl ?_; refine TS.s OpY.move rfl ?_; refine TS.nil ?_; refine TE.then ?_; refine TC.kp [1, 2, 7, 8, 9] [b1_0, b2_1] ?_
  obtain ⟨o_3, H3, H⟩ := bnd H
  refine TC.cutP (fun s : Unit => o_3 = .inl s) (fun (_ : Unit) (_ : Unit) => (Env.set Env.nil 2 (Pt b2_1 0))) (fun (_ : Unit) (_ : Unit) => [⟨b2_1, True, (One (Dat.z : Fault))⟩]) ?_ ?_
  · skip
    refine TC.block ?_; refine TC.loopP H3 (fun (x_4 : Int) (_ : Unit) => (Env.set (Env.set (Env.set (Env.set (Env.set Env.nil 1 (Pt b1_0 0)) 2 (Pt b2_1 0)) 7 (D (c0.Faults : (List Fault)))) 8 (D ((c0.Faults.length : Int) : Int))) 9 (D (x_4 : Int)))) (fun (x_4 : Int) (_ : Unit) => [⟨b1_0, True, (One (c0 : Chip))⟩, ⟨b2_1, True, (One (Dat.z : Fault))⟩]) () (Env.cv (Env.cv (Env.cv (Env.cv (Env.cv (Env.le_nil _)))))) (Less.pk rfl (Less.pk rfl (Less.nil _))) ?_
    rintro x_4 ⟨⟩ x_5 H5 he5
    replace H5 : chip_strikes_l1 c0 x_4 = some x_5 := H5
    unfold chip_strikes_l1 at H5
    refine TC.seqS ?_; refine TS.s OpY.lss rfl ?_; refine TS.nil ?_; refine TE.then ?_; refine TC.kp [1, 2, 7, 8, 9, 10] [b1_0, b2_1] ?_; refine TC.seq ?_; refine TC.cond (fun hc => ?_) (fun hc => ?_)
    · replace H5 := cT H5 hc
      refine TC.skip ?_; refine TE.then ?_; refine TC.kp [1, 2, 7, 8, 9] [b1_0, b2_1] ?_; refine TC.seq ?_; refine TC.block ?_; refine TC.seqS ?_
      obtain ⟨x_6, ex_6, H5⟩ := bnd H5
      refine TS.s (OpD.index ex_6) rfl ?_; refine TS.s OpY.load rfl ?_; refine TS.alloc (α := Fault) rfl fun b5_6 => ?_; refine TS.un (OpT.storeq (y := (x_6 : Fault)) Pl.one) ?_; refine TS.nil ?_; refine TE.then ?_; refine TC.kp [1, 2, 5, 7, 8, 9] [b1_0, b2_1, b5_6] ?_; refine TC.seqS ?_; refine TS.s OpY.fieldAddr rfl ?_; refine TS.s (OpD.ldq (Pl.fld (off := 0) (α := Fault) (β := Int) Pl.one)) rfl ?_; refine TS.s OpY.fieldAddr rfl ?_; refine TS.s (OpD.ldq (Pl.fld (off := 3) (α := Chip) (β := Int) Pl.one)) rfl ?_; refine TS.s OpY.eql rfl ?_; refine TS.nil ?_; refine TE.then ?_; refine TC.kp [1, 2, 5, 7, 8, 9, 17] [b1_0, b2_1, b5_6] ?_; refine TC.cond (fun hc => ?_) (fun hc => ?_)
      · replace H5 := cT H5 hc
        refine TC.seqD [7] [b2_1] mix (by kernel_rfl) (by kernel_rfl) ?_; refine TR.s (OpD.ldq Pl.one) rfl ?_; refine TR.s OpY.fieldAddr rfl ?_; refine TR.s (OpD.ldq (Pl.fld (off := 2) (α := Fault) (β := Bool) Pl.one)) rfl ?_; refine TR.s OpY.move rfl ?_; refine TR.g 21 rfl (fun hg => OpY.fieldAddr) rfl ?_; refine TR.g 21 rfl (fun hg => (OpD.ldq (Pl.fld (off := 1) (α := Fault) (β := Bool) Pl.one))) rfl ?_; refine TR.s OpY.pickOr rfl ?_; refine TR.tn (fun g => (OpT.storeq (y := (x_6 : Fault)) Pl.one)) rfl ?_; refine TR.s OpY.assign rfl ?_; refine TR.nil ?_
        rintro ⟨_, _⟩
        dsimp only [Fam.nextS, Fam.nextN, Fam.one, List.cons_append, List.nil_append]
        refine TC.kp [2, 3] [b2_1] ?_; refine TC.ret ?_; refine TE.inBlock_ret ?_; refine TE.then_ret ?_; refine TE.then_ret ?_; refine TE.inBlock_ret ?_; refine TE.cut_ret ?_
        have R7 := elS_r (he5 _ (Option.some.inj H5).symm) H
        refine TE.then_ret ?_
        obtain rfl := (Option.some.inj R7)
        exact TE.retN rfl rfl (.cons Cv.le (.cons Cv.le .nil))
      · replace H5 := cF H5 hc
        refine TC.skip ?_; refine TE.inBlock_normal ?_; refine TE.then ?_; refine TC.kp [1, 2, 7, 8, 9] [b1_0, b2_1] ?_; refine TC.regionS ?_
        obtain ⟨x_9, ex_9, H5⟩ := bnd H5
        refine TS.s (OpD.add ex_9) rfl ?_; refine TS.s OpY.move rfl ?_; refine TS.nil ?_; refine TE.kp [1, 2, 7, 8, 9] [b1_0, b2_1] ?_; exact TE.backP x_9 () (Option.some.inj H5).symm (Env.cv (Env.cv (Env.cv (Env.cv (Env.cv (Env.le_nil _)))))) (Less.pk rfl (Less.pk rfl (Less.nil _)))
    · replace H5 := cF H5 hc
      refine TC.exit ?_; refine TE.then_exit ?_; refine TE.then_exit ?_; refine TE.inBlock_here ?_; exact TE.cutP () () (he5 _ (Option.some.inj H5).symm).symm (Env.cv (Env.le_nil _)) (Less.pk rfl (Less.nil _))
  rintro ⟨⟩ ⟨⟩ hp
  replace H := elS_l hp H
  refine TE.then ?_; refine TC.kp [2] [b2_1] ?_; refine TC.seqS ?_; refine TS.s (OpY.buildAs (⟨0, false, false, 0⟩ : Fault) rfl ⟨_, Try.underlying106, by kernel_rfl⟩ rfl rfl) rfl ?_; refine TS.un (OpT.storeq (y := ((⟨0, false, false, 0⟩ : Fault) : Fault)) Pl.one) ?_; refine TS.s OpY.assign rfl ?_; refine TS.nil ?_; refine TE.then ?_; refine TC.kp [2, 3] [b2_1] ?_
  obtain ⟨k_10, ek_10, H⟩ := bnd H
  refine TC.nmB b2_1 (nm_one ek_10) ?_; refine TC.ret ?_
  obtain rfl := (Option.some.inj H)
  exact TE.retN rfl rfl (.cons Cv.le (.cons Cv.le .nil))
def chip_struck (f0 : Fault) : Option (Bool × Int) :=
  bif f0.Cut then (some (true, (7 : Int))) else (some (false, (9 : Int)))
theorem chip_struck_c {A : Nat → Prop} {f0 : Fault}  {r : (Bool × Int)} (w : World) (v0 : Value) (hA : ∀ k, w.heap.size ≤ k → A k)  (h0 : (D (f0 : Fault)).p A w v0) (H : chip_struck f0 = some r) :
    Calls Try.prog 68 #[v0] w (Ret A w (Tup [D (r.1 : Bool), D (r.2 : Int)])) := by
  unfold chip_struck at H
  refine enter1 hA Try.func68 rfl Try.ntmps68 rfl h0 ?_; refine TC.seqS ?_; refine TS.box rfl fun b1_0 => ?_; refine TS.s OpY.assign rfl ?_; refine TS.s OpY.assign rfl ?_; refine TS.nil ?_; refine TE.then ?_; refine TC.kp [1] [b1_0] ?_; refine TC.seq ?_; refine TC.seqS ?_; refine TS.s OpY.fieldAddr rfl ?_; refine TS.s (OpD.ldq (Pl.fld (off := 2) (α := Fault) (β := Bool) Pl.one)) rfl ?_; refine TS.nil ?_; refine TE.then ?_; refine TC.kp [5] [] ?_; refine TC.cond (fun hc => ?_) (fun hc => ?_)
  · replace H := cT H hc
    refine TC.seqS ?_; refine TS.s OpY.assign rfl ?_; refine TS.s OpY.assign rfl ?_; refine TS.nil ?_; refine TE.then ?_; refine TC.kp [2, 3] [] ?_; refine TC.ret ?_; refine TE.then_ret ?_
    obtain rfl := (Option.some.inj H)
    exact TE.retN rfl rfl (.cons Cv.le (.cons Cv.le .nil))
  · replace H := cF H hc
    refine TC.skip ?_; refine TE.then ?_; refine TC.kp [] [] ?_; refine TC.seqS ?_; refine TS.s OpY.assign rfl ?_; refine TS.s OpY.assign rfl ?_; refine TS.nil ?_; refine TE.then ?_; refine TC.kp [2, 3] [] ?_; refine TC.ret ?_
    obtain rfl := (Option.some.inj H)
    exact TE.retN rfl rfl (.cons Cv.le (.cons Cv.le .nil))
def chip_Program_l1 (c0 : Chip) (page0 : Int) (x_8 : Block) (r_9 : (Fault × Bool)) (x_21 : Int) (q_22 : (List (List UInt8))) : Option ((Int × (List (List UInt8))) ⊕ (List (List UInt8))) :=
  bif (decide (x_21 < c0.Size)) then ((lenI q_22.length x_8.Pages.length).bind fun u_24 => (idx q_22 page0).bind fun x_25 => (idx x_25 x_21).bind fun x_26 => (idx x_25 x_21).bind fun x_27 => (some ((q_22.set (Int.toNat page0) (x_25.set (Int.toNat x_21) (x_26 ||| (~~~r_9.1.Mask)))) : (List (List UInt8)))).bind fun q_28 => (addI x_21 (1 : Int)).bind fun x_29 => some (.inl (x_29, q_28))) else (some (.inr q_22))
def chip_Program (c0 : Chip) (block0 : Int) (page0 : Int) (p0 : (List UInt8)) : Option (Chip × Int) :=
  (chip_clone c0).bind fun x_3 => (some ((⟨x_3.Pages, x_3.Size, [], x_3.Ops, x_3.Off, x_3.Faults⟩ : Chip) : Chip)).bind fun d_6 => (chip_has c0 block0).bind fun x_7 => bif (((((!x_7) || (decide (page0 < (0 : Int)))) || (decide (page0 ≥ c0.Pages))) || (decide ((p0.length : Int) ≠ c0.Size))) || (decide (c0.Ops ≥ (1099511627776 : Int)))) then (some ((⟨d_6.Pages, d_6.Size, x_3.Blocks, d_6.Ops, d_6.Off, d_6.Faults⟩ : Chip), (1 : Int))) else (bif c0.Off then (some ((⟨d_6.Pages, d_6.Size, x_3.Blocks, d_6.Ops, d_6.Off, d_6.Faults⟩ : Chip), (7 : Int))) else ((idx x_3.Blocks block0).bind fun x_8 => bif (x_8.Bad || (decide (page0 ≠ x_8.Used))) then (some ((⟨d_6.Pages, d_6.Size, x_3.Blocks, d_6.Ops, d_6.Off, d_6.Faults⟩ : Chip), (9 : Int))) else ((chip_strikes c0).bind fun r_9 => (addI d_6.Ops (1 : Int)).bind fun x_11 => (some ((⟨d_6.Pages, d_6.Size, d_6.Blocks, x_11, d_6.Off, d_6.Faults⟩ : Chip) : Chip)).bind fun d_12 => (addI x_8.Used (1 : Int)).bind fun x_13 => (some ((x_3.Blocks.set (Int.toNat block0) (⟨x_8.Pages, x_13, x_8.Worn, x_8.Bad⟩ : Block)) : (List Block))).bind fun l_14 => (idx x_8.Pages page0).bind fun x_15 => (some ((x_8.Pages.set (Int.toNat page0) (over x_15 p0)) : (List (List UInt8)))).bind fun q_16 => bif (!r_9.2) then ((lenI q_16.length x_8.Pages.length).bind fun u_17 => (idx l_14 block0).bind fun x_18 => some ((⟨d_12.Pages, d_12.Size, (l_14.set (Int.toNat block0) (⟨q_16, x_18.Used, x_18.Worn, x_18.Bad⟩ : Block)), d_12.Ops, d_12.Off, d_12.Faults⟩ : Chip), (0 : Int))) else ((loopO (fun s => chip_Program_l1 c0 page0 x_8 r_9 s.1 s.2) ((0 : Int), q_16)).bind fun q_19 => (chip_struck r_9.1).bind fun r_30 => (some ((⟨d_12.Pages, d_12.Size, d_12.Blocks, d_12.Ops, r_30.1, d_12.Faults⟩ : Chip) : Chip)).bind fun d_31 => (lenI q_19.length x_8.Pages.length).bind fun u_32 => (idx l_14 block0).bind fun x_33 => some ((⟨d_31.Pages, d_31.Size, (l_14.set (Int.toNat block0) (⟨q_19, x_33.Used, x_33.Worn, x_33.Bad⟩ : Block)), d_31.Ops, d_31.Off, d_31.Faults⟩ : Chip), r_30.2)))))
theorem chip_Program_c {A : Nat → Prop} {c0 : Chip} {block0 : Int} {page0 : Int} {p0 : (List UInt8)}  {r : (Chip × Int)} (w : World) (v0 v1 v2 v3 : Value) (hA : ∀ k, w.heap.size ≤ k → A k)  (h0 : (D (c0 : Chip)).p A w v0) (h1 : (D (block0 : Int)).p A w v1) (h2 : (D (page0 : Int)).p A w v2) (h3 : (D (p0 : (List UInt8))).p A w v3) (H : chip_Program c0 block0 page0 p0 = some r) :
    Calls Try.prog 17 #[v0, v1, v2, v3] w (Ret A w (Tup [D (r.1 : Chip), D (r.2 : Int)])) := by
  unfold chip_Program at H
  refine enter4 hA Try.func17 rfl Try.ntmps17 rfl h0 h1 h2 h3 ?_
  rcases hgh : idx c0.Blocks block0 with _ | yg
  · skip
    refine TC.seqS ?_; refine TS.box rfl fun b4_0 => ?_; refine TS.alloc (α := Chip) rfl fun b8_1 => ?_; refine TS.s OpY.assign rfl ?_; refine TS.nil ?_; refine TE.then ?_; refine TC.kp [1, 2, 3, 4, 8] [b4_0, b8_1] ?_; refine TC.seqS ?_; refine TS.s (OpD.ldq Pl.one) rfl ?_
    obtain ⟨x_3, ex_3, H⟩ := bnd H
    refine TS.t (OpT.callO1 [] fun w v0 hA hO hap hks h0 => chip_clone_o w v0 hA hO hap hks (toD h0) ex_3) rfl fun ⟨b18_3, p18_3, c18_3⟩ => ?_; dsimp only [List.cons_append, List.nil_append]
    refine TS.alloc (α := Chip) rfl fun b10_4 => ?_; refine TS.un (OpT.storeC trivial rfl CtSc.h) ?_; refine TS.nil ?_; refine TE.then ?_; refine TC.kp [1, 2, 3, 4, 8, 10] [b4_0, b8_1, b10_4, b18_3] ?_
    obtain ⟨d_6, ed_6, H⟩ := bnd H
    refine TC.nmB b10_4 (nm_mix (nm_one ed_6)) ?_; refine TC.seq ?_; refine TC.seqS ?_; refine TS.s (OpD.ldq Pl.one) rfl ?_; refine TS.s OpY.move rfl ?_
    obtain ⟨x_7, ex_7, H⟩ := bnd H
    refine TS.s (OpY.call2 fun w v0 v1 hA h0 h1 => chip_has_c w v0 v1 hA (toD h0) (toD h1) ex_7) rfl ?_; refine TS.s OpY.notB rfl ?_; refine TS.s OpY.move rfl ?_; refine TS.g 23 rfl (fun hg => OpY.move) rfl ?_; refine TS.g 23 rfl (fun hg => OpY.lss) rfl ?_; refine TS.s OpY.pickOr rfl ?_; refine TS.s OpY.move rfl ?_; refine TS.g 27 rfl (fun hg => OpY.move) rfl ?_; refine TS.g 27 rfl (fun hg => OpY.fieldAddr) rfl ?_; refine TS.g 27 rfl (fun hg => (OpD.ldq (Pl.fld (off := 0) (α := Chip) (β := Int) Pl.one))) rfl ?_; refine TS.g 27 rfl (fun hg => OpY.geq) rfl ?_; refine TS.s OpY.pickOr rfl ?_; refine TS.s OpY.move rfl ?_; refine TS.g 33 rfl (fun hg => OpY.move) rfl ?_; refine TS.g 33 rfl (fun hg => OpD.len) rfl ?_; refine TS.g 33 rfl (fun hg => OpY.fieldAddr) rfl ?_; refine TS.g 33 rfl (fun hg => (OpD.ldq (Pl.fld (off := 1) (α := Chip) (β := Int) Pl.one))) rfl ?_; refine TS.g 33 rfl (fun hg => OpY.neq) rfl ?_; refine TS.s OpY.pickOr rfl ?_; refine TS.s OpY.move rfl ?_; refine TS.g 40 rfl (fun hg => OpY.fieldAddr) rfl ?_; refine TS.g 40 rfl (fun hg => (OpD.ldq (Pl.fld (off := 3) (α := Chip) (β := Int) Pl.one))) rfl ?_; refine TS.g 40 rfl (fun hg => OpY.geq) rfl ?_; refine TS.s OpY.pickOr rfl ?_; refine TS.nil ?_; refine TE.then ?_; refine TC.kp [1, 2, 3, 4, 8, 10, 44] [b4_0, b8_1, b10_4, b18_3] ?_; refine TC.cond (fun hc => ?_) (fun hc => ?_)
    · replace H := cT H hc
      refine TC.seqS ?_; refine TS.s (OpY.ldC trivial rfl rfl) rfl ?_; refine TS.un (OpT.storeC trivial rfl CtSc.h) ?_; refine TS.s OpY.assign rfl ?_; refine TS.nil ?_; refine TE.then ?_; refine TC.kp [8, 9] [b8_1, b18_3] ?_; refine TC.ret ?_; refine TE.then_ret ?_; refine TE.coll b8_1 b18_3 (o := 2) (((Pl.fld (off := 2) (α := Chip) (β := (List Block)) Pl.one)).st (x_3.Blocks : List Block)) (PubC.sv PlS.all rfl) ?_
      obtain rfl := (Option.some.inj H)
      exact TE.retN rfl rfl (.cons Cv.le (.cons Cv.le .nil))
    · exact absurd hc (by simp [chip_has_none ex_7 hgh])
  · skip
    refine TC.seqS ?_; refine TS.box rfl fun b4_0 => ?_; refine TS.alloc (α := Chip) rfl fun b8_1 => ?_; refine TS.s OpY.assign rfl ?_; refine TS.nil ?_; refine TE.then ?_; refine TC.kp [1, 2, 3, 4, 8] [b4_0, b8_1] ?_; refine TC.seqS ?_; refine TS.s (OpD.ldq Pl.one) rfl ?_
    obtain ⟨x_3, ex_3, H⟩ := bnd H
    have hgz : idx x_3.Blocks block0 = some yg := (congrArg (fun c : Chip => idx c.Blocks block0) (chip_clone_eq ex_3)).trans hgh
    refine TS.t (OpT.callO1 [] fun w v0 hA hO hap hks h0 => chip_clone_g w v0 hA hO hap hks (toD h0) ex_3 hgz) rfl fun ⟨b18_3, p18_3, c18_3, bo18_3, br18_3, po18_3, co18_3, cr18_3⟩ => ?_; dsimp only [List.cons_append, List.nil_append]
    refine TS.alloc (α := Chip) rfl fun b10_4 => ?_; refine TS.un (OpT.storeC trivial rfl CtSc.h) ?_; refine TS.nil ?_; refine TE.then ?_; refine TC.kp [1, 2, 3, 4, 8, 10] [b4_0, b8_1, b10_4, b18_3, bo18_3, br18_3] ?_
    obtain ⟨d_6, ed_6, H⟩ := bnd H
    refine TC.nmB b10_4 (nm_mix (nm_one ed_6)) ?_; refine TC.seq ?_; refine TC.seqS ?_; refine TS.s (OpD.ldq Pl.one) rfl ?_; refine TS.s OpY.move rfl ?_
    obtain ⟨x_7, ex_7, H⟩ := bnd H
    refine TS.s (OpY.call2 fun w v0 v1 hA h0 h1 => chip_has_c w v0 v1 hA (toD h0) (toD h1) ex_7) rfl ?_; refine TS.s OpY.notB rfl ?_; refine TS.s OpY.move rfl ?_; refine TS.g 23 rfl (fun hg => OpY.move) rfl ?_; refine TS.g 23 rfl (fun hg => OpY.lss) rfl ?_; refine TS.s OpY.pickOr rfl ?_; refine TS.s OpY.move rfl ?_; refine TS.g 27 rfl (fun hg => OpY.move) rfl ?_; refine TS.g 27 rfl (fun hg => OpY.fieldAddr) rfl ?_; refine TS.g 27 rfl (fun hg => (OpD.ldq (Pl.fld (off := 0) (α := Chip) (β := Int) Pl.one))) rfl ?_; refine TS.g 27 rfl (fun hg => OpY.geq) rfl ?_; refine TS.s OpY.pickOr rfl ?_; refine TS.s OpY.move rfl ?_; refine TS.g 33 rfl (fun hg => OpY.move) rfl ?_; refine TS.g 33 rfl (fun hg => OpD.len) rfl ?_; refine TS.g 33 rfl (fun hg => OpY.fieldAddr) rfl ?_; refine TS.g 33 rfl (fun hg => (OpD.ldq (Pl.fld (off := 1) (α := Chip) (β := Int) Pl.one))) rfl ?_; refine TS.g 33 rfl (fun hg => OpY.neq) rfl ?_; refine TS.s OpY.pickOr rfl ?_; refine TS.s OpY.move rfl ?_; refine TS.g 40 rfl (fun hg => OpY.fieldAddr) rfl ?_; refine TS.g 40 rfl (fun hg => (OpD.ldq (Pl.fld (off := 3) (α := Chip) (β := Int) Pl.one))) rfl ?_; refine TS.g 40 rfl (fun hg => OpY.geq) rfl ?_; refine TS.s OpY.pickOr rfl ?_; refine TS.nil ?_; refine TE.then ?_; refine TC.kp [1, 2, 3, 4, 8, 10, 44] [b4_0, b8_1, b10_4, b18_3, bo18_3, br18_3] ?_; refine TC.cond (fun hc => ?_) (fun hc => ?_)
    · replace H := cT H hc
      refine TC.seqS ?_; refine TS.s (OpY.ldC trivial rfl rfl) rfl ?_; refine TS.un (OpT.storeC trivial rfl CtSc.h) ?_; refine TS.s OpY.assign rfl ?_; refine TS.nil ?_; refine TE.then ?_; refine TC.kp [8, 9] [b8_1, b18_3, bo18_3, br18_3] ?_; refine TC.ret ?_; refine TE.then_ret ?_; refine TE.collS bo18_3 br18_3 rfl rfl ?_; refine TE.coll b18_3 bo18_3 (o := ((0 + Int.toNat block0 * Dat.sz Block) + 0)) (block_keep hgz) (PubC.sv PlS.all rfl) ?_; refine TE.coll b8_1 b18_3 (o := 2) (((Pl.fld (off := 2) (α := Chip) (β := (List Block)) Pl.one)).st (x_3.Blocks : List Block)) (PubC.sv PlS.all (by simp)) ?_
      obtain rfl := (Option.some.inj H)
      exact TE.retN rfl rfl (.cons Cv.le (.cons Cv.le .nil))
    · replace H := cF H hc
      refine TC.skip ?_; refine TE.then ?_; refine TC.kp [1, 2, 3, 4, 8, 10] [b4_0, b8_1, b10_4, b18_3, bo18_3, br18_3] ?_; refine TC.seq ?_; refine TC.seqS ?_; refine TS.s OpY.fieldAddr rfl ?_; refine TS.s (OpD.ldq (Pl.fld (off := 4) (α := Chip) (β := Bool) Pl.one)) rfl ?_; refine TS.nil ?_; refine TE.then ?_; refine TC.kp [1, 2, 3, 4, 8, 10, 47] [b4_0, b8_1, b10_4, b18_3, bo18_3, br18_3] ?_; refine TC.cond (fun hc => ?_) (fun hc => ?_)
      · replace H := cT H hc
        refine TC.seqS ?_; refine TS.s (OpY.ldC trivial rfl rfl) rfl ?_; refine TS.un (OpT.storeC trivial rfl CtSc.h) ?_; refine TS.s OpY.assign rfl ?_; refine TS.nil ?_; refine TE.then ?_; refine TC.kp [8, 9] [b8_1, b18_3, bo18_3, br18_3] ?_; refine TC.ret ?_; refine TE.then_ret ?_; refine TE.collS bo18_3 br18_3 rfl rfl ?_; refine TE.coll b18_3 bo18_3 (o := ((0 + Int.toNat block0 * Dat.sz Block) + 0)) (block_keep hgz) (PubC.sv PlS.all rfl) ?_; refine TE.coll b8_1 b18_3 (o := 2) (((Pl.fld (off := 2) (α := Chip) (β := (List Block)) Pl.one)).st (x_3.Blocks : List Block)) (PubC.sv PlS.all (by simp)) ?_
        obtain rfl := (Option.some.inj H)
        exact TE.retN rfl rfl (.cons Cv.le (.cons Cv.le .nil))
      · replace H := cF H hc
        refine TC.skip ?_; refine TE.then ?_; refine TC.kp [1, 2, 3, 4, 8, 10] [b4_0, b8_1, b10_4, b18_3, bo18_3, br18_3] ?_; refine TC.seqS ?_; refine TS.s OpY.fieldAddr rfl ?_; refine TS.s (OpD.ldHq CeH.here) rfl ?_; refine TS.s OpY.move rfl ?_
        obtain ⟨x_8, ex_8, H⟩ := bnd H
        obtain rfl : x_8 = yg := Option.some.inj (ex_8.symm.trans hgz)
        refine TS.s (OpD.indexq (idx_in ex_8 (by simp))) rfl ?_; refine TS.s OpY.assign rfl ?_; refine TS.nil ?_; refine TE.then ?_; refine TC.kp [2, 3, 4, 8, 10, 11] [b4_0, b8_1, b10_4, b18_3, bo18_3, br18_3] ?_; refine TC.seq ?_; refine TC.seqS ?_; refine TS.s OpY.move rfl ?_; refine TS.s OpY.nilCheck rfl ?_; refine TS.s OpY.fieldAddr rfl ?_; refine TS.s (OpD.ldq (Pl.mix (Pl.fld (off := 3) (α := Block) (β := Bool) (Pl.rowz ex_8)) (by first | decide | omega))) rfl ?_; refine TS.s OpY.move rfl ?_; refine TS.g 57 rfl (fun hg => OpY.move) rfl ?_; refine TS.g 57 rfl (fun hg => OpY.move) rfl ?_; refine TS.g 57 rfl (fun hg => OpY.nilCheck) rfl ?_; refine TS.g 57 rfl (fun hg => OpY.fieldAddr) rfl ?_; refine TS.g 57 rfl (fun hg => (OpD.ldq (Pl.mix (Pl.fld (off := 1) (α := Block) (β := Int) (Pl.rowz ex_8)) (by first | decide | omega)))) rfl ?_; refine TS.g 57 rfl (fun hg => OpY.neq) rfl ?_; refine TS.s OpY.pickOr rfl ?_; refine TS.nil ?_; refine TE.then ?_; refine TC.kp [2, 3, 4, 8, 10, 11, 64] [b4_0, b8_1, b10_4, b18_3, bo18_3, br18_3] ?_; refine TC.cond (fun hc => ?_) (fun hc => ?_)
        · replace H := cT H hc
          refine TC.seqS ?_; refine TS.s (OpY.ldC trivial rfl rfl) rfl ?_; refine TS.un (OpT.storeC trivial rfl CtSc.h) ?_; refine TS.s OpY.assign rfl ?_; refine TS.nil ?_; refine TE.then ?_; refine TC.kp [8, 9] [b8_1, b18_3, bo18_3, br18_3] ?_; refine TC.ret ?_; refine TE.then_ret ?_; refine TE.collS bo18_3 br18_3 rfl rfl ?_; refine TE.coll b18_3 bo18_3 (o := ((0 + Int.toNat block0 * Dat.sz Block) + 0)) (block_keep hgz) (PubC.sv PlS.all rfl) ?_; refine TE.coll b8_1 b18_3 (o := 2) (((Pl.fld (off := 2) (α := Chip) (β := (List Block)) Pl.one)).st (x_3.Blocks : List Block)) (PubC.sv PlS.all (by simp)) ?_
          obtain rfl := (Option.some.inj H)
          exact TE.retN rfl rfl (.cons Cv.le (.cons Cv.le .nil))
        · replace H := cF H hc
          refine TC.skip ?_; refine TE.then ?_; refine TC.kp [2, 3, 4, 8, 10, 11] [b4_0, b8_1, b10_4, b18_3, bo18_3, br18_3] ?_; refine TC.seqS ?_; refine TS.s (OpD.ldq Pl.one) rfl ?_
          obtain ⟨r_9, er_9, H⟩ := bnd H
          refine TS.s (OpY.call1 fun w v0 hA h0 => chip_strikes_c w v0 hA (toD h0) er_9) rfl ?_; refine TS.s OpY.move rfl ?_; refine TS.s (OpY.extract rfl) rfl ?_; refine TS.s (OpY.extract rfl) rfl ?_; refine TS.alloc (α := Fault) rfl fun b12_9 => ?_; refine TS.un (OpT.storeq (y := (r_9.1 : Fault)) Pl.one) ?_; refine TS.s OpY.assign rfl ?_; refine TS.nil ?_; refine TE.then ?_; refine TC.kp [2, 3, 4, 8, 10, 11, 12, 13] [b4_0, b8_1, b10_4, b18_3, bo18_3, br18_3, b12_9] ?_; refine TC.seqS ?_; refine TS.s OpY.fieldAddr rfl ?_; refine TS.s (OpD.ldq (Pl.mix (Pl.fld (off := 3) (α := Chip) (β := Int) Pl.one) (by first | decide | omega))) rfl ?_
          obtain ⟨x_11, ex_11, H⟩ := bnd H
          refine TS.s (OpD.add ex_11) rfl ?_; refine TS.s OpY.fieldAddr rfl ?_; refine TS.un (OpT.storeq (y := (x_11 : Int)) (Pl.mix (Pl.fld (off := 3) (α := Chip) (β := Int) Pl.one) (by first | decide | omega))) ?_; refine TS.nil ?_; refine TE.then ?_; refine TC.kp [2, 3, 4, 8, 10, 11, 12, 13] [b4_0, b8_1, b10_4, b18_3, bo18_3, br18_3, b12_9] ?_
          obtain ⟨d_12, ed_12, H⟩ := bnd H
          refine TC.nmB b10_4 (nm_mix (nm_one ed_12)) ?_; refine TC.seqS ?_; refine TS.s OpY.move rfl ?_; refine TS.s OpY.nilCheck rfl ?_; refine TS.s OpY.fieldAddr rfl ?_; refine TS.s (OpD.ldq (Pl.mix (Pl.fld (off := 1) (α := Block) (β := Int) (Pl.rowz ex_8)) (by first | decide | omega))) rfl ?_
          obtain ⟨x_13, ex_13, H⟩ := bnd H
          refine TS.s (OpD.add ex_13) rfl ?_; refine TS.s OpY.nilCheck rfl ?_; refine TS.s OpY.fieldAddr rfl ?_; refine TS.un (OpT.storeq (y := (x_13 : Int)) (Pl.mix (Pl.fld (off := 1) (α := Block) (β := Int) (Pl.rowz ex_8)) (by first | decide | omega))) ?_; refine TS.nil ?_; refine TE.then ?_; refine TC.kp [2, 3, 4, 8, 10, 11, 12, 13] [b4_0, b8_1, b10_4, b18_3, bo18_3, br18_3, b12_9] ?_
          obtain ⟨l_14, el_14, H⟩ := bnd H
          refine TC.nmB b18_3 (nm_mix (nm_row el_14)) ?_; refine TC.nmB b10_4 (mix_n (nm_len el_14 (by simp))) ?_; refine TC.seqS ?_; refine TS.s OpY.move rfl ?_; refine TS.s OpY.nilCheck rfl ?_; refine TS.s OpY.fieldAddr rfl ?_; refine TS.s (OpD.ldHq CeH.here) rfl ?_; refine TS.s OpY.move rfl ?_
          obtain ⟨x_15, ex_15, H⟩ := bnd H
          refine TS.s (OpD.indexq (idx_in ex_15 rfl)) rfl ?_; refine TS.s (OpD.ldHq (RowS.atP ex_15 (by show 0 + _ * 1 = _; omega))) rfl ?_; refine TS.s OpY.move rfl ?_; refine TS.u (OpT.copyBy (ys := p0) inferInstance (PlS.page ex_15) rfl (fun _ h => rowF_nil ex_15 h)) rfl ?_; refine TS.nil ?_; refine TE.then ?_; refine TC.kp [2, 4, 8, 10, 11, 12, 13] [b4_0, b8_1, b10_4, b18_3, bo18_3, br18_3, b12_9] ?_; refine TC.nmB bo18_3 (rowS_set (ys := (over x_15 p0)) ex_15 over_len) ?_
          obtain ⟨q_16, eq_16, H⟩ := bnd H
          refine TC.nmB br18_3 (rowF_nm eq_16) ?_; refine TC.nmB bo18_3 (rowS_nm eq_16) ?_; refine TC.seq ?_; refine TC.seqS ?_; refine TS.s OpY.move rfl ?_; refine TS.s OpY.notB rfl ?_; refine TS.nil ?_; refine TE.then ?_; refine TC.kp [2, 4, 8, 10, 11, 12, 92] [b4_0, b8_1, b10_4, b18_3, bo18_3, br18_3, b12_9] ?_; refine TC.cond (fun hc => ?_) (fun hc => ?_)
          · replace H := cT H hc
            refine TC.seqS ?_; refine TS.s (OpY.ldC trivial rfl rfl) rfl ?_; refine TS.un (OpT.storeC trivial rfl CtSc.h) ?_; refine TS.s OpY.assign rfl ?_; refine TS.nil ?_; refine TE.then ?_; refine TC.kp [8, 9] [b8_1, b18_3, bo18_3, br18_3] ?_; refine TC.ret ?_; refine TE.then_ret ?_
            obtain ⟨u_17, eu_17, H⟩ := bnd H
            refine TE.collS bo18_3 br18_3 rfl (lenI_eq eu_17) ?_
            obtain ⟨x_18, ex_18, H⟩ := bnd H
            refine TE.coll b18_3 bo18_3 (o := ((0 + Int.toNat block0 * Dat.sz Block) + 0)) (((Pl.fld (off := 0) (α := Block) (β := (List (List UInt8))) (Pl.rowz ex_18))).st (q_16 : List (List UInt8))) (PubC.sv PlS.all (lenI_eq eu_17)) ?_; refine TE.nmB b8_1 (mix_n (m := l_14.length) (n := (l_14.set (Int.toNat block0) (⟨q_16, x_18.Used, x_18.Worn, x_18.Bad⟩ : Block)).length) (by simp)) ?_; refine TE.coll b8_1 b18_3 (o := 2) (((Pl.fld (off := 2) (α := Chip) (β := (List Block)) Pl.one)).st ((l_14.set (Int.toNat block0) (⟨q_16, x_18.Used, x_18.Worn, x_18.Bad⟩ : Block)) : List Block)) (PubC.sv PlS.all (by simp)) ?_
            obtain rfl := (Option.some.inj H)
            exact TE.retN rfl rfl (.cons Cv.le (.cons Cv.le .nil))
          · replace H := cF H hc
            refine TC.skip ?_; refine TE.then ?_; refine TC.kp [2, 4, 8, 10, 11, 12] [b4_0, b8_1, b10_4, b18_3, bo18_3, br18_3, b12_9] ?_; refine TC.seq ?_; refine TC.seqS ?_; refine TS.s OpY.fieldAddr rfl ?_; refine TS.s (OpD.ldq (Pl.fld (off := 1) (α := Chip) (β := Int) Pl.one)) rfl ?_; refine TS.s OpY.move rfl ?_; refine TS.nil ?_; refine TE.then ?_; refine TC.kp [2, 8, 10, 11, 12, 95, 96] [b8_1, b10_4, b18_3, bo18_3, br18_3, b12_9] ?_
            obtain ⟨o_20, H20, H⟩ := bnd H
            refine TC.cutP (fun s : (List (List UInt8)) => o_20 = s) (fun (q_19 : (List (List UInt8))) (_ : Unit) => (Env.set (Env.set (Env.set Env.nil 8 (Pt b8_1 0)) 10 (Pt b10_4 0)) 12 (Pt b12_9 0))) (fun (q_19 : (List (List UInt8))) (_ : Unit) => [⟨b18_3, p18_3, (Ct.mix (Row (l_14 : List Block) c18_3) ((0 + Int.toNat block0 * Dat.sz Block) + 0) (Sl bo18_3 po18_3 0 x_8.Pages.length co18_3))⟩, ⟨bo18_3, po18_3, RowS br18_3 po18_3 1 (List.map List.length q_19) x_8.Pages.length⟩, ⟨br18_3, po18_3, (Row (List.flatten q_19 : List UInt8) cr18_3)⟩, ⟨b8_1, True, (One (Dat.z : Chip))⟩, ⟨b10_4, True, (Ct.mix (One (d_12 : Chip)) 2 (Sl b18_3 p18_3 0 l_14.length c18_3))⟩, ⟨b12_9, True, (One (r_9.1 : Fault))⟩]) ?_ ?_
            · skip
              refine TC.block ?_; refine TC.loopP H20 (fun ⟨x_21, q_22⟩ (_ : Unit) => (Env.set (Env.set (Env.set (Env.set (Env.set (Env.set (Env.set Env.nil 2 (D (page0 : Int))) 8 (Pt b8_1 0)) 10 (Pt b10_4 0)) 11 (Pq b18_3 (0 + Int.toNat block0 * Dat.sz Block) p18_3)) 12 (Pt b12_9 0)) 95 (D (c0.Size : Int))) 96 (D (x_21 : Int)))) (fun ⟨x_21, q_22⟩ (_ : Unit) => [⟨b18_3, p18_3, (Ct.mix (Row (l_14 : List Block) c18_3) ((0 + Int.toNat block0 * Dat.sz Block) + 0) (Sl bo18_3 po18_3 0 x_8.Pages.length co18_3))⟩, ⟨bo18_3, po18_3, RowS br18_3 po18_3 1 (List.map List.length q_22) x_8.Pages.length⟩, ⟨br18_3, po18_3, (Row (List.flatten q_22 : List UInt8) cr18_3)⟩, ⟨b8_1, True, (One (Dat.z : Chip))⟩, ⟨b10_4, True, (Ct.mix (One (d_12 : Chip)) 2 (Sl b18_3 p18_3 0 l_14.length c18_3))⟩, ⟨b12_9, True, (One (r_9.1 : Fault))⟩]) () (Env.cv (Env.cv (Env.cv (Env.cv (Env.cv (Env.cv (Env.cv (Env.le_nil _)))))))) (Less.pk rfl (Less.pk rfl (Less.pk rfl (Less.pk rfl (Less.pk rfl (Less.pk rfl (Less.nil _))))))) ?_
              rintro ⟨x_21, q_22⟩ ⟨⟩ x_23 H23 he23
              replace H23 : chip_Program_l1 c0 page0 x_8 r_9 x_21 q_22 = some x_23 := H23
              unfold chip_Program_l1 at H23
              refine TC.seqS ?_; refine TS.s OpY.lss rfl ?_; refine TS.nil ?_; refine TE.then ?_; refine TC.kp [2, 8, 10, 11, 12, 95, 96, 97] [b8_1, b10_4, b18_3, bo18_3, br18_3, b12_9] ?_; refine TC.seq ?_; refine TC.cond (fun hc => ?_) (fun hc => ?_)
              · replace H23 := cT H23 hc
                refine TC.skip ?_; refine TE.then ?_; refine TC.kp [2, 8, 10, 11, 12, 95, 96] [b8_1, b10_4, b18_3, bo18_3, br18_3, b12_9] ?_; refine TC.seq ?_; refine TC.block ?_; refine TC.seqS ?_; refine TS.s OpY.move rfl ?_; refine TS.s OpY.assign rfl ?_; refine TS.nil ?_; refine TE.then ?_; refine TC.kp [2, 8, 10, 11, 12, 14, 95, 96] [b8_1, b10_4, b18_3, bo18_3, br18_3, b12_9] ?_; refine TC.regD [6, 8, 9, 13, 14, 15] [bo18_3, br18_3] mix (by kernel_rfl) (by kernel_rfl) ?_; refine TR.s OpY.move rfl ?_; refine TR.s OpY.nilCheck rfl ?_; refine TR.s OpY.fieldAddr rfl ?_; refine TR.s (OpD.ldHq CeH.here) rfl ?_; refine TR.s OpY.move rfl ?_
                obtain ⟨u_24, eu_24, H23⟩ := bnd H23
                obtain ⟨x_25, ex_25, H23⟩ := bnd H23
                refine TR.s (OpD.indexq (idx_in ex_25 (lenI_eq eu_24))) rfl ?_; refine TR.t (fun g => OpT.G rfl (OpD.ldHq (RowS.atP ex_25 (by show 0 + _ * 1 = _; omega)))) rfl ?_; refine TR.s OpY.move rfl ?_
                obtain ⟨x_26, ex_26, H23⟩ := bnd H23
                refine TR.t (fun g => OpT.G rfl (OpD.indexq (idx_in ex_26 rfl))) rfl ?_; refine TR.t (fun g => OpT.G rfl (OpD.ldq (Pl.page ex_25 ex_26))) rfl ?_; refine TR.s OpY.fieldAddr rfl ?_; refine TR.s (OpD.ldq (Pl.fld (off := 3) (α := Fault) (β := UInt8) Pl.one)) rfl ?_; refine TR.s OpY.not8 rfl ?_; refine TR.t (fun g => OpT.G rfl OpY.or8) rfl ?_
                obtain ⟨x_27, ex_27, H23⟩ := bnd H23
                refine TR.t (fun g => OpT.G rfl (OpD.indexq (idx_in ex_27 rfl))) rfl ?_; refine TR.tn (fun g => (OpT.storeq (y := ((x_26 ||| (~~~r_9.1.Mask)) : UInt8)) (Pl.page ex_25 ex_27))) rfl ?_; refine TR.nil ?_
                rintro ⟨⟨⟨⟨⟨⟨_, _⟩, _⟩, _⟩, _⟩, _⟩, _⟩
                dsimp only [Fam.nextS, Fam.nextN, Fam.one, List.cons_append, List.nil_append]
                refine TE.kp [2, 8, 10, 11, 12, 95, 96] [b8_1, b10_4, b18_3, bo18_3, br18_3, b12_9] ?_; refine TE.nmB bo18_3 (rowS_set (ys := (x_25.set (Int.toNat x_21) (x_26 ||| (~~~r_9.1.Mask)))) ex_25 (by simp)) ?_
                obtain ⟨q_28, eq_28, H23⟩ := bnd H23
                refine TE.nmB br18_3 (rowF_nm eq_28) ?_; refine TE.nmB bo18_3 (rowS_nm eq_28) ?_; refine TE.inBlock_normal ?_; refine TE.then ?_; refine TC.kp [2, 8, 10, 11, 12, 95, 96] [b8_1, b10_4, b18_3, bo18_3, br18_3, b12_9] ?_; refine TC.regionS ?_
                obtain ⟨x_29, ex_29, H23⟩ := bnd H23
                refine TS.s (OpD.add ex_29) rfl ?_; refine TS.s OpY.move rfl ?_; refine TS.nil ?_; refine TE.kp [2, 8, 10, 11, 12, 95, 96] [b8_1, b10_4, b18_3, bo18_3, br18_3, b12_9] ?_; exact TE.backP ⟨x_29, q_28⟩ () (Option.some.inj H23).symm (Env.cv (Env.cv (Env.cv (Env.cv (Env.cv (Env.cv (Env.cv (Env.le_nil _)))))))) (Less.pk rfl (Less.pk rfl (Less.pk rfl (Less.pk rfl (Less.pk rfl (Less.pk rfl (Less.nil _)))))))
              · replace H23 := cF H23 hc
                refine TC.exit ?_; refine TE.then_exit ?_; refine TE.then_exit ?_; refine TE.inBlock_here ?_; exact TE.cutP q_22 () (he23 _ (Option.some.inj H23).symm).symm (Env.cv (Env.cv (Env.cv (Env.le_nil _)))) (Less.pk rfl (Less.pk rfl (Less.pk rfl (Less.pk rfl (Less.pk rfl (Less.pk rfl (Less.nil _)))))))
            rintro q_19 ⟨⟩ hp
            replace hp := hp.symm
            subst hp
            refine TE.then ?_; refine TC.kp [8, 10, 12] [b8_1, b10_4, b18_3, bo18_3, br18_3, b12_9] ?_; refine TC.seqS ?_; refine TS.s (OpD.ldq Pl.one) rfl ?_
            obtain ⟨r_30, er_30, H⟩ := bnd H
            refine TS.s (OpY.call1 fun w v0 hA h0 => chip_struck_c w v0 hA (toD h0) er_30) rfl ?_; refine TS.s OpY.move rfl ?_; refine TS.s (OpY.extract rfl) rfl ?_; refine TS.s (OpY.extract rfl) rfl ?_; refine TS.s OpY.assign rfl ?_; refine TS.s OpY.assign rfl ?_; refine TS.nil ?_; refine TE.then ?_; refine TC.kp [8, 10, 15, 16] [b8_1, b10_4, b18_3, bo18_3, br18_3] ?_; refine TC.seqS ?_; refine TS.s OpY.move rfl ?_; refine TS.s OpY.fieldAddr rfl ?_; refine TS.un (OpT.storeq (y := (r_30.1 : Bool)) (Pl.mix (Pl.fld (off := 4) (α := Chip) (β := Bool) Pl.one) (by first | decide | omega))) ?_; refine TS.nil ?_; refine TE.then ?_; refine TC.kp [8, 10, 16] [b8_1, b10_4, b18_3, bo18_3, br18_3] ?_
            obtain ⟨d_31, ed_31, H⟩ := bnd H
            refine TC.nmB b10_4 (nm_mix (nm_one ed_31)) ?_; refine TC.seqS ?_; refine TS.s (OpY.ldC trivial rfl rfl) rfl ?_; refine TS.s OpY.move rfl ?_; refine TS.un (OpT.storeC trivial rfl CtSc.h) ?_; refine TS.s OpY.assign rfl ?_; refine TS.nil ?_; refine TE.then ?_; refine TC.kp [8, 9] [b8_1, b18_3, bo18_3, br18_3] ?_; refine TC.ret ?_
            obtain ⟨u_32, eu_32, H⟩ := bnd H
            refine TE.collS bo18_3 br18_3 rfl (lenI_eq eu_32) ?_
            obtain ⟨x_33, ex_33, H⟩ := bnd H
            refine TE.coll b18_3 bo18_3 (o := ((0 + Int.toNat block0 * Dat.sz Block) + 0)) (((Pl.fld (off := 0) (α := Block) (β := (List (List UInt8))) (Pl.rowz ex_33))).st (q_19 : List (List UInt8))) (PubC.sv PlS.all (lenI_eq eu_32)) ?_; refine TE.nmB b8_1 (mix_n (m := l_14.length) (n := (l_14.set (Int.toNat block0) (⟨q_19, x_33.Used, x_33.Worn, x_33.Bad⟩ : Block)).length) (by simp)) ?_; refine TE.coll b8_1 b18_3 (o := 2) (((Pl.fld (off := 2) (α := Chip) (β := (List Block)) Pl.one)).st ((l_14.set (Int.toNat block0) (⟨q_19, x_33.Used, x_33.Worn, x_33.Bad⟩ : Block)) : List Block)) (PubC.sv PlS.all (by simp)) ?_
            obtain rfl := (Option.some.inj H)
            exact TE.retN rfl rfl (.cons Cv.le (.cons Cv.le .nil))
def bywayref06_Short_l2 (c0 : Chip) (i_3 : Int) (k_8 : Int) : Option (Int ⊕ (Unit ⊕ Bool)) :=
  (idx c0.Blocks i_3).bind fun x_10 => bif (decide (k_8 < (x_10.Pages.length : Int))) then ((idx c0.Blocks i_3).bind fun x_11 => (idx x_11.Pages k_8).bind fun x_12 => bif (decide ((x_12.length : Int) > (300 : Int))) then (some (.inr (.inr false))) else ((addI k_8 (1 : Int)).bind fun x_15 => some (.inl x_15))) else (some (.inr (.inl ())))
def bywayref06_Short_l1 (c0 : Chip) (i_3 : Int) : Option (Int ⊕ (Unit ⊕ Bool)) :=
  bif (decide (i_3 < (c0.Blocks.length : Int))) then ((idx c0.Blocks i_3).bind fun x_5 => bif (decide ((x_5.Pages.length : Int) > (20 : Int))) then (some (.inr (.inr false))) else ((loopO (fun s => bywayref06_Short_l2 c0 i_3 s) (0 : Int)).bind fun o_7 => elS o_7 (fun _ => (addI i_3 (1 : Int)).bind fun x_16 => some (.inl x_16)) (fun q => some (.inr (.inr q))))) else (some (.inr (.inl ())))
def bywayref06_Short (c0 : Chip) : Option Bool :=
  bif ((decide ((c0.Blocks.length : Int) > (40 : Int))) || (decide ((c0.Faults.length : Int) > (80 : Int)))) then (some false) else ((loopO (fun s => bywayref06_Short_l1 c0 s) (0 : Int)).bind fun o_2 => elS o_2 (fun _ => some true) (fun q => some q))
theorem bywayref06_Short_c {A : Nat → Prop} {c0 : Chip}  {r : Bool} (w : World) (v0 : Value) (hA : ∀ k, w.heap.size ≤ k → A k)  (h0 : (D (c0 : Chip)).p A w v0) (H : bywayref06_Short c0 = some r) :
    Calls Try.prog 22 #[v0] w (Ret A w (D (r : Bool))) := by
  unfold bywayref06_Short at H
  refine enter1 hA Try.func22 rfl Try.ntmps22 rfl h0 ?_; refine TC.seqS ?_; refine TS.box rfl fun b1_0 => ?_; refine TS.s OpY.assign rfl ?_; refine TS.nil ?_; refine TE.then ?_; refine TC.kp [1] [b1_0] ?_; refine TC.seq ?_; refine TC.seqS ?_; refine TS.s OpY.fieldAddr rfl ?_; refine TS.s (OpD.ldq (Pl.fld (off := 2) (α := Chip) (β := (List Block)) Pl.one)) rfl ?_; refine TS.s OpD.len rfl ?_; refine TS.s OpY.gtr rfl ?_; refine TS.s OpY.move rfl ?_; refine TS.g 9 rfl (fun hg => OpY.fieldAddr) rfl ?_; refine TS.g 9 rfl (fun hg => (OpD.ldq (Pl.fld (off := 5) (α := Chip) (β := (List Fault)) Pl.one))) rfl ?_; refine TS.g 9 rfl (fun hg => OpD.len) rfl ?_; refine TS.g 9 rfl (fun hg => OpY.gtr) rfl ?_; refine TS.s OpY.pickOr rfl ?_; refine TS.nil ?_; refine TE.then ?_; refine TC.kp [1, 14] [b1_0] ?_; refine TC.cond (fun hc => ?_) (fun hc => ?_)
  · replace H := cT H hc
    refine TC.seqS ?_; refine TS.s OpY.assign rfl ?_; refine TS.nil ?_; refine TE.then ?_; refine TC.kp [2] [] ?_; refine TC.ret ?_; refine TE.then_ret ?_
    obtain rfl := (Option.some.inj H)
    exact TE.ret1 rfl Cv.le
  · replace H := cF H hc
    refine TC.skip ?_; refine TE.then ?_; refine TC.kp [1] [b1_0] ?_; refine TC.seq ?_; refine TC.seqS ?_; refine TS.s OpY.assign rfl ?_; refine TS.nil ?_; refine TE.then ?_; refine TC.kp [1, 3] [b1_0] ?_
    obtain ⟨o_2, H2, H⟩ := bnd H
    refine TC.cutP (fun s : Unit => o_2 = .inl s) (fun (_ : Unit) (_ : Unit) => Env.nil) (fun (_ : Unit) (_ : Unit) => []) ?_ ?_
    · skip
      refine TC.block ?_; refine TC.loopP H2 (fun (i_3 : Int) (_ : Unit) => (Env.set (Env.set Env.nil 1 (Pt b1_0 0)) 3 (D (i_3 : Int)))) (fun (i_3 : Int) (_ : Unit) => [⟨b1_0, True, (One (c0 : Chip))⟩]) () (Env.cv (Env.cv (Env.le_nil _))) (Less.pk rfl (Less.nil _)) ?_
      rintro i_3 ⟨⟩ x_4 H4 he4
      replace H4 : bywayref06_Short_l1 c0 i_3 = some x_4 := H4
      unfold bywayref06_Short_l1 at H4
      refine TC.seq ?_; refine TC.seqS ?_; refine TS.s OpY.move rfl ?_; refine TS.s OpY.fieldAddr rfl ?_; refine TS.s (OpD.ldq (Pl.fld (off := 2) (α := Chip) (β := (List Block)) Pl.one)) rfl ?_; refine TS.s OpD.len rfl ?_; refine TS.s OpY.lss rfl ?_; refine TS.nil ?_; refine TE.then ?_; refine TC.kp [1, 3, 19] [b1_0] ?_; refine TC.cond (fun hc => ?_) (fun hc => ?_)
      · replace H4 := cT H4 hc
        refine TC.skip ?_; refine TE.then ?_; refine TC.kp [1, 3] [b1_0] ?_; refine TC.seq ?_; refine TC.block ?_; refine TC.seq ?_; refine TC.seqS ?_; refine TS.s OpY.fieldAddr rfl ?_; refine TS.s (OpD.ldq (Pl.fld (off := 2) (α := Chip) (β := (List Block)) Pl.one)) rfl ?_; refine TS.s OpY.move rfl ?_
        obtain ⟨x_5, ex_5, H4⟩ := bnd H4
        refine TS.s (OpD.index ex_5) rfl ?_; refine TS.s OpY.fieldAddr rfl ?_; refine TS.s OpY.load rfl ?_; refine TS.s OpD.len rfl ?_; refine TS.s OpY.gtr rfl ?_; refine TS.nil ?_; refine TE.then ?_; refine TC.kp [1, 3, 29] [b1_0] ?_; refine TC.cond (fun hc => ?_) (fun hc => ?_)
        · replace H4 := cT H4 hc
          refine TC.seqS ?_; refine TS.s OpY.assign rfl ?_; refine TS.nil ?_; refine TE.then ?_; refine TC.kp [2] [] ?_; refine TC.ret ?_; refine TE.then_ret ?_; refine TE.inBlock_ret ?_; refine TE.then_ret ?_; refine TE.then_ret ?_; refine TE.inBlock_ret ?_; refine TE.cut_ret ?_
          have R5 := elS_r (he4 _ (Option.some.inj H4).symm) H
          refine TE.then_ret ?_
          obtain rfl := (Option.some.inj R5)
          exact TE.ret1 rfl Cv.le
        · replace H4 := cF H4 hc
          refine TC.skip ?_; refine TE.then ?_; refine TC.kp [1, 3] [b1_0] ?_; refine TC.seqS ?_; refine TS.s OpY.assign rfl ?_; refine TS.nil ?_; refine TE.then ?_; refine TC.kp [1, 3, 4] [b1_0] ?_
          obtain ⟨o_7, H7, H4⟩ := bnd H4
          refine TC.cutP (fun s : Unit => o_7 = .inl s) (fun (_ : Unit) (_ : Unit) => (Env.set (Env.set Env.nil 1 (Pt b1_0 0)) 3 (D (i_3 : Int)))) (fun (_ : Unit) (_ : Unit) => [⟨b1_0, True, (One (c0 : Chip))⟩]) ?_ ?_
          · skip
            refine TC.block ?_; refine TC.loopP H7 (fun (k_8 : Int) (_ : Unit) => (Env.set (Env.set (Env.set Env.nil 1 (Pt b1_0 0)) 3 (D (i_3 : Int))) 4 (D (k_8 : Int)))) (fun (k_8 : Int) (_ : Unit) => [⟨b1_0, True, (One (c0 : Chip))⟩]) () (Env.cv (Env.cv (Env.cv (Env.le_nil _)))) (Less.pk rfl (Less.nil _)) ?_
            rintro k_8 ⟨⟩ x_9 H9 he9
            replace H9 : bywayref06_Short_l2 c0 i_3 k_8 = some x_9 := H9
            unfold bywayref06_Short_l2 at H9
            refine TC.seq ?_; refine TC.seqS ?_; refine TS.s OpY.move rfl ?_; refine TS.s OpY.fieldAddr rfl ?_; refine TS.s (OpD.ldq (Pl.fld (off := 2) (α := Chip) (β := (List Block)) Pl.one)) rfl ?_; refine TS.s OpY.move rfl ?_
            obtain ⟨x_10, ex_10, H9⟩ := bnd H9
            refine TS.s (OpD.index ex_10) rfl ?_; refine TS.s OpY.fieldAddr rfl ?_; refine TS.s OpY.load rfl ?_; refine TS.s OpD.len rfl ?_; refine TS.s OpY.lss rfl ?_; refine TS.nil ?_; refine TE.then ?_; refine TC.kp [1, 3, 4, 38] [b1_0] ?_; refine TC.cond (fun hc => ?_) (fun hc => ?_)
            · replace H9 := cT H9 hc
              refine TC.skip ?_; refine TE.then ?_; refine TC.kp [1, 3, 4] [b1_0] ?_; refine TC.seq ?_; refine TC.block ?_; refine TC.seqS ?_; refine TS.s OpY.fieldAddr rfl ?_; refine TS.s (OpD.ldq (Pl.fld (off := 2) (α := Chip) (β := (List Block)) Pl.one)) rfl ?_; refine TS.s OpY.move rfl ?_
              obtain ⟨x_11, ex_11, H9⟩ := bnd H9
              refine TS.s (OpD.index ex_11) rfl ?_; refine TS.s OpY.fieldAddr rfl ?_; refine TS.s OpY.load rfl ?_; refine TS.s OpY.move rfl ?_
              obtain ⟨x_12, ex_12, H9⟩ := bnd H9
              refine TS.s (OpD.index ex_12) rfl ?_; refine TS.s OpY.load rfl ?_; refine TS.s OpD.len rfl ?_; refine TS.s OpY.gtr rfl ?_; refine TS.nil ?_; refine TE.then ?_; refine TC.kp [1, 3, 4, 51] [b1_0] ?_; refine TC.cond (fun hc => ?_) (fun hc => ?_)
              · replace H9 := cT H9 hc
                refine TC.seqS ?_; refine TS.s OpY.assign rfl ?_; refine TS.nil ?_; refine TE.then ?_; refine TC.kp [2] [] ?_; refine TC.ret ?_; refine TE.inBlock_ret ?_; refine TE.then_ret ?_; refine TE.then_ret ?_; refine TE.inBlock_ret ?_; refine TE.cut_ret ?_
                have R12 := elS_r (he9 _ (Option.some.inj H9).symm) H4
                refine TE.inBlock_ret ?_; refine TE.then_ret ?_; refine TE.then_ret ?_; refine TE.inBlock_ret ?_; refine TE.cut_ret ?_
                have R13 := elS_r (he4 _ (Option.some.inj R12).symm) H
                refine TE.then_ret ?_
                obtain rfl := (Option.some.inj R13)
                exact TE.ret1 rfl Cv.le
              · replace H9 := cF H9 hc
                refine TC.skip ?_; refine TE.inBlock_normal ?_; refine TE.then ?_; refine TC.kp [1, 3, 4] [b1_0] ?_; refine TC.regionS ?_; refine TS.s OpY.move rfl ?_
                obtain ⟨x_15, ex_15, H9⟩ := bnd H9
                refine TS.s (OpD.add ex_15) rfl ?_; refine TS.s OpY.assign rfl ?_; refine TS.nil ?_; refine TE.kp [1, 3, 4] [b1_0] ?_; exact TE.backP x_15 () (Option.some.inj H9).symm (Env.cv (Env.cv (Env.cv (Env.le_nil _)))) (Less.pk rfl (Less.nil _))
            · replace H9 := cF H9 hc
              refine TC.exit ?_; refine TE.then_exit ?_; refine TE.then_exit ?_; refine TE.inBlock_here ?_; exact TE.cutP () () (he9 _ (Option.some.inj H9).symm).symm (Env.cv (Env.cv (Env.le_nil _))) (Less.pk rfl (Less.nil _))
          rintro ⟨⟩ ⟨⟩ hp
          replace H4 := elS_l hp H4
          refine TE.inBlock_normal ?_; refine TE.then ?_; refine TC.kp [1, 3] [b1_0] ?_; refine TC.regionS ?_; refine TS.s OpY.move rfl ?_
          obtain ⟨x_16, ex_16, H4⟩ := bnd H4
          refine TS.s (OpD.add ex_16) rfl ?_; refine TS.s OpY.assign rfl ?_; refine TS.nil ?_; refine TE.kp [1, 3] [b1_0] ?_; exact TE.backP x_16 () (Option.some.inj H4).symm (Env.cv (Env.cv (Env.le_nil _))) (Less.pk rfl (Less.nil _))
      · replace H4 := cF H4 hc
        refine TC.exit ?_; refine TE.then_exit ?_; refine TE.then_exit ?_; refine TE.inBlock_here ?_; exact TE.cutP () () (he4 _ (Option.some.inj H4).symm).symm (Env.le_nil _) (Less.nil _)
    rintro ⟨⟩ ⟨⟩ hp
    replace H := elS_l hp H
    refine TE.then ?_; refine TC.kp [] [] ?_; refine TC.seqS ?_; refine TS.s OpY.assign rfl ?_; refine TS.nil ?_; refine TE.then ?_; refine TC.kp [2] [] ?_; refine TC.ret ?_
    obtain rfl := (Option.some.inj H)
    exact TE.ret1 rfl Cv.le
end Go.Proofs.Ytefmfhbkihplgaa.Tr
namespace Go.Proofs.Ytefmfhbkihplgaa.Tr
open Go
theorem loopO_all {α : Type} {f : Int → Option (Int ⊕ (Unit ⊕ Bool))} (xs : List α) (good : α → Bool) (hl : xs.length < 1000000000000) (hf : ∀ i (h : i < xs.length), f (i : Int) = some (if good xs[i] then .inl (((i + 1 : Nat)) : Int) else .inr (.inr false))) (he : f (xs.length : Int) = some (.inr (.inl ()))) :
    loopO f (0 : Int) = some (if xs.all good then .inl () else .inr false) := by
  rcases loopO_find (f := f) (fun i => (i : Int)) xs.length (fun i => (xs[i]?).any fun x => !good x) (fun _ => .inr false) (y := .inl ()) (by omega) (fun i hi hp => by
      have hx : good xs[i] = true := by simpa [List.getElem?_eq_getElem hi] using hp
      rw [hf i hi, if_pos hx]) (fun i hi hp => by
      have hx : good xs[i] = false := by simpa [List.getElem?_eq_getElem hi] using hp
      rw [hf i hi, if_neg (by rw [hx]; decide)]) he (s := (0 : Int)) rfl with ⟨i, hi, hp, -, e⟩ | ⟨hall, e⟩
  · have hx : good xs[i] = false := by simpa [List.getElem?_eq_getElem hi] using hp
    have : ¬ xs.all good = true := fun h => by
      have := List.all_eq_true.1 h _ (List.getElem_mem hi)
      rw [hx] at this; cases this
    rw [e, if_neg this]
  · have : xs.all good = true := List.all_eq_true.2 fun x hx => by
      obtain ⟨i, hi, rfl⟩ := List.getElem_of_mem hx
      have := hall i hi
      simpa [List.getElem?_eq_getElem hi] using this
    rw [e, if_pos this]
def bRight (c : Chip) (b : Block) : Bool := !(((((decide ((b.Pages.length : Int) ≠ c.Pages)) || (decide (b.Used < (0 : Int)))) || (decide (b.Used > c.Pages))) || (decide (b.Worn < (0 : Int)))) || (decide (b.Worn > (1099511627776 : Int)))) && b.Pages.all fun p => decide ((p.length : Int) = c.Size)
def cSound (b p s : Int) : Bool := (((((decide (b ≥ (1 : Int))) && (decide (b ≤ (32 : Int)))) && (decide (p ≥ (1 : Int)))) && (decide (p ≤ (16 : Int)))) && (decide (s ≥ (1 : Int)))) && (decide (s ≤ (256 : Int)))
def cRight (c : Chip) : Bool := (cSound c.Blocks.length c.Pages c.Size && decide (0 ≤ c.Ops ∧ c.Ops ≤ 1099511627776 ∧ c.Faults.length ≤ 64)) && c.Blocks.all (bRight c)
theorem chip_Right_eq (c : Chip) : chip_Right c = some (cRight c) := by
  unfold chip_Right chip_sound cRight
  rw [bind_s]
  show (bif (((!(cSound c.Blocks.length c.Pages c.Size)) || _) || _) || _ then _ else _) = _
  cases hs : cSound c.Blocks.length c.Pages c.Size with
  | false => rw [cond_true (by simp)]; simp
  | true =>
    by_cases ho : 0 ≤ c.Ops ∧ c.Ops ≤ 1099511627776 ∧ c.Faults.length ≤ 64
    · have hs2 := hs
      unfold cSound at hs2
      simp only [Bool.and_eq_true, decide_eq_true_eq, ge_iff_le] at hs2
      rw [cond_false (by simp; omega), loopO_all (f := fun s => chip_Right_l1 c s) c.Blocks (bRight c) (by omega) (fun i hi => ?_) (by unfold chip_Right_l1; rw [lt_f, cond_f])]
      · rw [bind_s, decide_eq_true ho]
        cases c.Blocks.all (bRight c)
        · rw [if_neg (by decide), elS_inr]; rfl
        · rw [if_pos rfl, elS_inl]; rfl
      · unfold chip_Right_l1
        rw [lt_t hi, cond_t, idx_nat hi, bind_s]
        cases hb : (((((decide ((c.Blocks[i].Pages.length : Int) ≠ c.Pages)) || (decide (c.Blocks[i].Used < (0 : Int)))) || (decide (c.Blocks[i].Used > c.Pages))) || (decide (c.Blocks[i].Worn < (0 : Int)))) || (decide (c.Blocks[i].Worn > (1099511627776 : Int)))) with
        | true =>
          have : bRight c c.Blocks[i] = false := by unfold bRight; rw [hb]; rfl
          rw [cond_t, if_neg (by rw [this]; decide)]
        | false =>
          have hb2 := hb
          simp only [Bool.or_eq_false_iff, decide_eq_false_iff_not] at hb2
          rw [cond_f, loopO_all (f := fun s => chip_Right_l2 c c.Blocks[i] s) c.Blocks[i].Pages (fun p => decide ((p.length : Int) = c.Size)) (by omega) (fun j hj => ?_) (by unfold chip_Right_l2; rw [lt_f, cond_f])]
          · have : bRight c c.Blocks[i] = c.Blocks[i].Pages.all (fun p => decide ((p.length : Int) = c.Size)) := by unfold bRight; rw [hb]; rfl
            rw [bind_s, this]
            cases c.Blocks[i].Pages.all (fun p => decide ((p.length : Int) = c.Size))
            · rw [if_neg (by decide), elS_inr, if_neg (by decide)]
            · rw [if_pos rfl, elS_inl, addI_1 (by omega), bind_s, if_pos rfl]
          · unfold chip_Right_l2
            rw [lt_t hj, cond_t, idx_nat hj, bind_s]
            by_cases hp : (c.Blocks[i].Pages[j].length : Int) = c.Size
            · rw [cond_false (by simp [hp]), addI_1 (by omega), bind_s, if_pos (by simp [hp])]
            · rw [cond_true (by simp [hp]), if_neg (by simp [hp])]
    · rw [cond_true (by simp; omega), decide_eq_false ho]
      simp
theorem cRight_spec {c : Chip} (h : cRight c = true) : 1 ≤ c.Blocks.length ∧ c.Blocks.length ≤ 32 ∧ 1 ≤ c.Pages ∧ c.Pages ≤ 16 ∧ 1 ≤ c.Size ∧ c.Size ≤ 256 ∧ 0 ≤ c.Ops ∧ c.Ops ≤ 1099511627776 ∧ c.Faults.length ≤ 64 ∧
    ∀ b ∈ c.Blocks, (b.Pages.length : Int) = c.Pages ∧ 0 ≤ b.Used ∧ b.Used ≤ c.Pages ∧ 0 ≤ b.Worn ∧ b.Worn ≤ 1099511627776 ∧ ∀ p ∈ b.Pages, (p.length : Int) = c.Size := by
  unfold cRight cSound at h
  simp only [Bool.and_eq_true, decide_eq_true_eq, ge_iff_le, List.all_eq_true] at h
  obtain ⟨⟨⟨⟨⟨⟨⟨h1, h2⟩, h3⟩, h4⟩, h5⟩, h6⟩, h7, h8, h9⟩, h10⟩ := h
  refine ⟨by omega, by omega, h3, h4, h5, h6, h7, h8, h9, fun b hb => ?_⟩
  have h11 := h10 b hb
  unfold bRight at h11
  simp only [Bool.and_eq_true, Bool.not_eq_true', Bool.or_eq_false_iff, decide_eq_false_iff_not, List.all_eq_true, decide_eq_true_eq] at h11
  obtain ⟨⟨⟨⟨⟨g1, g2⟩, g3⟩, g4⟩, g5⟩, g6⟩ := h11
  exact ⟨by omega, by omega, by omega, by omega, by omega, g6⟩
end Go.Proofs.Ytefmfhbkihplgaa.Tr
namespace Go.Proofs.Ytefmfhbkihplgaa.Tr
open Go
theorem refShort_some (c : Chip) : ∃ r, bywayref06_Short c = some r := by
  unfold bywayref06_Short
  cases hc : ((decide ((c.Blocks.length : Int) > (40 : Int))) || (decide ((c.Faults.length : Int) > (80 : Int)))) with
  | true => exact ⟨false, by rw [cond_t]⟩
  | false =>
    have hc2 := hc
    simp only [Bool.or_eq_false_iff, decide_eq_false_iff_not] at hc2
    rw [cond_f, loopO_all (f := fun s => bywayref06_Short_l1 c s) c.Blocks (fun b => !(decide ((b.Pages.length : Int) > (20 : Int))) && b.Pages.all fun p => !(decide ((p.length : Int) > (300 : Int)))) (by omega) (fun i hi => ?_) (by unfold bywayref06_Short_l1; rw [lt_f, cond_f])]
    · rw [bind_s]
      split
      · exact ⟨true, by rw [elS_inl]⟩
      · exact ⟨false, by rw [elS_inr]⟩
    · unfold bywayref06_Short_l1
      rw [lt_t hi, cond_t, idx_nat hi, bind_s]
      cases hb : decide ((c.Blocks[i].Pages.length : Int) > (20 : Int)) with
      | true => rw [cond_t]; rfl
      | false =>
        have hb2 := of_decide_eq_false hb
        rw [cond_f, loopO_all (f := fun s => bywayref06_Short_l2 c i s) c.Blocks[i].Pages (fun p => !(decide ((p.length : Int) > (300 : Int)))) (by omega) (fun j hj => ?_) (by unfold bywayref06_Short_l2; rw [idx_nat hi, bind_s, lt_f, cond_f])]
        · rw [bind_s, Bool.not_false, Bool.true_and]
          split
          · rw [elS_inl, addI_1 (by omega), bind_s]
          · rw [elS_inr]
        · unfold bywayref06_Short_l2
          rw [idx_nat hi, bind_s, lt_t hj, cond_t, bind_s, idx_nat hj, bind_s]
          cases hp : decide ((c.Blocks[i].Pages[j].length : Int) > (300 : Int)) with
          | true => rw [cond_t]; rfl
          | false => rw [cond_f, addI_1 (by omega), bind_s]; rfl
end Go.Proofs.Ytefmfhbkihplgaa.Tr
