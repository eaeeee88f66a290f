/- The third law of pages, in plain Lean. Conditions: none. -/
import Derived.Test.YtfdmajkeihdhnaaPageG
namespace Go.Proofs.Ytfdmajkeihdhnaa.Tr
open Go
set_option linter.unusedVariables false
set_option linter.unusedSimpArgs false

def bitsV (w : UInt8) : Nat := ((List.range 8).filter fun j => decide (w.toNat / 2 ^ j % 2 = 1)).length
theorem bits_fin : ∀ k : Fin 256, loopN (fun s => bywaylaw07_PageTorn_l1 s.1 s.2) 9 ((0 : Int), UInt8.ofNat k.1) = some ((bitsV (UInt8.ofNat k.1) : Nat) : Int) := by decide +kernel
theorem bits_loop (w : UInt8) : loopO (fun s => bywaylaw07_PageTorn_l1 s.1 s.2) ((0 : Int), w) = some ((bitsV w : Nat) : Int) := by
  have h := bits_fin ⟨w.toNat, w.toNat_lt⟩
  have e : UInt8.ofNat w.toNat = w := UInt8.ofNat_toNat
  rw [e] at h
  exact loopO_of 9 (by omega) h
theorem bits_facts : ∀ k : Fin 256, (bitsV (255 - UInt8.ofNat k.1) = 0 → UInt8.ofNat k.1 = 255) ∧ (bitsV (255 - UInt8.ofNat k.1) = 1 → ∃ i : Fin 8, UInt8.ofNat k.1 ^^^ UInt8.ofNat (2 ^ i.1) = 255) ∧
    (bitsV (255 - UInt8.ofNat k.1) = 2 → ∃ i j : Fin 8, i.1 ≠ j.1 ∧ UInt8.ofNat k.1 ^^^ UInt8.ofNat (2 ^ i.1) ^^^ UInt8.ofNat (2 ^ j.1) = 255) := by decide +kernel
theorem bits_at (w : UInt8) : (bitsV (255 - w) = 0 → w = 255) ∧ (bitsV (255 - w) = 1 → ∃ i : Fin 8, w ^^^ UInt8.ofNat (2 ^ i.1) = 255) ∧
    (bitsV (255 - w) = 2 → ∃ i j : Fin 8, i.1 ≠ j.1 ∧ w ^^^ UInt8.ofNat (2 ^ i.1) ^^^ UInt8.ofNat (2 ^ j.1) = 255) := by
  have h := bits_facts ⟨w.toNat, w.toNat_lt⟩
  have e : UInt8.ofNat w.toNat = w := UInt8.ofNat_toNat
  rwa [e] at h
theorem flip_at {s : List UInt8} {k i : Nat} (hi : i < 8) (hk : k < s.length) : flip s (8 * k + i) = s.set k (s[k] ^^^ UInt8.ofNat (2 ^ i)) := by
  unfold flip
  rw [show (8 * k + i) / 8 = k by omega, show (8 * k + i) % 8 = i by omega, getD_of hk]
theorem fill_loop (n : Nat) (hn : n ≤ 1000000) : loopO (fun s => bywaylaw07_PageTorn_l2 (n : Int) s.1 s.2) ((0 : Int), List.replicate n (Dat.z : UInt8)) = some (List.replicate n 255) := by
  refine loopO_iter (fun i => ((i : Int), List.replicate i (255 : UInt8) ++ List.replicate (n - i) (Dat.z : UInt8))) n (by omega) (fun i hi => ?_) ?_ (by simp)
  · unfold bywaylaw07_PageTorn_l2
    dsimp only
    rw [lt_t hi, cond_t, idx_nat (by simp; omega), bind_s, bind_s, addI_1 (by omega), bind_s, Int.toNat_natCast]
    have e : (List.replicate i (255 : UInt8) ++ List.replicate (n - i) (Dat.z : UInt8)).set i (UInt8.ofNat 255) = List.replicate (i + 1) (255 : UInt8) ++ List.replicate (n - (i + 1)) (Dat.z : UInt8) := by
      rw [List.set_append_right _ _ (by simp), List.length_replicate, Nat.sub_self, show n - i = (n - (i + 1)) + 1 by omega, List.replicate_succ (n := n - (i + 1)), List.set_cons_zero, List.replicate_succ', List.append_assoc]
      rfl
    rw [e]
  · unfold bywaylaw07_PageTorn_l2
    dsimp only
    rw [lt_f, cond_f]; simp
theorem pageTorn_plain (p : Page) (s : Int) (a : UInt16) : bywaylaw07_PageTorn p s a = some true := by
  unfold bywaylaw07_PageTorn
  rw [page_awake_eq, bind_s, Bool.not_true, cond_f, page_Put_eq, bind_s]
  by_cases h : PMay p s
  · have h0 := h.1; unfold PFits at h0
    obtain ⟨n, rfl⟩ := Int.eq_ofNat_of_zero_le (show 0 ≤ s by omega)
    have e0 : PutV p (n : Int) = (sealed (pInner p n), 0) := by unfold PutV; rw [if_pos h]; rfl
    have hrd := read_put h
    have hf1 := fun {x} hx => flip_one_read h (x := x) hx
    have hf2 := fun {x y} hx hy hxy => flip_two_read h (x := x) (y := y) hx hy hxy
    obtain ⟨g1, -⟩ := put_head h rfl
    rw [e0, cond_false (by simp)]
    dsimp only
    generalize hxx : sealed (pInner p n) = x at *
    rw [List.nil_append, room_ok (by omega) (by simp; omega) (by simp; omega), bind_s, bind_s, remI_nat (by omega), bind_s]
    have hk : a.toNat % n < n := Nat.mod_lt _ (by omega)
    generalize a.toNat % n = k at hk
    have hk' : k < x.length := by omega
    rw [idx_nat hk', bind_s, bind_s, bind_s, Int.toNat_natCast, page_Read_eq _ (by simp; omega), bind_s]
    have e255 : (UInt8.ofNat 255) = 255 := rfl
    rw [e255, bits_loop, bind_s]
    obtain ⟨b0, b1, b2⟩ := bits_at x[k]
    by_cases hb : bitsV (255 - x[k]) = 0
    · have hw := b0 hb
      have hs : x.set k 255 = x := by rw [← hw]; exact List.set_getElem_self hk'
      rw [cond_true (by simp [hb]), hs, hrd, same_eq, sameV_self]
      simp only [decide_true, gb_true, bind_s, Bool.true_and]
    · rw [cond_false (by simp; omega), room_ok (by omega) (by omega) (by omega), bind_s, bind_s, Int.toNat_natCast, fill_loop n (by omega), bind_s, page_Read_eq _ (by simp; omega), bind_s]
      have hbl : ReadV (List.replicate n 255) = (Page0, 0) := by
        unfold ReadV
        rw [if_neg (by rw [Decidable.not_not, List.length_replicate]; exact h.1), if_pos (fun y hy => List.eq_of_mem_replicate hy)]
      rw [hbl, same_eq, page_Blank_eq _ (by simp; omega)]
      have hall : decide (∀ y ∈ List.replicate n (255 : UInt8), y = 255) = true := by
        rw [decide_eq_true_eq]; exact fun y hy => List.eq_of_mem_replicate hy
      rw [hall]
      have hA : ((decide (((bitsV (255 - x[k]) : Nat) : Int) > (2 : Int))) || (decide ((ReadV (x.set k 255)).2 = (4 : Int)))) = true := by
        by_cases h1 : bitsV (255 - x[k]) = 1
        · obtain ⟨i, hi⟩ := b1 h1
          have : x.set k 255 = flip x (8 * k + i.1) := by rw [flip_at i.2 hk', hi]
          rw [this, hf1 (by have := i.2; omega)]; simp
        · by_cases h2 : bitsV (255 - x[k]) = 2
          · obtain ⟨i, j, hij, he⟩ := b2 h2
            have : x.set k 255 = flip (flip x (8 * k + i.1)) (8 * k + j.1) := by
              rw [flip_at i.2 hk', flip_at j.2 (by simpa using hk')]
              simp [he]
            rw [this, hf2 (by have := i.2; omega) (by have := j.2; omega) (by omega)]; simp
          · have : (((bitsV (255 - x[k]) : Nat) : Int) > (2 : Int)) := by omega
            simp [this]
      have hB : (ReadV (x.set k 255)).2 = 0 → SameV p (ReadV (x.set k 255)).1 = false := fun hz => by
        rw [← Bool.not_eq_true]
        intro hs
        have hs2 := sameV_iff.1 hs
        have hkd : (ReadV (x.set k 255)).1.Kind ≠ 0 := by
          rw [← hs2]; rcases h.2.1 with e | e <;> rw [e] <;> decide
        obtain ⟨q1, q2⟩ := read_ok hz hkd
        rw [← hs2, List.length_set, g1, hxx] at q2
        have h3 : x[k] = 255 := by
          have h4 : (x.set k 255)[k]'(by simpa using hk') = 255 := List.getElem_set_self _
          have h5 : ∀ (y : List UInt8) (hy : k < y.length), x = y → x[k] = y[k] := fun y hy e => by subst e; rfl
          rw [h5 _ (by simpa using hk') q2, h4]
        rw [h3] at hb
        exact hb (by decide)
      rw [hA]
      by_cases hz : (ReadV (x.set k 255)).2 = 0
      · rw [hz, hB hz]
        simp only [ne_eq, not_true_eq_false, decide_false, decide_true, Bool.not_false, Bool.true_and, gb_true, bind_s, Bool.false_or, Bool.and_true]
        rfl
      · have hd : decide ((ReadV (x.set k 255)).2 ≠ (0 : Int)) = true := by simpa using hz
        rw [hd]
        simp only [Bool.not_true, Bool.and_false, gb_false, bind_s, Bool.true_or, Bool.true_and, Bool.and_true, decide_true]
        rfl
  · have e0 : PutV p s = ([], 1) := by unfold PutV; rw [if_neg h]
    rw [e0, cond_true (by decide), page_May_eq, decide_eq_false h]
    rfl
end Go.Proofs.Ytfdmajkeihdhnaa.Tr
