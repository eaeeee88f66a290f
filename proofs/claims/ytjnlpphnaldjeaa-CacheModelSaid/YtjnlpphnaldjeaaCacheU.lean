/- The laws of the cache, in plain Lean: the model's counts. Conditions: none. -/
import Derived.Test.YtjnlpphnaldjeaaCacheT
namespace Go.Proofs.Ytjnlpphnaldjeaa.Tr
open Go
set_option linter.unusedVariables false
set_option linter.unusedSimpArgs false

/-- which are in use -/
def usedL (u : Vec Int 256) (n : Nat) : List Nat := (List.range n).filter fun b => decide (0 < u.l.getD b 0)
theorem usedL_succ (u : Vec Int 256) (n : Nat) : usedL u (n + 1) = usedL u n ++ (if 0 < u.l.getD n 0 then [n] else []) := by
  unfold usedL
  have e : List.filter (fun b => decide (0 < u.l.getD b 0)) [n] = if 0 < u.l.getD n 0 then [n] else [] := by
    rw [List.filter_cons, List.filter_nil]
    by_cases h : 0 < u.l.getD n 0
    · rw [if_pos (by rw [decide_eq_true h]), if_pos h]
    · rw [if_neg (by rw [decide_eq_false h]; simp), if_neg h]
  rw [List.range_succ, List.filter_append, e]
theorem usedL_len (u : Vec Int 256) (n : Nat) : (usedL u n).length ≤ n := by
  unfold usedL
  exact Nat.le_trans (List.length_filter_le ..) (by simp)
theorem vec_idx (u : Vec Int 256) {n : Nat} (h : n < 256) : idx u.l (n : Int) = some (u.l.getD n 0) := by
  have := u.h
  rw [idx_nat (by omega), List.getD_eq_getElem?_getD, List.getElem?_eq_getElem (by omega)]; rfl
theorem model_many (u : Vec Int 256) : loopO (fun s => bywaylaw13_CacheModel_l3 u s.1 s.2) ((0 : Int), (0 : Int)) = some ((usedL u 256).length : Int) := by
  obtain ⟨e, he, hQ⟩ := loopO_inv (f := fun s => bywaylaw13_CacheModel_l3 u s.1 s.2) (I := fun s => ∃ i : Nat, s.2 = i ∧ i ≤ 256 ∧ s.1 = ((usedL u i).length : Int)) (μ := fun s => (256 - s.2).toNat) (R := fun e => e = ((usedL u 256).length : Int)) (by
    rintro ⟨c, x⟩ ⟨i, hx, hil, hc⟩
    obtain rfl : x = i := hx
    obtain rfl : c = _ := hc
    unfold bywaylaw13_CacheModel_l3
    dsimp only
    by_cases hx : i < 256
    · have hlen := usedL_len u i
      rw [show decide ((i : Int) < 256) = true by simp; omega, cond_t, vec_idx u hx, bind_s]
      left
      refine ⟨(((usedL u (i + 1)).length : Int), ((i + 1 : Nat) : Int)), ?_, ⟨i + 1, rfl, by omega, rfl⟩, by simp only; omega⟩
      rw [usedL_succ]
      by_cases h : 0 < u.l.getD i 0
      · rw [show decide (u.l.getD i 0 > 0) = true by simpa using h, cond_t, addI_ok (by omega) (by omega), bind_s, bind_s, addI_nat (show i < 9223372036854775807 by omega), bind_s, if_pos h, List.length_append]; rfl
      · rw [show decide (u.l.getD i 0 > 0) = false by simpa using h, cond_f, bind_s, addI_nat (show i < 9223372036854775807 by omega), bind_s, if_neg h, List.append_nil]
    · rw [show decide ((i : Int) < 256) = false by simp; omega, cond_f]
      exact .inr ⟨_, rfl, by rw [show i = 256 by omega]⟩) (s := ((0 : Int), (0 : Int))) ⟨0, rfl, by omega, rfl⟩ (by simp only; omega)
  rw [he, hQ]
/-- the one that was used least lately -/
def Oldest (u : Vec Int 256) (n : Nat) (o : Int) : Prop := (o = -1 ∧ usedL u n = []) ∨ ∃ b : Nat, o = b ∧ b ∈ usedL u n ∧ ∀ c ∈ usedL u n, u.l.getD b 0 ≤ u.l.getD c 0
theorem model_old (u : Vec Int 256) : ∃ o, loopO (fun s => bywaylaw13_CacheModel_l2 u s.1 s.2.1 s.2.2) ((0 : Int), (-1 : Int), (0 : Int)) = some (((usedL u 256).length : Int), o) ∧ Oldest u 256 o := by
  obtain ⟨e, he, hQ⟩ := loopO_inv (f := fun s => bywaylaw13_CacheModel_l2 u s.1 s.2.1 s.2.2) (I := fun s => ∃ i : Nat, s.2.2 = i ∧ i ≤ 256 ∧ s.1 = ((usedL u i).length : Int) ∧ Oldest u i s.2.1) (μ := fun s => (256 - s.2.2).toNat)
    (R := fun e => e.1 = ((usedL u 256).length : Int) ∧ Oldest u 256 e.2) (by
    rintro ⟨c, o, x⟩ ⟨i, hx, hil, hc, ho⟩
    obtain rfl : x = i := hx
    obtain rfl : c = _ := hc
    simp only at ho
    unfold bywaylaw13_CacheModel_l2
    dsimp only
    by_cases hx : i < 256
    · have hlen := usedL_len u i
      rw [show decide ((i : Int) < 256) = true by simp; omega, cond_t, vec_idx u hx, bind_s]
      left
      by_cases h : 0 < u.l.getD i 0
      · have hs : usedL u (i + 1) = usedL u i ++ [i] := by rw [usedL_succ, if_pos h]
        rw [show decide (u.l.getD i 0 > 0) = true by simpa using h, cond_t, addI_ok (by omega) (by omega), bind_s]
        rcases ho with ⟨rfl, ho⟩ | ⟨b, rfl, hb, hmin⟩
        · rw [show decide ((-1 : Int) < 0) = true by decide, Bool.not_true, gb_false, bind_s, gb_false, bind_s, Bool.true_or, cond_t, bind_s, el2_at, addI_nat (show i < 9223372036854775807 by omega), bind_s]
          refine ⟨_, rfl, ⟨i + 1, rfl, by omega, by simp only [hs, List.length_append]; rfl, .inr ⟨i, rfl, by rw [hs]; simp, fun c hc => ?_⟩⟩, by simp only; omega⟩
          rw [hs, ho] at hc
          obtain rfl : c = i := by simpa using hc
          exact Int.le_refl _
        · have hbi : b < 256 := by have := (List.mem_filter.1 hb).1; simp at this; omega
          rw [show decide ((b : Int) < 0) = false by simp, Bool.not_false, gb_true, bind_s, gb_true, vec_idx u hbi, bind_s, Bool.false_or]
          by_cases hlt : u.l.getD i 0 < u.l.getD b 0
          · rw [show decide (u.l.getD i 0 < u.l.getD b 0) = true by simpa using hlt, cond_t, bind_s, el2_at, addI_nat (show i < 9223372036854775807 by omega), bind_s]
            refine ⟨_, rfl, ⟨i + 1, rfl, by omega, by simp only [hs, List.length_append]; rfl, .inr ⟨i, rfl, by rw [hs]; simp, fun c hc => ?_⟩⟩, by simp only; omega⟩
            rw [hs, List.mem_append, List.mem_singleton] at hc
            rcases hc with hc | rfl
            · have := hmin c hc; omega
            · exact Int.le_refl _
          · rw [show decide (u.l.getD i 0 < u.l.getD b 0) = false by simpa using hlt, cond_f, bind_s, el2_at, addI_nat (show i < 9223372036854775807 by omega), bind_s]
            refine ⟨_, rfl, ⟨i + 1, rfl, by omega, by simp only [hs, List.length_append]; rfl, .inr ⟨b, rfl, by rw [hs]; simp [hb], fun c hc => ?_⟩⟩, by simp only; omega⟩
            rw [hs, List.mem_append, List.mem_singleton] at hc
            rcases hc with hc | rfl
            · exact hmin c hc
            · omega
      · have hs : usedL u (i + 1) = usedL u i := by rw [usedL_succ, if_neg h, List.append_nil]
        rw [show decide (u.l.getD i 0 > 0) = false by simpa using h, cond_f, bind_s, el2_at, addI_nat (show i < 9223372036854775807 by omega), bind_s]
        refine ⟨_, rfl, ⟨i + 1, rfl, by omega, by simp only [hs], ?_⟩, by simp only; omega⟩
        unfold Oldest at *
        rw [hs]; exact ho
    · rw [show decide ((i : Int) < 256) = false by simp; omega, cond_f]
      obtain rfl : i = 256 := by omega
      exact .inr ⟨_, rfl, rfl, ho⟩) (s := ((0 : Int), (-1 : Int), (0 : Int))) ⟨0, rfl, by omega, rfl, .inl ⟨rfl, rfl⟩⟩ (by simp only; omega)
  obtain ⟨e1, e2⟩ := e
  obtain ⟨rfl, hQ⟩ := hQ
  exact ⟨e2, he, hQ⟩
end Go.Proofs.Ytjnlpphnaldjeaa.Tr
