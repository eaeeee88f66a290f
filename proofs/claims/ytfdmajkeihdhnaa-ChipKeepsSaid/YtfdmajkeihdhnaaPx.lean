/- Plain programs: loops that count, and conditions. Conditions: none. -/
import Derived.Test.YtfdmajkeihdhnaaNx
namespace Go.Proofs.Ytfdmajkeihdhnaa.Tr
open Go
set_option linter.unusedVariables false

/-- a loop whose n-th state is known -/
theorem loopO_iter {σ ε : Type} {f : σ → Option (σ ⊕ ε)} (g : Nat → σ) (n : Nat) {e : ε} (hn : n < 18446744073709551616) (h : ∀ i, i < n → f (g i) = some (.inl (g (i + 1)))) (he : f (g n) = some (.inr e)) {s : σ} (hs : s = g 0) : loopO f s = some e := by
  have key : ∀ k i, i + k = n → loopN f (k + 1) (g i) = some e := by
    intro k
    induction k with
    | zero => intro i hi; obtain rfl : i = n := by omega
              exact loopN_done he
    | succ k ih => intro i hi; rw [loopN_next (h i (by omega))]; exact ih (i + 1) (by omega)
  subst hs
  exact loopO_of (n + 1) (by omega) (key n 0 (by omega))
/-- a search: which turn is the last one, or none -/
theorem loopO_find {σ ε : Type} {f : σ → Option (σ ⊕ ε)} (g : Nat → σ) (n : Nat) (p : Nat → Bool) (x : Nat → ε) {y : ε} (hn : n < 18446744073709551616)
    (h : ∀ i, i < n → p i = false → f (g i) = some (.inl (g (i + 1)))) (hx : ∀ i, i < n → p i = true → f (g i) = some (.inr (x i))) (he : f (g n) = some (.inr y)) {s : σ} (hs : s = g 0) :
    (∃ i, i < n ∧ p i = true ∧ (∀ j, j < i → p j = false) ∧ loopO f s = some (x i)) ∨ ((∀ j, j < n → p j = false) ∧ loopO f s = some y) := by
  by_cases hex : ∃ i, i < n ∧ p i = true
  · left
    have key : ∀ m, (∃ i, i < m ∧ i < n ∧ p i = true) → ∃ i, i < n ∧ p i = true ∧ ∀ j, j < i → p j = false := by
      intro m
      induction m with
      | zero => rintro ⟨i, h, _⟩; omega
      | succ m ih =>
        rintro ⟨i, h1, h2, h3⟩
        by_cases hs : ∃ i, i < m ∧ i < n ∧ p i = true
        · exact ih hs
        · refine ⟨i, h2, h3, fun j hj => ?_⟩
          cases hp : p j with
          | false => rfl
          | true => exact absurd ⟨j, by omega, by omega, hp⟩ hs
    obtain ⟨i0, h0, h1⟩ := hex
    obtain ⟨i, h1, h2, h3⟩ := key (i0 + 1) ⟨i0, by omega, h0, h1⟩
    exact ⟨i, h1, h2, h3, loopO_iter g i (by omega) (fun j hj => h j (by omega) (h3 j hj)) (hx i h1 h2) hs⟩
  · right
    have hall : ∀ j, j < n → p j = false := fun j hj => by
      cases hp : p j with
      | false => rfl
      | true => exact absurd ⟨j, hj, hp⟩ hex
    exact ⟨hall, loopO_iter g n hn (fun j hj => h j hj (hall j hj)) he hs⟩
theorem lt_t {i n : Nat} (h : i < n) : decide ((i : Int) < (n : Int)) = true := by simpa using h
theorem lt_f {n : Nat} : decide ((n : Int) < (n : Int)) = false := by simp
theorem lt_f' {i n : Nat} (h : n ≤ i) : decide ((i : Int) < (n : Int)) = false := by simpa using h
theorem addI_1 {i : Nat} (h : i < 9223372036854775807) : addI (i : Int) 1 = some (((i + 1 : Nat)) : Int) := addI_nat h
theorem cond_true {α : Type} {b : Bool} {x y : α} (h : b = true) : (bif b then x else y) = x := by rw [h, cond_t]
theorem cond_false {α : Type} {b : Bool} {x y : α} (h : b = false) : (bif b then x else y) = y := by rw [h, cond_f]
theorem bind_of {α β : Type} {x : Option α} {a : α} {f : α → Option β} (h : x = some a) : x.bind f = f a := by rw [h, bind_s]
theorem gb_of2 {α : Type} [Inhabited α] {g : Bool} {x : Option α} {a : α} (h : x = some a) : gb g x = some (bif g then a else default) := gb_of fun _ => h
theorem remI_nat {a b : Nat} (h : 0 < b) : remI (a : Int) (b : Int) = some ((a % b : Nat) : Int) := by rw [remI_ok (by omega) (by omega)]; rfl
theorem quoI_nat {a b : Nat} (h : 0 < b) : quoI (a : Int) (b : Int) = some ((a / b : Nat) : Int) := by rw [quoI_ok (by omega) (by omega)]; rfl
end Go.Proofs.Ytfdmajkeihdhnaa.Tr
