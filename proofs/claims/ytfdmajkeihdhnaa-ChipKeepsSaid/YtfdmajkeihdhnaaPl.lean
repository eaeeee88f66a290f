/- Plain programs: what their parts answer. Conditions: none. -/
import Derived.Test.YtfdmajkeihdhnaaPh
namespace Go.Proofs.Ytfdmajkeihdhnaa.Tr
open Go
set_option linter.unusedVariables false

theorem idx_nat {α : Type} {l : List α} {i : Nat} (h : i < l.length) : idx l (i : Int) = some l[i] := by
  unfold idx
  rw [if_pos (by omega), Int.toNat_natCast, List.getElem?_eq_getElem h]
theorem idx_of {α : Type} {l : List α} {k : Int} (h0 : 0 ≤ k) (h : k < l.length) : idx l k = some (l[k.toNat]'(by omega)) := by
  unfold idx
  rw [if_pos h0, List.getElem?_eq_getElem (by omega)]
theorem ok64_ok {z : Int} (h1 : -9223372036854775808 ≤ z) (h2 : z ≤ 9223372036854775807) : ok64 z = some z := by
  unfold ok64; rw [if_pos ⟨h1, h2⟩]
theorem addI_ok {a b : Int} (h1 : -9223372036854775808 ≤ a + b) (h2 : a + b ≤ 9223372036854775807) : addI a b = some (a + b) := ok64_ok h1 h2
theorem subI_ok {a b : Int} (h1 : -9223372036854775808 ≤ a - b) (h2 : a - b ≤ 9223372036854775807) : subI a b = some (a - b) := ok64_ok h1 h2
theorem mulI_ok {a b : Int} (h1 : -9223372036854775808 ≤ a * b) (h2 : a * b ≤ 9223372036854775807) : mulI a b = some (a * b) := ok64_ok h1 h2
theorem addI_nat {i : Nat} (h : i < 9223372036854775807) : addI (i : Int) 1 = some ((i + 1 : Nat) : Int) := by
  rw [addI_ok (by omega) (by omega)]; rfl
theorem remI_ok {a b : Int} (h1 : 0 ≤ a) (h2 : 0 < b) : remI a b = some (a % b) := by unfold remI; rw [if_pos ⟨h1, h2⟩]
theorem quoI_ok {a b : Int} (h1 : 0 ≤ a) (h2 : 0 < b) : quoI a b = some (a / b) := by unfold quoI; rw [if_pos ⟨h1, h2⟩]
theorem room_ok {bt : Nat} {n : Int} (h0 : 0 ≤ n) (h1 : n * bt ≤ 140737488355328) (h2 : n ≤ 140737488351232) : room bt n = some () := by unfold room; rw [if_pos ⟨h0, h1, h2⟩]
theorem cut_ok {n : Nat} {l r : Int} (h1 : 0 ≤ l) (h2 : l ≤ r) (h3 : r ≤ n) : cut n l r = some () := by unfold cut; rw [if_pos ⟨h1, h2, h3⟩]
-- not by rfl alone: what a rule by rfl rewrites the kernel would run
theorem gb_true {α : Type} [Inhabited α] {x : Option α} : gb true x = x := Eq.trans rfl rfl
theorem gb_false {α : Type} [Inhabited α] {x : Option α} : gb false x = some default := Eq.trans rfl rfl
theorem cond_t {α : Type} {x y : α} : (bif true then x else y) = x := Eq.trans rfl rfl
theorem cond_f {α : Type} {x y : α} : (bif false then x else y) = y := Eq.trans rfl rfl
theorem bind_s {α β : Type} {a : α} {f : α → Option β} : (some a).bind f = f a := Eq.trans rfl rfl
theorem el2_at {α β ρ : Type} {a : α} {b : β} {f : α → β → ρ} : el2 (a, b) f = f a b := Eq.trans rfl rfl
theorem el3_at {α β γ ρ : Type} {a : α} {b : β} {c : γ} {f : α → β → γ → ρ} : el3 (a, b, c) f = f a b c := Eq.trans rfl rfl
theorem el4_at {α β γ δ ρ : Type} {a : α} {b : β} {c : γ} {d : δ} {f : α → β → γ → δ → ρ} : el4 (a, b, c, d) f = f a b c d := Eq.trans rfl rfl
theorem el5_at {α β γ δ ε ρ : Type} {a : α} {b : β} {c : γ} {d : δ} {e : ε} {f : α → β → γ → δ → ε → ρ} : el5 (a, b, c, d, e) f = f a b c d e := Eq.trans rfl rfl
theorem el6_at {α β γ δ ε ζ ρ : Type} {a : α} {b : β} {c : γ} {d : δ} {e : ε} {g : ζ} {f : α → β → γ → δ → ε → ζ → ρ} : el6 (a, b, c, d, e, g) f = f a b c d e g := Eq.trans rfl rfl
theorem el7_at {α β γ δ ε ζ η ρ : Type} {a : α} {b : β} {c : γ} {d : δ} {e : ε} {g : ζ} {h : η} {f : α → β → γ → δ → ε → ζ → η → ρ} : el7 (a, b, c, d, e, g, h) f = f a b c d e g h := Eq.trans rfl rfl
theorem el8_at {α β γ δ ε ζ η θ ρ : Type} {a : α} {b : β} {c : γ} {d : δ} {e : ε} {g : ζ} {h : η} {k : θ} {f : α → β → γ → δ → ε → ζ → η → θ → ρ} : el8 (a, b, c, d, e, g, h, k) f = f a b c d e g h k := Eq.trans rfl rfl
theorem elS_inl {α β γ : Type} {a : α} {f : α → γ} {g : β → γ} : elS (.inl a) f g = f a := Eq.trans rfl rfl
theorem elS_inr {α β γ : Type} {a : β} {f : α → γ} {g : β → γ} : elS (.inr a) f g = g a := Eq.trans rfl rfl
theorem el2_eq {α β γ : Type} {s : α × β} {f : α → β → γ} : el2 s f = f s.1 s.2 := Eq.trans rfl rfl
theorem loopO_of {σ ε : Type} {f : σ → Option (σ ⊕ ε)} {s : σ} {e : ε} (k : Nat) (hk : k ≤ 18446744073709551616) (h : loopN f k s = some e) : loopO f s = some e := loopN_mono _ h hk
theorem loopN_done {σ ε : Type} {f : σ → Option (σ ⊕ ε)} {s : σ} {e : ε} {k : Nat} (h : f s = some (.inr e)) : loopN f (k + 1) s = some e := by unfold loopN; rw [h]
theorem loopN_next {σ ε : Type} {f : σ → Option (σ ⊕ ε)} {s s' : σ} {k : Nat} (h : f s = some (.inl s')) : loopN f (k + 1) s = loopN f k s' := by rw [loopN, h]
/-- a guarded part that answers where it is asked -/
theorem gb_of {α : Type} [Inhabited α] {g : Bool} {x : Option α} {a : α} (h : g = true → x = some a) : gb g x = some (bif g then a else default) := by
  cases g with
  | true => exact h rfl
  | false => rfl
end Go.Proofs.Ytfdmajkeihdhnaa.Tr
