/- The laws of the cache, in plain Lean: the model's order. Conditions: none. -/
import Derived.Test.YtjnlpphnaldjeaaCacheU
namespace Go.Proofs.Ytjnlpphnaldjeaa.Tr
open Go
set_option linter.unusedVariables false
set_option linter.unusedSimpArgs false

/-- what is in use, in the order of use -/
structure OI (i : Int) (l : List Int) (u : Nat → Int) : Prop where
  mem : ∀ b : Nat, b < 256 → (0 < u b ↔ (b : Int) ∈ l)
  rng : ∀ x ∈ l, 0 ≤ x ∧ x < 256
  le : ∀ b : Nat, b < 256 → 0 ≤ u b ∧ u b ≤ i
  ord : l.Pairwise fun x y => u x.toNat < u y.toNat
def upd (u : Nat → Int) (b : Nat) (v : Int) : Nat → Int := fun c => if c = b then v else u c
theorem OI.nodup {i : Int} {l : List Int} {u : Nat → Int} (h : OI i l u) : l.Nodup := h.ord.imp fun h e => by subst e; omega
theorem OI.forget {i : Int} {l : List Int} {u : Nat → Int} (h : OI i l u) (hi : 0 ≤ i) (b : Nat) : OI i (l.filter fun x => decide (x ≠ (b : Int))) (upd u b 0) where
  mem c hc := by
    unfold upd
    by_cases e : c = b
    · subst e; simp
    · rw [if_neg e, h.mem c hc, List.mem_filter]
      simp only [decide_eq_true_eq]
      exact ⟨fun h => ⟨h, by omega⟩, fun h => h.1⟩
  rng x hx := h.rng x (List.mem_filter.1 hx).1
  le c hc := by
    unfold upd
    by_cases e : c = b
    · rw [if_pos e]; omega
    · rw [if_neg e]; exact h.le c hc
  ord := by
    refine (h.ord.sublist List.filter_sublist).imp_of_mem fun {x y} hx hy hxy => ?_
    have h1 := (List.mem_filter.1 hx).2; have h2 := (List.mem_filter.1 hy).2
    have r1 := h.rng x (List.mem_filter.1 hx).1; have r2 := h.rng y (List.mem_filter.1 hy).1
    simp only [decide_eq_true_eq] at h1 h2
    unfold upd
    rw [if_neg (by omega), if_neg (by omega)]
    exact hxy
theorem OI.drop {i : Int} {x : Int} {t : List Int} {u : Nat → Int} (h : OI i (x :: t) u) (hi : 0 ≤ i) : OI i t (upd u x.toNat 0) := by
  have hx := h.rng x (List.mem_cons_self ..)
  have := h.forget hi x.toNat
  have hn := List.nodup_cons.1 h.nodup
  rw [show ((x.toNat : Nat) : Int) = x by omega, List.filter_cons, if_neg (by simp), filter_no hn.1] at this
  exact this
theorem OI.push {i : Int} {l : List Int} {u : Nat → Int} (h : OI i l u) (hi : 0 ≤ i) {b : Nat} (hb : b < 256) (hn : (b : Int) ∉ l) : OI (i + 1) (l ++ [(b : Int)]) (upd u b (i + 1)) where
  mem c hc := by
    unfold upd
    rw [List.mem_append, List.mem_singleton]
    by_cases e : c = b
    · subst e; simp; omega
    · rw [if_neg e, h.mem c hc]
      exact ⟨.inl, fun h => h.elim id fun h => absurd (by omega) e⟩
  rng x hx := by
    rcases List.mem_append.1 hx with hx | hx
    · exact h.rng x hx
    · obtain rfl : x = b := by simpa using hx
      omega
  le c hc := by
    unfold upd
    by_cases e : c = b
    · rw [if_pos e]; omega
    · rw [if_neg e]; have := h.le c hc; omega
  ord := by
    refine List.pairwise_append.2 ⟨h.ord.imp_of_mem fun {x y} hx hy hxy => ?_, List.pairwise_singleton _ _, fun x hx y hy => ?_⟩
    · have r1 := h.rng x hx; have r2 := h.rng y hy
      unfold upd
      rw [if_neg (fun e => hn (by rw [← e, show ((x.toNat : Nat) : Int) = x by omega]; exact hx)), if_neg (fun e => hn (by rw [← e, show ((y.toNat : Nat) : Int) = y by omega]; exact hy))]
      exact hxy
    · obtain rfl : y = b := by simpa using hy
      have r1 := h.rng x hx
      have := h.le x.toNat (by omega)
      unfold upd
      rw [if_neg (fun e => hn (by rw [← e, show ((x.toNat : Nat) : Int) = x by omega]; exact hx)), if_pos (by simp)]
      omega
theorem OI.mono {i j : Int} {l : List Int} {u : Nat → Int} (h : OI i l u) (hij : i ≤ j) : OI j l u := ⟨h.mem, h.rng, fun b hb => by have := h.le b hb; omega, h.ord⟩
theorem OI.cnt {i : Int} {l : List Int} {v : Vec Int 256} (h : OI i l fun b => v.l.getD b 0) : (usedL v 256).length = l.length := by
  have hp : (l.map Int.toNat).Perm (usedL v 256) := by
    refine (List.perm_ext_iff_of_nodup ?_ ?_).2 fun a => ?_
    · unfold List.Nodup
      rw [List.pairwise_map]
      exact h.nodup.imp_of_mem fun {x y} hx hy hxy => by
        have := h.rng x hx; have := h.rng y hy; omega
    · unfold usedL; exact List.Nodup.sublist List.filter_sublist List.nodup_range
    · unfold usedL
      rw [List.mem_map, List.mem_filter, List.mem_range, decide_eq_true_eq]
      constructor
      · rintro ⟨x, hx, rfl⟩
        have := h.rng x hx
        exact ⟨by omega, (h.mem x.toNat (by omega)).2 (by rw [show ((x.toNat : Nat) : Int) = x by omega]; exact hx)⟩
      · rintro ⟨h1, h2⟩
        exact ⟨(a : Int), (h.mem a h1).1 h2, by simp⟩
  rw [← hp.length_eq, List.length_map]
/-- who is oldest is the first -/
theorem OI.first {i : Int} {x : Int} {t : List Int} {v : Vec Int 256} (h : OI i (x :: t) fun b => v.l.getD b 0) {o : Int} (ho : Oldest v 256 o) : o = x := by
  have hx := h.rng x (List.mem_cons_self ..)
  have hux : 0 < v.l.getD x.toNat 0 := (h.mem x.toNat (by omega)).2 (by rw [show ((x.toNat : Nat) : Int) = x by omega]; exact List.mem_cons_self ..)
  have hmx : x.toNat ∈ usedL v 256 := by unfold usedL; rw [List.mem_filter, List.mem_range, decide_eq_true_eq]; exact ⟨by omega, hux⟩
  rcases ho with ⟨-, ho⟩ | ⟨b, rfl, hb, hmin⟩
  · rw [ho] at hmx; cases hmx
  · have hb' := hb
    unfold usedL at hb'
    rw [List.mem_filter, List.mem_range, decide_eq_true_eq] at hb'
    have hbl := (h.mem b hb'.1).1 hb'.2
    rcases List.mem_cons.1 hbl with e | hbt
    · exact e
    · have h1 := (List.pairwise_cons.1 h.ord).1 (b : Int) hbt
      have h2 := hmin x.toNat hmx
      simp only [Int.toNat_natCast] at h1
      omega
end Go.Proofs.Ytjnlpphnaldjeaa.Tr
