/- The laws of the cache, in plain Lean: the last ones kept. Conditions: none. -/
import Derived.Test.YtjnlpphnaldjeaaCacheR
namespace Go.Proofs.Ytjnlpphnaldjeaa.Tr
open Go
set_option linter.unusedVariables false
set_option linter.unusedSimpArgs false

/-! ### keeping leaves what is right -/
theorem kok_iff {l : List Item} : KOk l ↔ (∀ x ∈ l, 0 ≤ x.Id) ∧ (l.map (·.Id)).Nodup := by
  unfold List.Nodup
  rw [List.pairwise_iff_getElem]
  constructor
  · intro h
    refine ⟨fun x hx => ?_, fun i j hi hj hij => ?_⟩
    · obtain ⟨i, hi, rfl⟩ := List.getElem_of_mem hx; exact (h i hi).1
    · simp only [List.length_map] at hi hj
      simp only [List.getElem_map]
      exact (h j hj).2 i hi hij
  · rintro ⟨h1, h2⟩ i hi
    refine ⟨h1 _ (List.getElem_mem hi), fun j hj hji => ?_⟩
    have := h2 j i (by simpa using hj) (by simpa using hi) hji
    simpa using this
def kid (m : Nat) (a : List Int) (i : Int) : List Int := (if (a.filter fun x => decide (x ≠ i)).length = m then (a.filter fun x => decide (x ≠ i)).drop 1 else a.filter fun x => decide (x ≠ i)) ++ [i]
theorem without_ids {l : List Item} {id : Int} : (without l id).map (·.Id) = (l.map (·.Id)).filter fun x => decide (x ≠ id) := by
  unfold without
  rw [List.filter_map]
  rfl
theorem keep_ids {k : Kept} {x : Item} {m : Nat} (hm : k.Most = m) : (keepS k x).Items.map (·.Id) = kid m (k.Items.map (·.Id)) x.Id := by
  unfold keepS kid
  rw [← without_ids, List.length_map]
  by_cases h : ((without k.Items x.Id).length : Int) = k.Most
  · rw [if_pos h, if_pos (by omega)]; simp
  · rw [if_neg h, if_neg (by omega)]; simp
theorem keep_mem {k : Kept} {x y : Item} (h : y ∈ (keepS k x).Items) : y ∈ k.Items ∨ y = x := by
  unfold keepS at h
  simp only [List.mem_append, List.mem_singleton] at h
  rcases h with h | h
  · left
    have : y ∈ without k.Items x.Id := by
      split at h
      · exact List.mem_of_mem_drop h
      · exact h
    exact (List.mem_filter.1 this).1
  · exact .inr h
theorem keep_KR {k : Kept} {x : Item} (h : KR k) (hx : 0 ≤ x.Id) : KR (keepS k x) := by
  obtain ⟨⟨h1, h2, h3⟩, h4⟩ := h
  obtain ⟨h5, h6⟩ := kok_iff.1 h4
  have hw := without_len (l := k.Items) (id := x.Id)
  refine ⟨⟨h1, h2, ?_⟩, kok_iff.2 ⟨fun y hy => ?_, ?_⟩⟩
  · show ((keepS k x).Items.length : Int) ≤ k.Most
    unfold keepS
    split <;> simp <;> omega
  · rcases keep_mem hy with hy | rfl
    · exact h5 y hy
    · exact hx
  · rw [keep_ids (m := k.Most.toNat) (by omega)]
    unfold kid
    have hf : ((k.Items.map (·.Id)).filter fun y => decide (y ≠ x.Id)).Nodup := h6.sublist List.filter_sublist
    have hni : x.Id ∉ (k.Items.map (·.Id)).filter fun y => decide (y ≠ x.Id) := by simp
    refine List.nodup_append.2 ⟨?_, by simp, fun a ha b hb => ?_⟩
    · split
      · exact hf.sublist (List.drop_sublist _ _)
      · exact hf
    · obtain rfl : b = x.Id := by simpa using hb
      intro e
      subst e
      refine hni ?_
      split at ha
      · exact List.mem_of_mem_drop ha
      · exact ha

/-! ### the last unlike ones -/
def lastU : List Int → List Int
  | [] => []
  | b :: t => if b ∈ t then lastU t else b :: lastU t
theorem lastU_mem {x : Int} : ∀ {l : List Int}, x ∈ lastU l ↔ x ∈ l
  | [] => Iff.rfl
  | b :: t => by
    unfold lastU
    split
    · rename_i h
      rw [lastU_mem (l := t), List.mem_cons]
      exact ⟨.inr, fun h' => h'.elim (fun e => e ▸ h) id⟩
    · rw [List.mem_cons, lastU_mem (l := t), List.mem_cons]
theorem lastU_nodup : ∀ {l : List Int}, (lastU l).Nodup
  | [] => List.Pairwise.nil
  | b :: t => by
    unfold lastU
    split
    · exact lastU_nodup
    · rename_i h
      exact List.nodup_cons.2 ⟨fun h' => h (lastU_mem.1 h'), lastU_nodup⟩
theorem lastU_app (b : Int) : ∀ (l : List Int), lastU (l ++ [b]) = (lastU l).filter (fun x => decide (x ≠ b)) ++ [b]
  | [] => by simp [lastU]
  | c :: t => by
    have ih := lastU_app b t
    rw [List.cons_append]
    unfold lastU
    rw [ih]
    by_cases h1 : c ∈ t
    · rw [if_pos h1, if_pos (by simp [h1])]
    · rw [if_neg h1]
      by_cases h2 : c = b
      · subst h2
        rw [if_pos (by simp), List.filter_cons]; simp
      · rw [if_neg (by simp [h1, h2]), List.filter_cons, if_pos (by simpa using h2)]; rfl
theorem lastU_pre : ∀ (l s : List Int), ∃ p, lastU (l ++ s) = p ++ lastU s
  | [], s => ⟨[], rfl⟩
  | c :: t, s => by
    obtain ⟨p, hp⟩ := lastU_pre t s
    rw [List.cons_append, show lastU (c :: (t ++ s)) = if c ∈ t ++ s then lastU (t ++ s) else c :: lastU (t ++ s) from rfl]
    split
    · exact ⟨p, hp⟩
    · exact ⟨c :: p, by rw [hp]; rfl⟩
def lastN (m : Nat) (l : List Int) : List Int := l.drop (l.length - m)
theorem lastN_app {m : Nat} {p l : List Int} (h : l.length = m) : lastN m (p ++ l) = l := by
  unfold lastN
  rw [List.length_append, h, Nat.add_sub_cancel, List.drop_left']; rfl
theorem lastN_all {m : Nat} {l : List Int} (h : l.length ≤ m) : lastN m l = l := by
  unfold lastN
  rw [show l.length - m = 0 by omega]; rfl
theorem filter_len {l : List Int} {b : Int} (h : l.Nodup) (hb : b ∈ l) : (l.filter fun x => decide (x ≠ b)).length = l.length - 1 := by
  have e : (l.filter fun x => decide (x ≠ b)) = l.erase b := by
    rw [h.erase_eq_filter]
    refine List.filter_congr fun x _ => ?_
    simp [bne]
    rfl
  rw [e, List.length_erase_of_mem hb]
theorem filter_no {l : List Int} {b : Int} (hb : b ∉ l) : (l.filter fun x => decide (x ≠ b)) = l := by
  rw [List.filter_eq_self]
  intro x hx
  simp only [decide_eq_true_eq]
  exact fun e => hb (e ▸ hx)
theorem kid_lastN {m : Nat} (hm : 1 ≤ m) {L : List Int} (hn : L.Nodup) (b : Int) : kid m (lastN m L) b = lastN m (L.filter (fun x => decide (x ≠ b)) ++ [b]) := by
  unfold kid
  rcases Nat.lt_or_ge m L.length with hl | hl
  · -- more than so many
    have hA : (lastN m L).length = m := by unfold lastN; rw [List.length_drop]; omega
    have hL : L = L.take (L.length - m) ++ lastN m L := by unfold lastN; rw [List.take_append_drop]
    have hnA : (lastN m L).Nodup := by unfold lastN; exact hn.sublist (List.drop_sublist _ _)
    have e : L.filter (fun x => decide (x ≠ b)) = (L.take (L.length - m)).filter (fun x => decide (x ≠ b)) ++ (lastN m L).filter (fun x => decide (x ≠ b)) := by
      conv => lhs; rw [hL]
      rw [List.filter_append]
    by_cases hb : b ∈ lastN m L
    · have h1 := filter_len hnA hb
      rw [if_neg (by omega), e, List.append_assoc, lastN_app (by simp only [List.length_append, List.length_singleton, h1]; omega)]
    · have h1 := filter_no hb
      rw [h1] at e ⊢
      rw [if_pos hA, e]
      have h2 : lastN m L = (lastN m L).take 1 ++ (lastN m L).drop 1 := (List.take_append_drop 1 _).symm
      have h3 : (List.filter (fun x => decide (x ≠ b)) (L.take (L.length - m)) ++ lastN m L ++ [b]) = (List.filter (fun x => decide (x ≠ b)) (L.take (L.length - m)) ++ (lastN m L).take 1) ++ ((lastN m L).drop 1 ++ [b]) := by
        conv => lhs; rw [h2]
        simp [List.append_assoc]
      rw [h3, lastN_app (by simp only [List.length_append, List.length_drop, List.length_singleton]; omega)]
  · rw [lastN_all hl]
    have hfl : (L.filter fun x => decide (x ≠ b)).length ≤ L.length := List.length_filter_le ..
    by_cases h : (L.filter fun x => decide (x ≠ b)).length = m
    · rw [if_pos h]
      have h2 : (L.filter fun x => decide (x ≠ b)) = (L.filter fun x => decide (x ≠ b)).take 1 ++ (L.filter fun x => decide (x ≠ b)).drop 1 := (List.take_append_drop 1 _).symm
      conv => rhs; rw [h2]
      rw [List.append_assoc, lastN_app (by simp only [List.length_append, List.length_drop, List.length_singleton]; omega)]
    · rw [if_neg h, lastN_all (by simp only [List.length_append, List.length_singleton]; omega)]
end Go.Proofs.Ytjnlpphnaldjeaa.Tr
