/- The laws of roots, in plain Lean. Conditions: none. -/
import Derived.Test.YtfdmajkeihdhnaaRootE
namespace Go.Proofs.Ytfdmajkeihdhnaa.Tr
open Go
set_option linter.unusedVariables false
set_option linter.unusedSimpArgs false

theorem root_awake_eq : bywaylaw10_awake = some true := by decide +kernel
/-! ### the newest -/
structure NSt where
  at_ : Int
  found : Bool
  blank : Bool
  newest : Roots
def allFF (b : List UInt8) : Bool := decide (∀ x ∈ b, x = 255)
def takes (st : NSt) (b : List UInt8) : Bool := decide ((RReadV b).2 = 0) && (!st.found || decide (st.newest.Gen ≤ (RReadV b).1.Gen))
def nstep (i : Int) (st : NSt) (b : List UInt8) : NSt :=
  if takes st b then ⟨i, true, st.blank && allFF b, (RReadV b).1⟩ else ⟨st.at_, st.found, st.blank && allFF b, st.newest⟩
def nfold (k : Nat) (st : NSt) (l : List (List UInt8)) : NSt := l.zipIdx.foldl (fun st p => nstep ((k + p.2 : Nat) : Int) st p.1) st
def nOut (st : NSt) : Int × Roots × Int := if st.found then (st.at_, st.newest, 0) else if st.blank then (0, Root0, 6) else (0, Root0, 2)
def N0 : NSt := ⟨0, false, true, Root0⟩
def NewestV (l : List (List UInt8)) : Int × Roots × Int := nOut (nfold 0 N0 l)
theorem nfold_append (k : Nat) (st : NSt) (l : List (List UInt8)) (b : List UInt8) : nfold k st (l ++ [b]) = nstep ((k + l.length : Nat) : Int) (nfold k st l) b := by
  unfold nfold
  rw [List.zipIdx_append, List.foldl_append]; simp
theorem nfold_cons (k : Nat) (st : NSt) (l : List (List UInt8)) (b : List UInt8) : nfold k st (b :: l) = nfold (k + 1) (nstep (k : Int) st b) l := by
  unfold nfold
  rw [List.zipIdx_cons, List.foldl_cons, List.zipIdx_succ, List.foldl_map]
  simp only [Nat.add_zero]
  congr 1
  funext st p
  rw [show k + (p.2 + 1) = k + 1 + p.2 by omega]
theorem nfold_take {l : List (List UInt8)} {i : Nat} (h : i < l.length) : nfold 0 N0 (l.take (i + 1)) = nstep (i : Int) (nfold 0 N0 (l.take i)) l[i] := by
  rw [take_step h, nfold_append]
  simp [Nat.min_eq_left (Nat.le_of_lt h)]
theorem root_Newest_eq (l : List (List UInt8)) (hl : l.length ≤ 1000) (hb : ∀ b ∈ l, b.length ≤ 1000000000000000) : root_Newest l = some (NewestV l) := by
  unfold root_Newest NewestV
  rw [bind_s]
  refine (bind_of (loopO_iter (fun i => ((nfold 0 N0 (l.take i)).at_, (nfold 0 N0 (l.take i)).found, (nfold 0 N0 (l.take i)).blank, (i : Int), (nfold 0 N0 (l.take i)).newest)) l.length
    (e := ((nfold 0 N0 l).at_, (nfold 0 N0 l).found, (nfold 0 N0 l).blank, (nfold 0 N0 l).newest)) (by omega) (fun i hi => ?_) ?_ rfl)).trans ?_
  · unfold root_Newest_l1
    dsimp only
    rw [lt_t hi, cond_t, idx_nat hi, bind_s, gb_of2 (page_Blank_eq _ (hb _ (List.getElem_mem hi))), bind_s, root_Read_eq, bind_s, nfold_take hi]
    generalize nfold 0 N0 (l.take i) = st
    have eb : (st.blank && (bif st.blank then decide (∀ x ∈ l[i], x = 255) else default)) = (st.blank && allFF l[i]) := by cases st.blank <;> rfl
    rw [eb]
    have et : ((decide ((RReadV l[i]).2 = (0 : Int))) && ((!st.found) || (decide (st.newest.Gen ≤ (RReadV l[i]).1.Gen)))) = takes st l[i] := rfl
    rw [et]
    unfold nstep
    cases takes st l[i] with
    | true => rw [cond_t, bind_s, el4_at, addI_1 (by omega), bind_s]; rfl
    | false => rw [cond_f, bind_s, el4_at, addI_1 (by omega), bind_s]; rfl
  · unfold root_Newest_l1
    dsimp only
    rw [lt_f, cond_f, List.take_length]
  · rw [el4_at]
    generalize nfold 0 N0 l = st
    unfold nOut
    cases hf : st.found with
    | true => rw [cond_t]; rfl
    | false =>
      rw [cond_f]
      cases hb : st.blank with
      | true => rw [cond_t, bind_s]; rfl
      | false => rw [cond_f, bind_s]; rfl

/-- what is known of the newest of a list -/
structure NInv (l : List (List UInt8)) (st : NSt) : Prop where
  no : st.found = false → st.at_ = 0 ∧ st.newest = Root0 ∧ ∀ i, (hi : i < l.length) → (RReadV l[i]).2 ≠ 0
  yes : st.found = true → ∃ k : Nat, st.at_ = k ∧ ∃ hk : k < l.length, RReadV l[k] = (st.newest, 0) ∧ ∀ i, (hi : i < l.length) → (RReadV l[i]).2 = 0 → (RReadV l[i]).1.Gen ≤ st.newest.Gen ∧ (k < i → (RReadV l[i]).1.Gen ≠ st.newest.Gen)
theorem ninv (l : List (List UInt8)) : ∀ n, n ≤ l.length → NInv (l.take n) (nfold 0 N0 (l.take n)) := by
  intro n
  induction n with
  | zero => intro _; exact ⟨fun _ => ⟨rfl, rfl, fun i hi => by simp at hi⟩, fun h => by simp [nfold, N0] at h⟩
  | succ n ih =>
    intro hn
    have ih := ih (by omega)
    rw [nfold_take (by omega)]
    generalize nfold 0 N0 (l.take n) = st at ih
    have hlen : (l.take n).length = n := by simp; omega
    have hlen1 : (l.take (n + 1)).length = n + 1 := by simp; omega
    have at1 : ∀ i (h1 : i < (l.take (n + 1)).length) (h2 : i < n), (l.take (n + 1))[i] = (l.take n)[i]'(by omega) := fun i h1 h2 => by rw [List.getElem_take, List.getElem_take]
    have atn : ∀ (h1 : n < (l.take (n + 1)).length), (l.take (n + 1))[n] = l[n] := fun h1 => by rw [List.getElem_take]
    unfold nstep
    cases ht : takes st l[n] with
    | true =>
      rw [if_pos rfl]
      unfold takes at ht
      simp only [Bool.and_eq_true, decide_eq_true_eq, Bool.or_eq_true, Bool.not_eq_true'] at ht
      obtain ⟨t1, t2⟩ := ht
      refine ⟨fun h => by simp at h, fun _ => ⟨n, rfl, by omega, ?_, fun i hi ho => ?_⟩⟩
      · rw [atn (by omega)]; exact Prod.ext rfl t1
      · dsimp only
        rcases (by omega : i < n ∨ i = n) with h | h
        · rw [at1 i hi h] at ho ⊢
          refine ⟨?_, fun hc => by omega⟩
          rcases t2 with t2 | t2
          · exact absurd ho ((ih.no t2).2.2 i (by omega))
          · cases hf : st.found with
            | false => exact absurd ho ((ih.no hf).2.2 i (by omega))
            | true =>
              obtain ⟨k, -, hk, -, hmax⟩ := ih.yes hf
              exact UInt64.le_trans (hmax i (by omega) ho).1 t2
        · subst h
          refine ⟨?_, fun hc => by omega⟩
          rw [atn hi]
          exact UInt64.le_refl _
    | false =>
      rw [if_neg (by decide)]
      unfold takes at ht
      refine ⟨fun h => ?_, fun h => ?_⟩
      · dsimp only at h ⊢
        obtain ⟨q1, q2, q3⟩ := ih.no h
        refine ⟨q1, q2, fun i hi ho => ?_⟩
        rcases (by omega : i < n ∨ i = n) with hc | hc
        · rw [at1 i hi hc] at ho; exact q3 i (by omega) ho
        · subst hc
          rw [atn hi] at ho
          rw [h] at ht
          simp [ho] at ht
      · dsimp only at h ⊢
        obtain ⟨k, e1, hk, e2, hmax⟩ := ih.yes h
        refine ⟨k, e1, by omega, ?_, fun i hi ho => ?_⟩
        · rw [at1 k (by omega) (by omega)]; exact e2
        · rcases (by omega : i < n ∨ i = n) with hc | hc
          · rw [at1 i hi hc] at ho ⊢; exact hmax i (by omega) ho
          · subst hc
            rw [atn hi] at ho ⊢
            rw [h] at ht
            simp only [ho, decide_true, Bool.not_true, Bool.false_or, Bool.true_and, decide_eq_false_iff_not, UInt64.not_le] at ht
            exact ⟨UInt64.le_of_lt ht, fun _ he => by rw [he] at ht; exact absurd ht (UInt64.lt_irrefl _)⟩

/-- one put ahead of all others -/
def Ahead (r : Roots) (s0 s1 : NSt) : Prop :=
  s1.found = true ∧ (s0.found = false ∨ s0.newest.Gen < r.Gen → s1.at_ = 0 ∧ s1.newest = r) ∧ (¬ (s0.found = false ∨ s0.newest.Gen < r.Gen) → s1.at_ = s0.at_ + 1 ∧ s1.newest = s0.newest)
theorem ahead_step {r : Roots} {s0 s1 : NSt} (h : Ahead r s0 s1) (i : Int) (b : List UInt8) : Ahead r (nstep i s0 b) (nstep (i + 1) s1 b) := by
  obtain ⟨h1, h2, h3⟩ := h
  unfold nstep
  by_cases ho : (RReadV b).2 = 0
  · by_cases hc : s0.found = false ∨ s0.newest.Gen < r.Gen
    · obtain ⟨a1, a2⟩ := h2 hc
      by_cases hq : r.Gen ≤ (RReadV b).1.Gen
      · have t1 : takes s1 b = true := by unfold takes; simp [ho, h1, a2, hq]
        have t0 : takes s0 b = true := by
          unfold takes
          rcases hc with hc | hc
          · simp [ho, hc]
          · simp [ho, UInt64.le_trans (UInt64.le_of_lt hc) hq]
        rw [if_pos t1, if_pos t0]
        refine ⟨rfl, fun hh => ?_, fun _ => ⟨rfl, rfl⟩⟩
        rcases hh with hh | hh
        · cases hh
        · exact absurd hh (UInt64.not_lt.2 hq)
      · have t1 : takes s1 b = false := by unfold takes; simp [ho, h1, a2, hq]
        rw [if_neg (show ¬ takes s1 b = true by simp [t1])]
        split
        · refine ⟨h1, fun _ => ⟨a1, a2⟩, fun hh => absurd (.inr (UInt64.not_le.1 hq)) hh⟩
        · exact ⟨h1, fun _ => ⟨a1, a2⟩, fun hh => absurd hc hh⟩
    · obtain ⟨a1, a2⟩ := h3 hc
      have hf : s0.found = true := by cases hf : s0.found with
        | true => rfl
        | false => exact absurd (.inl hf) hc
      have hg : r.Gen ≤ s0.newest.Gen := UInt64.not_lt.1 fun h => hc (.inr h)
      have e : takes s1 b = takes s0 b := by unfold takes; rw [h1, hf, a2]
      rw [e]
      by_cases t : takes s0 b = true
      · rw [if_pos t, if_pos t]
        refine ⟨rfl, fun hh => ?_, fun _ => ⟨rfl, rfl⟩⟩
        unfold takes at t
        simp only [ho, hf, decide_true, Bool.not_true, Bool.false_or, Bool.true_and, decide_eq_true_eq] at t
        rcases hh with hh | hh
        · cases hh
        · exact absurd (UInt64.le_trans hg t) (UInt64.not_le.2 hh)
      · rw [if_neg t, if_neg t]
        exact ⟨h1, fun hh => absurd hh hc, fun _ => ⟨a1, a2⟩⟩
  · have t0 : takes s0 b = false := by unfold takes; simp [ho]
    have t1 : takes s1 b = false := by unfold takes; simp [ho]
    rw [if_neg (by simp [t0]), if_neg (by simp [t1])]
    exact ⟨h1, h2, h3⟩
theorem ahead_all {r : Roots} {b : List UInt8} (hb : RReadV b = (r, 0)) (l : List (List UInt8)) : ∀ n, n ≤ l.length → Ahead r (nfold 0 N0 (l.take n)) (nfold 0 N0 (b :: l.take n)) := by
  intro n
  induction n with
  | zero =>
    intro _
    have e : nfold 0 N0 (b :: l.take 0) = ⟨0, true, true && allFF b, r⟩ := by
      rw [nfold_cons]
      unfold nfold nstep takes
      simp [hb, N0]
    rw [e]
    exact ⟨rfl, fun _ => ⟨rfl, rfl⟩, fun h => absurd (.inl rfl) h⟩
  | succ n ih =>
    intro hn
    have ih := ih (by omega)
    have e : b :: l.take (n + 1) = (b :: l.take n) ++ [l[n]] := by rw [take_step (by omega)]; rfl
    rw [e, nfold_append, nfold_take (by omega)]
    have e2 : ((0 + (b :: l.take n).length : Nat) : Int) = (n : Int) + 1 := by simp; omega
    rw [e2]
    exact ahead_step ih _ _
end Go.Proofs.Ytfdmajkeihdhnaa.Tr
