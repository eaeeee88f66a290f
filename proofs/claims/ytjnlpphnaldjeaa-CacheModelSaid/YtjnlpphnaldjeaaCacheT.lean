/- The laws of the cache, in plain Lean: the last ones kept, the law. Conditions: none. -/
import Derived.Test.YtjnlpphnaldjeaaCacheS
namespace Go.Proofs.Ytjnlpphnaldjeaa.Tr
open Go
set_option linter.unusedVariables false
set_option linter.unusedSimpArgs false

def nums (l : List UInt8) : List Int := l.map fun b => (b.toNat : Int)
theorem last_keep {ids : List UInt8} {m : Nat} (hm : 1 ≤ m) (hm2 : m ≤ 20) (hl : ids.length ≤ 100) :
    ∃ k, loopO (fun s => bywaylaw13_CacheLast_l1 ids s.1 s.2) ((0 : Int), (⟨(m : Int), []⟩ : Kept)) = some k ∧ KR k ∧ k.Items.map (·.Id) = lastN m (lastU (nums ids)) := by
  obtain ⟨e, he, hQ⟩ := loopO_inv (f := fun s => bywaylaw13_CacheLast_l1 ids s.1 s.2) (I := fun s => ∃ i : Nat, s.1 = i ∧ i ≤ ids.length ∧ s.2.Most = m ∧ KR s.2 ∧ (∀ x ∈ s.2.Items, x.Body.length ≤ 1) ∧ s.2.Items.map (·.Id) = lastN m (lastU (nums (ids.take i)))) (μ := fun s => (ids.length - s.1).toNat)
    (R := fun k => KR k ∧ k.Items.map (·.Id) = lastN m (lastU (nums ids))) (by
    rintro ⟨x, k⟩ ⟨i, hx, hil, hkm, hkr, hkb, hki⟩
    obtain rfl : x = i := hx
    simp only at hkm hkr hkb hki
    unfold bywaylaw13_CacheLast_l1
    by_cases hx : i < ids.length
    · have hl3 := hkr.1.2.2
      have hw : KW k.Items := ⟨by omega, fun y hy => by have := hkb y hy; omega⟩
      have hk := keep_right (x := ⟨((ids[i]).toNat : Int), [UInt8.ofInt (i : Int)]⟩) hw (by simp) hkr (by simp)
      rw [show decide ((i : Int) < (ids.length : Int)) = true by simpa using hx, cond_t, idx_nat hx, bind_s, hk, bind_s, addI_nat (show i < 9223372036854775807 by omega), bind_s]
      left
      refine ⟨_, rfl, ⟨i + 1, rfl, by omega, hkm, keep_KR hkr (by simp), fun y hy => ?_, ?_⟩, by simp only; omega⟩
      · rcases keep_mem hy with hy | rfl
        · exact hkb y hy
        · simp
      · simp only
        rw [keep_ids (m := m) hkm, hki, kid_lastN hm lastU_nodup, ← lastU_app]
        congr 2
        show nums (ids.take i) ++ [((ids[i]).toNat : Int)] = nums (ids.take (i + 1))
        rw [← List.take_append_getElem hx]
        unfold nums
        rw [List.map_append]; rfl
    · rw [show decide ((i : Int) < (ids.length : Int)) = false by simp; omega, cond_f]
      rw [List.take_of_length_le (by omega)] at hki
      exact .inr ⟨_, rfl, hkr, hki⟩) (s := ((0 : Int), (⟨(m : Int), []⟩ : Kept))) ⟨0, rfl, by omega, rfl, ⟨⟨by simp only; omega, by simp only; omega, by simp⟩, fun i hi => by simp at hi⟩, fun x hx => by simp at hx, by simp [nums, lastU, lastN]⟩ (by simp only; omega)
  exact ⟨e, he, hQ⟩
theorem last_want {ids : List UInt8} {m : Nat} (hm : 1 ≤ m) (hm2 : m ≤ 20) (hl : ids.length ≤ 100) :
    loopO (fun s => bywaylaw13_CacheLast_l2 ids (m : Int) s.1 s.2.1 s.2.2) (([] : List Int), (ids.length : Int) - 1, (Dat.z : Vec Bool 256)) = some (lastN m (lastU (nums ids))) := by
  obtain ⟨e, he, hQ⟩ := loopO_inv (f := fun s => bywaylaw13_CacheLast_l2 ids (m : Int) s.1 s.2.1 s.2.2)
    (I := fun s => ∃ i : Nat, s.2.1 = (i : Int) - 1 ∧ i ≤ ids.length ∧ s.1.length ≤ m ∧ s.1 = lastU (nums (ids.drop i)) ∧ ∀ b : UInt8, s.2.2.l[b.toNat]? = some (decide ((b.toNat : Int) ∈ nums (ids.drop i))))
    (μ := fun s => (s.2.1 + 1).toNat) (R := fun e => e = lastN m (lastU (nums ids))) (by
    rintro ⟨want, x, seen⟩ ⟨i, hx, hil, hwl, hw, hs⟩
    simp only at hx hwl hw hs
    subst hx
    unfold bywaylaw13_CacheLast_l2
    dsimp only
    by_cases hc : 0 < i ∧ want.length < m
    · obtain ⟨i, rfl⟩ : ∃ q, i = q + 1 := ⟨i - 1, by omega⟩
      have hi : i < ids.length := by omega
      have hd : ids.drop i = ids[i] :: ids.drop (i + 1) := List.drop_eq_getElem_cons hi
      have hb := hs ids[i]
      have h256 := seen.h
      have hlt : (ids[i]).toNat < seen.l.length := (List.getElem?_eq_some_iff.1 hb).1
      have hidx : idx seen.l ((ids[i]).toNat : Int) = some (decide (((ids[i]).toNat : Int) ∈ nums (ids.drop (i + 1)))) := by
        rw [idx_nat hlt]; rw [List.getElem?_eq_getElem hlt] at hb; exact hb
      rw [show (((i + 1 : Nat) : Int) - 1) = (i : Int) by omega, show (decide ((i : Int) ≥ (0 : Int)) && decide ((want.length : Int) < (m : Int))) = true by simp; omega, cond_t, idx_nat hi, bind_s, hidx, bind_s]
      left
      have hn : nums (ids.drop i) = ((ids[i]).toNat : Int) :: nums (ids.drop (i + 1)) := by rw [hd]; rfl
      by_cases hmem : ((ids[i]).toNat : Int) ∈ nums (ids.drop (i + 1))
      · rw [decide_eq_true hmem, Bool.not_true, cond_f, bind_s, el2_at, subI_ok (a := (i : Int)) (b := 1) (by omega) (by omega), bind_s]
        refine ⟨_, rfl, ⟨i, by simp only, by omega, hwl, ?_, fun b => ?_⟩, by simp only; omega⟩
        · simp only; rw [hn, hw]; unfold lastU; rw [if_pos hmem]; cases nums (ids.drop (i + 1)) <;> rfl
        · simp only; rw [hs b, hn]
          congr 1
          rw [decide_eq_decide, List.mem_cons]
          exact ⟨.inr, fun h => h.elim (fun e => e ▸ hmem) id⟩
      · have hlu : lastU (nums (ids.drop i)) = ((ids[i]).toNat : Int) :: want := by
          rw [hn, hw]; conv => lhs; unfold lastU
          rw [if_neg hmem]
        have hroom : room 8 ((([((ids[i]).toNat : Int)] : List Int).length + want.length : Nat) : Int) = some () := room_ok (by omega) (by simp only [List.length_singleton]; omega) (by simp only [List.length_singleton]; omega)
        have hsub : subI (i : Int) 1 = some ((i : Int) - 1) := subI_ok (by omega) (by omega)
        rw [decide_eq_false hmem, Bool.not_false, cond_t]
        simp only [bind_s, hidx, hroom, el2_at, hsub, Int.toNat_natCast]
        refine ⟨_, rfl, ⟨i, by simp only, by omega, by simp; omega, by simp only; rw [hlu]; rfl, fun b => ?_⟩, by simp only; omega⟩
        simp only [Vec.set]
        by_cases e : (ids[i]).toNat = b.toNat
        · rw [e, List.getElem?_set_self (by rw [← e]; exact hlt), hn, e]; simp
        · rw [List.getElem?_set_ne e, hs b, hn]
          congr 1
          rw [decide_eq_decide, List.mem_cons]
          exact ⟨.inr, fun h => h.elim (fun e' => absurd (by omega) e) id⟩
    · rw [show (decide (((i : Int) - 1) ≥ (0 : Int)) && decide ((want.length : Int) < (m : Int))) = false by simp; omega, cond_f]
      refine .inr ⟨_, rfl, ?_⟩
      by_cases hi0 : i = 0
      · subst hi0
        rw [List.drop_zero] at hw
        rw [← hw, lastN_all hwl]
      · have hwm : want.length = m := by omega
        obtain ⟨p, hp⟩ := lastU_pre (nums (ids.take i)) (nums (ids.drop i))
        have : nums ids = nums (ids.take i) ++ nums (ids.drop i) := by unfold nums; rw [← List.map_append, List.take_append_drop]
        rw [this, hp, ← hw, lastN_app hwm]) (s := (([] : List Int), (ids.length : Int) - 1, (Dat.z : Vec Bool 256))) ⟨ids.length, rfl, Nat.le_refl _, by simp, by simp [nums, lastU], fun b => by
      rw [List.drop_length]
      show (Vec.rep 256 (Dat.z : Bool)).l[b.toNat]? = _
      have := b.toNat_lt
      simp only [Vec.rep]
      rw [List.getElem?_replicate, if_pos (by omega)]
      simp [nums]; rfl⟩ (by simp only; omega)
  rw [he, hQ]
theorem ints_eq (a b : List Int) (h : a.length ≤ 1000) : bywayref08_Ints a b = some (decide (a = b)) := by
  unfold bywayref08_Ints
  by_cases hl : a.length = b.length
  · rw [show decide ((a.length : Int) ≠ (b.length : Int)) = false by simp; omega, cond_f]
    obtain ⟨e, he, hQ⟩ := loopO_inv (f := fun s => bywayref08_Ints_l1 a b s) (I := fun s => ∃ i : Nat, s = i ∧ i ≤ a.length ∧ ∀ j, (hj : j < a.length) → j < i → b[j]? = some a[j]) (μ := fun s => (a.length - s).toNat)
      (R := fun e => (e = .inl () ∧ a = b) ∨ (e = .inr false ∧ a ≠ b)) (by
      rintro x ⟨i, rfl, hil, hI⟩
      unfold bywayref08_Ints_l1
      by_cases hx : i < a.length
      · have hb : i < b.length := by omega
        rw [show decide ((i : Int) < (a.length : Int)) = true by simpa using hx, cond_t, idx_nat hx, bind_s, idx_nat hb, bind_s, addI_nat (by omega), bind_s]
        by_cases e : a[i] = b[i]
        · left
          refine ⟨_, by rw [show decide (a[i] ≠ b[i]) = false by simpa using e, cond_f], ⟨i + 1, rfl, by omega, fun j hj hji => ?_⟩, by omega⟩
          by_cases e' : j = i
          · subst e'; rw [List.getElem?_eq_getElem hb, e]
          · exact hI j hj (by omega)
        · exact .inr ⟨_, by rw [show decide (a[i] ≠ b[i]) = true by simpa using e, cond_t], .inr ⟨rfl, fun h => e (by simp only [h])⟩⟩
      · rw [show decide ((i : Int) < (a.length : Int)) = false by simp; omega, cond_f]
        refine .inr ⟨_, rfl, .inl ⟨rfl, ?_⟩⟩
        apply List.ext_getElem?
        intro j
        by_cases hj : j < a.length
        · rw [hI j hj (by omega)]; simp [hj]
        · rw [List.getElem?_eq_none (by omega), List.getElem?_eq_none (by omega)]) (s := (0 : Int)) ⟨0, rfl, by omega, fun j _ hj => by omega⟩ (by omega)
    rw [he, bind_s]
    rcases hQ with ⟨rfl, hQ⟩ | ⟨rfl, hQ⟩
    · rw [elS_inl, decide_eq_true hQ]
    · rw [elS_inr, decide_eq_false hQ]
  · rw [show decide ((a.length : Int) ≠ (b.length : Int)) = true by simp; omega, cond_t, decide_eq_false (fun e : a = b => hl (by rw [e]))]
theorem cacheLast_plain {most : UInt8} {ids : List UInt8} (w0 : Dat.wf most) (w1 : Dat.wf ids) : bywaylaw13_CacheLast most ids = some true := by
  unfold bywaylaw13_CacheLast
  rw [cache_awake_eq, bind_s, Bool.not_true, cond_f]
  have h20 : (most % UInt8.ofNat 20).toNat < 20 := by
    rw [UInt8.toNat_mod]
    exact Nat.mod_lt _ (by decide)
  generalize (most % UInt8.ofNat 20).toNat = q at *
  rw [addI_nat (by omega), bind_s, new_eq, bind_s, if_pos ⟨by omega, by omega⟩]
  cases hc : decide ((ids.length : Int) > (100 : Int)) with
  | true => simp [cond_t]
  | false =>
    have hl : ids.length ≤ 100 := by simp at hc; omega
    obtain ⟨k, e1, e2, e3⟩ := last_keep (ids := ids) (m := q + 1) (by omega) (by omega) hl
    rw [show decide ((0 : Int) ≠ 0) = false by decide, Bool.false_or, cond_f, e1, bind_s, subI_ok (by omega) (by omega), bind_s, last_want (by omega) (by omega) hl, bind_s, (ids_eq k).1 e2, bind_s, e3]
    have hlen : (lastN (q + 1) (lastU (nums ids))).length ≤ 1000 := by
      unfold lastN; rw [List.length_drop]; omega
    rw [ints_eq _ _ hlen, bind_s, decide_eq_true rfl]
end Go.Proofs.Ytjnlpphnaldjeaa.Tr
