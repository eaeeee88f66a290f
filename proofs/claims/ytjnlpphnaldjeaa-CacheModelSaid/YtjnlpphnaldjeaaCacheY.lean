/- The laws of the cache, in plain Lean: the model, the law. Conditions: none. -/
import Derived.Test.YtjnlpphnaldjeaaCacheX
namespace Go.Proofs.Ytjnlpphnaldjeaa.Tr
open Go
set_option linter.unusedVariables false
set_option linter.unusedSimpArgs false

theorem model_step {l : List bywaylaw13_Do} {m : Nat} (hm : 1 ≤ m) (hm2 : m ≤ 20) {i : Nat} (hi : i < l.length) (h150 : i < 150) {k : Kept} {vals : Vec UInt8 256} {used : Vec Int 256} (h : MI m i k vals used) :
    ∃ k' vals' used', bywaylaw13_CacheModel_l1 l (m : Int) (i : Int) k vals used = some (.inl (((i + 1 : Nat) : Int), k', vals', used')) ∧ MI m ((i + 1 : Nat) : Int) k' vals' used' := by
  unfold bywaylaw13_CacheModel_l1
  have hadd : addI (i : Int) 1 = some ((i : Int) + 1) := addI_ok (by omega) (by omega)
  rw [show (decide ((i : Int) < (l.length : Int)) && decide ((i : Int) < 150)) = true by simp; omega, cond_t, idx_nat hi, bind_s, bind_s]
  have hid := (l[i]).Id.toNat_lt
  have hvi : idx used.l ((l[i]).Id.toNat : Int) = some (used.l.getD (l[i]).Id.toNat 0) := vec_idx used hid
  have hin := h.oi.mem (l[i]).Id.toNat hid
  have hle := h.oi.le (l[i]).Id.toNat hid
  cases hk0 : decide ((l[i]).Kind % UInt8.ofNat 3 = UInt8.ofNat 0) with
  | true =>
    obtain ⟨o, ho, hO⟩ := model_old used
    rw [cond_t, ho, bind_s, el2_at, hvi, bind_s]
    have hcnt := h.oi.cnt
    rw [List.length_map] at hcnt
    have hkeep := keep_right (x := ⟨((l[i]).Id.toNat : Int), [(l[i]).Val]⟩) h.kw (by simp) h.kr (by simp)
    have hlm : k.Items.length ≤ m := by have := h.kr.1.2.2; have := h.most; omega
    have hvv : idx vals.l ((l[i]).Id.toNat : Int) = some (vals.l.getD (l[i]).Id.toNat default) := by
      have := vals.h
      rw [idx_nat (by omega), List.getD_eq_getElem?_getD, List.getElem?_eq_getElem (by omega)]; rfl
    by_cases hc : (without k.Items ((l[i]).Id.toNat : Int)).length = m
    · obtain ⟨q, hq, rfl, hne, hM⟩ := h.keepB hm (l[i]).Id (l[i]).Val hc hO
      have hu0 : used.l.getD (l[i]).Id.toNat 0 = 0 := by
        by_cases hb : 0 < used.l.getD (l[i]).Id.toNat 0
        · have h1 := filter_len h.oi.nodup (hin.1 hb)
          rw [← without_ids, List.length_map, List.length_map, hc] at h1
          omega
        · omega
      have hkl : k.Items.length = m := by
        have := without_len (l := k.Items) (id := ((l[i]).Id.toNat : Int)); omega
      rw [show (decide (used.l.getD (l[i]).Id.toNat 0 = 0) && decide (((usedL used 256).length : Int) = (m : Int))) = true by simp only [Bool.and_eq_true, decide_eq_true_eq]; exact ⟨hu0, by omega⟩, cond_t, vec_idx used hq, bind_s, bind_s, bind_s, bind_s, hkeep, bind_s, show decide ((0 : Int) ≠ 0) = false by decide, cond_f, bind_s, hadd, bind_s, hvv, bind_s, Int.toNat_natCast, Int.toNat_natCast, vec_idx _ hid, bind_s, bind_s, bind_s, bind_s, elS_inl, el3_at]
      exact ⟨_, _, _, (by
        have ht := hM.tail h150
        first | rw [ht] | (rw [hadd] at ht; rw [ht]) | (simp only [hadd, bind_s, ne_eq] at ht ⊢; exact ht)), hM⟩
    · have hM := h.keepA (l[i]).Id (l[i]).Val hc
      have hcf : (decide (used.l.getD (l[i]).Id.toNat 0 = 0) && decide (((usedL used 256).length : Int) = (m : Int))) = false := by
        cases hx : (decide (used.l.getD (l[i]).Id.toNat 0 = 0) && decide (((usedL used 256).length : Int) = (m : Int))) with
        | false => rfl
        | true =>
          simp only [Bool.and_eq_true, decide_eq_true_eq] at hx
          exfalso
          refine hc ?_
          rw [without_none fun j hj e => ?_]
          · omega
          · have := hin.2 (List.mem_map.2 ⟨_, List.getElem_mem hj, e⟩)
            omega
      rw [hcf, cond_f, bind_s, bind_s, hkeep, bind_s, show decide ((0 : Int) ≠ 0) = false by decide, cond_f, bind_s, hadd, bind_s, hvv, bind_s, Int.toNat_natCast, hvi, bind_s, bind_s, bind_s, bind_s, elS_inl, el3_at]
      exact ⟨_, _, _, (by
        have ht := hM.tail h150
        first | rw [ht] | (rw [hadd] at ht; rw [ht]) | (simp only [hadd, bind_s, ne_eq] at ht ⊢; exact ht)), hM⟩
  | false =>
    rw [cond_f]
    cases hk1 : decide ((l[i]).Kind % UInt8.ofNat 3 = UInt8.ofNat 1) with
    | true =>
      obtain ⟨r, e1, e2⟩ := look_right h.kr h.kw ((l[i]).Id.toNat : Int)
      rw [cond_t, e1, bind_s, hvi, bind_s]
      rcases e2 with ⟨j, hj, hjd, rfl⟩ | ⟨hno, rfl⟩
      · have hpos : 0 < used.l.getD (l[i]).Id.toNat 0 := hin.2 (List.mem_map.2 ⟨_, List.getElem_mem hj, hjd⟩)
        have hbody := h.val _ (List.getElem_mem hj)
        rw [hjd, Int.toNat_natCast] at hbody
        have hvv : idx vals.l ((l[i]).Id.toNat : Int) = some (vals.l.getD (l[i]).Id.toNat 0) := by
          have := vals.h
          rw [idx_nat (by omega), List.getD_eq_getElem?_getD, List.getElem?_eq_getElem (by omega)]; rfl
        have hM := h.look (l[i]).Id hj hjd
        have hi0 : idx [vals.l.getD (l[i]).Id.toNat 0] (0 : Int) = some (vals.l.getD (l[i]).Id.toNat 0) := rfl
        simp only [hbody, decide_eq_true (show used.l.getD (l[i]).Id.toNat 0 > 0 from hpos), ne_eq, not_true_eq_false, decide_false, Bool.not_false, Bool.true_and, List.length_singleton, Int.ofNat_one, gb_true, hi0, hvv, bind_s, Bool.false_or, cond_f, cond_t, hadd, hvi, Int.toNat_natCast, elS_inl, el3_at, Bool.and_false]
        exact ⟨_, _, _, (by
        have ht := hM.tail h150
        first | rw [ht] | (rw [hadd] at ht; rw [ht]) | (simp only [hadd, bind_s, ne_eq] at ht ⊢; exact ht)), hM⟩
      · have hnp : ¬ 0 < used.l.getD (l[i]).Id.toNat 0 := fun hp => by
          obtain ⟨x, hx, hxe⟩ := List.mem_map.1 (hin.1 hp)
          obtain ⟨j, hj, rfl⟩ := List.getElem_of_mem hx
          exact hno j hj hxe
        have hM : MI m ((i : Int) + 1) k vals used := ⟨h.kr, h.most, h.oi.mono (by omega), h.val⟩
        simp only [decide_eq_false (show ¬ used.l.getD (l[i]).Id.toNat 0 > 0 from hnp), ne_eq, not_true_eq_false, decide_false, Bool.not_false, Bool.true_and, Bool.and_false, Bool.false_and, gb_false, bind_s, Bool.false_or, cond_f, elS_inl, el3_at]
        exact ⟨_, _, _, (by
        have ht := hM.tail h150
        first | rw [ht] | (rw [hadd] at ht; rw [ht]) | (simp only [hadd, bind_s, ne_eq] at ht ⊢; exact ht)), hM⟩
    | false =>
      have hM := h.forget (l[i]).Id
      rw [cond_f, (forget_eq h.kw ((l[i]).Id.toNat : Int) (fun hr => by have := hr.1; omega)).1 h.kr, bind_s, hvi, bind_s, bind_s, bind_s, Int.toNat_natCast, elS_inl, el3_at]
      exact ⟨_, _, _, (by
        have ht := hM.tail h150
        first | rw [ht] | (rw [hadd] at ht; rw [ht]) | (simp only [hadd, bind_s, ne_eq] at ht ⊢; exact ht)), hM⟩
theorem cacheModel_plain {most : UInt8} {l : List bywaylaw13_Do} (w0 : Dat.wf most) (w1 : Dat.wf l) : bywaylaw13_CacheModel most l = some true := by
  unfold bywaylaw13_CacheModel
  rw [cache_awake_eq, bind_s, Bool.not_true, cond_f]
  have h20 : (most % UInt8.ofNat 20).toNat < 20 := by
    rw [UInt8.toNat_mod]
    exact Nat.mod_lt _ (by decide)
  generalize (most % UInt8.ofNat 20).toNat = q at *
  rw [addI_nat (by omega), bind_s, new_eq, bind_s, if_pos ⟨by omega, by omega⟩, show decide ((0 : Int) ≠ 0) = false by decide, cond_f]
  obtain ⟨e, he, hQ⟩ := loopO_inv (f := fun s => bywaylaw13_CacheModel_l1 l ((q + 1 : Nat) : Int) s.1 s.2.1 s.2.2.1 s.2.2.2) (I := fun s => ∃ i : Nat, s.1 = i ∧ i ≤ 150 ∧ MI (q + 1) i s.2.1 s.2.2.1 s.2.2.2) (μ := fun s => (150 - s.1).toNat) (R := fun e => e = .inl ()) (by
    rintro ⟨x, k, vals, used⟩ ⟨i, hx, hil, hM⟩
    obtain rfl : x = i := hx
    by_cases hc : i < l.length ∧ i < 150
    · left
      obtain ⟨k', vals', used', h1, h2⟩ := model_step (by omega) (by omega) hc.1 hc.2 hM
      exact ⟨_, h1, ⟨i + 1, rfl, by omega, h2⟩, by simp only; omega⟩
    · right
      refine ⟨.inl (), ?_, rfl⟩
      unfold bywaylaw13_CacheModel_l1
      rw [show (decide ((i : Int) < (l.length : Int)) && decide ((i : Int) < 150)) = false by simp; omega, cond_f]) (s := ((0 : Int), (⟨((q + 1 : Nat) : Int), []⟩ : Kept), Dat.z, Dat.z)) ⟨0, rfl, by omega, ⟨⟨by simp only; omega, by simp only; omega, by simp only [List.length_nil]; omega⟩, fun i hi => by simp at hi⟩, rfl, ⟨fun b hb => by
      show 0 < (Vec.rep 256 (Dat.z : Int)).l.getD b 0 ↔ _
      simp only [Vec.rep, List.getD_eq_getElem?_getD]
      rw [List.getElem?_replicate, if_pos hb]
      simp; exact Int.le_refl _, fun x hx => by simp at hx, fun b hb => by
      show 0 ≤ (Vec.rep 256 (Dat.z : Int)).l.getD b 0 ∧ (Vec.rep 256 (Dat.z : Int)).l.getD b 0 ≤ _
      simp only [Vec.rep, List.getD_eq_getElem?_getD]
      rw [List.getElem?_replicate, if_pos hb]
      exact ⟨Int.le_refl _, Int.le_refl _⟩, List.Pairwise.nil⟩, fun x hx => by simp at hx⟩ (by simp only; omega)
  rw [he, bind_s, hQ, elS_inl]
end Go.Proofs.Ytjnlpphnaldjeaa.Tr
