/- The laws of roots. Conditions: none. -/
import Derived.Test.YtfdmajkeihdhnaaRootF
namespace Go.Proofs.Ytfdmajkeihdhnaa.Tr
open Go
set_option linter.unusedVariables false
set_option linter.unusedSimpArgs false

theorem nOut_found {st : NSt} (h : st.found = true) : nOut st = (st.at_, st.newest, 0) := by unfold nOut; rw [if_pos h]
theorem nOut_not {st : NSt} (h : st.found = false) : nOut st = (0, Root0, if st.blank then 6 else 2) := by unfold nOut; rw [h]; cases st.blank <;> rfl
theorem nOut_err {st : NSt} : (nOut st).2.2 = 0 ↔ st.found = true := by
  cases h : st.found with
  | true => rw [nOut_found h]; simp
  | false => rw [nOut_not h]; cases st.blank <;> simp
theorem roots_len (b : List UInt8) : (RReadV b).1.At.length ≤ 256 := by
  unfold RReadV
  split
  · show ([] : List Int).length ≤ 256; simp
  · split
    · show ([] : List Int).length ≤ 256; simp
    · split
      · show ([] : List Int).length ≤ 256; simp
      · show (numsOf (ReadV b).1.Body).length ≤ 256
        unfold numsOf
        have := read_body b
        simp; omega
theorem newest_len (l : List (List UInt8)) : (NewestV l).2.1.At.length ≤ 256 := by
  unfold NewestV
  have h := ninv l l.length (Nat.le_refl _)
  rw [List.take_length] at h
  cases hf : (nfold 0 N0 l).found with
  | true =>
    rw [nOut_found hf]
    obtain ⟨k, -, hk, e, -⟩ := h.yes hf
    have := roots_len l[k]
    rw [e] at this; exact this
  | false => rw [nOut_not hf]; show ([] : List Int).length ≤ 256; simp
theorem rootNewest_plain (r : Roots) (s : Int) (l : List (List UInt8)) (a : UInt16) (wl : ∀ b ∈ l, b.length ≤ 1000000000000000) : bywaylaw10_RootNewest r s l a = some true := by
  unfold bywaylaw10_RootNewest
  rw [root_awake_eq, bind_s, Bool.not_true, cond_f]
  by_cases hbig : r.At.length > 80 ∨ l.length > 20
  · rw [cond_true (by simp; omega)]
  rw [cond_false (by simp; omega), root_Put_eq, bind_s]
  by_cases h : RMay r s
  · have h0 := h.1; unfold PFits at h0
    obtain ⟨n, rfl⟩ := Int.eq_ofNat_of_zero_le (show 0 ≤ s by omega)
    have hp := rPage_may h
    have e0 : RPutV r (n : Int) = (sealed (pInner (rPage r) n), 0) := by unfold RPutV PutV; rw [if_pos h, if_pos hp]; rfl
    obtain ⟨g1, -⟩ := put_head hp rfl
    have hrd := root_read_put h
    have hfl := fun {x} hx => flip_one_read hp (x := x) hx
    have hk := put_kind hp
    rw [e0, cond_false (by simp)]
    dsimp only
    generalize hxx : sealed (pInner (rPage r) n) = x at *
    have hl20 : l.length ≤ 20 := by omega
    have d1 : decide ((x.length : Int) ≠ (n : Int)) = false := by rw [g1]; simp
    rw [root_Read_eq, bind_s, hrd, rsame_eq _ _ (by dsimp only; omega), rsame_self, gb_of2 rfl, bind_s, d1]
    rw [show (((decide ((r, (0 : Int)).2 ≠ 0)) || (!(bif (!decide ((r, (0 : Int)).2 ≠ 0)) then true else default))) || false : Bool) = false from rfl, cond_f]
    rw [root_Newest_eq l (by omega) wl, bind_s, room_ok (by omega) (by simp; omega) (by simp; omega), bind_s, room_ok (by omega) (by simp; omega) (by simp; omega), bind_s, List.nil_append,
      root_Newest_eq (l ++ [x]) (by simp; omega) (fun b hb => by
        rcases List.mem_append.1 hb with hb | hb
        · exact wl b hb
        · obtain rfl := List.mem_singleton.1 hb; omega), bind_s, room_ok (by omega) (by simp; omega) (by simp; omega), bind_s,
      root_Newest_eq ([x] ++ l) (by simp; omega) (fun b hb => by
        rcases List.mem_append.1 hb with hb | hb
        · obtain rfl := List.mem_singleton.1 hb; omega
        · exact wl b hb), bind_s]
    have hA := ahead_all hrd l l.length (Nat.le_refl _)
    rw [List.take_length] at hA
    have hN := newest_len l
    have ea : NewestV (l ++ [x]) = nOut (nstep (l.length : Int) (nfold 0 N0 l) x) := by unfold NewestV; rw [nfold_append, Nat.zero_add]
    have eb : NewestV ([x] ++ l) = nOut (nfold 0 N0 (x :: l)) := rfl
    have ec : ∀ y, NewestV (l ++ [y]) = nOut (nstep (l.length : Int) (nfold 0 N0 l) y) := fun y => by unfold NewestV; rw [nfold_append, Nat.zero_add]
    have e8 : NewestV l = nOut (nfold 0 N0 l) := rfl
    have hinv := ninv l l.length (Nat.le_refl _)
    rw [List.take_length] at hinv
    have h15 : NewestV (l ++ [x]) = if (NewestV l).2.2 ≠ 0 ∨ (NewestV l).2.1.Gen ≤ r.Gen then ((l.length : Int), r, 0) else ((NewestV l).1, (NewestV l).2.1, 0) := by
      rw [ea, e8]
      generalize nfold 0 N0 l = st at hinv
      cases hf : st.found with
      | true =>
        rw [nOut_found hf]
        dsimp only
        unfold nstep
        have ht : takes st x = decide (st.newest.Gen ≤ r.Gen) := by unfold takes; simp [hrd, hf]
        rw [ht]
        by_cases hg : st.newest.Gen ≤ r.Gen
        · rw [if_pos (by simpa using hg), if_pos (.inr hg), nOut_found rfl, hrd]
        · rw [if_neg (by simpa using hg), if_neg (by rintro (h | h); exact h rfl; exact hg h), nOut_found (by exact hf)]
      | false =>
        have ht : takes st x = true := by unfold takes; simp [hrd, hf]
        have hne : (nOut st).2.2 ≠ 0 := fun h => by rw [nOut_err] at h; rw [h] at hf; cases hf
        unfold nstep
        rw [if_pos ht, if_pos (.inl hne), nOut_found rfl, hrd]
    have h18 : NewestV ([x] ++ l) = if (NewestV l).2.2 ≠ 0 ∨ (NewestV l).2.1.Gen < r.Gen then ((0 : Int), r, 0) else ((NewestV l).1 + 1, (NewestV l).2.1, 0) := by
      rw [eb, e8, nOut_found hA.1]
      generalize nfold 0 N0 l = st at hinv hA
      generalize nfold 0 N0 (x :: l) = s1 at hA
      obtain ⟨-, a2, a3⟩ := hA
      cases hf : st.found with
      | true =>
        rw [nOut_found hf]
        dsimp only
        by_cases hg : st.newest.Gen < r.Gen
        · obtain ⟨q1, q2⟩ := a2 (.inr hg)
          rw [if_pos (.inr hg), q1, q2]
        · obtain ⟨q1, q2⟩ := a3 (by rw [hf]; rintro (h | h); cases h; exact hg h)
          rw [if_neg (by rintro (h | h); exact h rfl; exact hg h), q1, q2]
      | false =>
        have hne : (nOut st).2.2 ≠ 0 := fun h => by rw [nOut_err] at h; rw [h] at hf; cases hf
        obtain ⟨q1, q2⟩ := a2 (.inl hf)
        rw [if_pos (.inl hne), q1, q2]
    have hat : 0 ≤ (NewestV l).1 ∧ (NewestV l).1 ≤ 20 := by
      rw [e8]
      generalize nfold 0 N0 l = st at hinv
      cases hf : st.found with
      | true =>
        rw [nOut_found hf]
        obtain ⟨k, e, hk, -⟩ := hinv.yes hf
        dsimp only; omega
      | false => rw [nOut_not hf]; dsimp only; omega
    have h48 : ∀ y, (RReadV y).2 ≠ 0 → allFF y = false → NewestV (l ++ [y]) = NewestV l ∨ ((NewestV l).2.2 = 6 ∧ (NewestV (l ++ [y])).2.2 = 2) := fun y hy hz => by
      rw [ec, e8]
      generalize nfold 0 N0 l = st
      have ht : takes st y = false := by unfold takes; simp [hy]
      unfold nstep
      rw [if_neg (by simp [ht]), hz]
      cases hf : st.found with
      | true => left; rw [nOut_found hf, nOut_found rfl]
      | false =>
        rw [nOut_not hf, nOut_not rfl]
        cases hb : st.blank with
        | true => right; exact ⟨rfl, rfl⟩
        | false => left; rfl
    have ez : ((NewestV (l ++ [x])).2.2 = 0 ∧ (NewestV ([x] ++ l)).2.2 = 0) := by
      rw [h15, h18]; constructor <;> split <;> rfl
    rw [show ((decide ((NewestV (l ++ [x])).2.2 ≠ (0 : Int))) || (decide ((NewestV ([x] ++ l)).2.2 ≠ (0 : Int)))) = false by rw [ez.1, ez.2]; rfl, cond_f]
    have hc1 : (bif ((decide ((NewestV l).2.2 ≠ (0 : Int))) || (decide ((NewestV l).2.1.Gen ≤ r.Gen))) then ((gb (!(decide ((NewestV (l ++ [x])).1 ≠ (l.length : Int)))) (bywayref10_Same (NewestV (l ++ [x])).2.1 r)).bind fun x_21 => bif ((decide ((NewestV (l ++ [x])).1 ≠ (l.length : Int))) || (!x_21)) then (some (Sum.inr false)) else (some (Sum.inl ())))
        else ((gb (!(decide ((NewestV (l ++ [x])).1 ≠ (NewestV l).1))) (bywayref10_Same (NewestV (l ++ [x])).2.1 (NewestV l).2.1)).bind fun x_23 => bif ((decide ((NewestV (l ++ [x])).1 ≠ (NewestV l).1)) || (!x_23)) then (some (Sum.inr false)) else (some (Sum.inl ())))) = some ((.inl ()) : Unit ⊕ Bool) := by
      by_cases hc : (NewestV l).2.2 ≠ 0 ∨ (NewestV l).2.1.Gen ≤ r.Gen
      · rw [cond_true (by simpa using hc), h15, if_pos hc, rsame_eq _ _ (by dsimp only; omega), rsame_self]
        simp [gb_true, bind_s]
      · rw [cond_false (by
          rw [← Bool.not_eq_true]; intro hh; apply hc; simpa using hh), h15, if_neg hc, rsame_eq _ _ (by dsimp only; omega), rsame_self]
        simp [gb_true, bind_s]
    rw [hc1, bind_s, elS_inl, addI_ok (by omega) (by omega), bind_s]
    have hc2 : (bif ((decide ((NewestV l).2.2 ≠ (0 : Int))) || (decide ((NewestV l).2.1.Gen < r.Gen))) then ((gb (!(decide ((NewestV ([x] ++ l)).1 ≠ (0 : Int)))) (bywayref10_Same (NewestV ([x] ++ l)).2.1 r)).bind fun x_26 => bif ((decide ((NewestV ([x] ++ l)).1 ≠ (0 : Int))) || (!x_26)) then (some (Sum.inr false)) else (some (Sum.inl ())))
        else ((gb (!(decide ((NewestV ([x] ++ l)).1 ≠ (NewestV l).1 + 1))) (bywayref10_Same (NewestV ([x] ++ l)).2.1 (NewestV l).2.1)).bind fun x_29 => bif ((decide ((NewestV ([x] ++ l)).1 ≠ (NewestV l).1 + 1)) || (!x_29)) then (some (Sum.inr false)) else (some (Sum.inl ())))) = some ((.inl ()) : Unit ⊕ Bool) := by
      by_cases hc : (NewestV l).2.2 ≠ 0 ∨ (NewestV l).2.1.Gen < r.Gen
      · rw [cond_true (by simpa using hc), h18, if_pos hc, rsame_eq _ _ (by dsimp only; omega), rsame_self]
        simp [gb_true, bind_s]
      · rw [cond_false (by
          rw [← Bool.not_eq_true]; intro hh; apply hc; simpa using hh), h18, if_neg hc, rsame_eq _ _ (by dsimp only; omega), rsame_self]
        simp [gb_true, bind_s]
    rw [hc2, bind_s, elS_inl, List.nil_append, room_ok (by omega) (by simp; omega) (by simp; omega), bind_s, bind_s, mulI_ok (by omega) (by omega), bind_s]
    have r1 : remI (a.toNat : Int) (8 * (n : Int)) = some ((a.toNat % (8 * n) : Nat) : Int) := by
      rw [show (8 * (n : Int)) = ((8 * n : Nat) : Int) by omega]; exact remI_nat (by omega)
    have hx : a.toNat % (8 * n) < 8 * n := Nat.mod_lt _ (by omega)
    rw [r1, bind_s]
    generalize a.toNat % (8 * n) = z at hx
    have q8 : ∀ z : Nat, quoI (z : Int) 8 = some ((z / 8 : Nat) : Int) := fun z => quoI_nat (b := 8) (by decide)
    have m8 : ∀ z : Nat, remI (z : Int) 8 = some ((z % 8 : Nat) : Int) := fun z => remI_nat (b := 8) (by decide)
    rw [q8, bind_s, bind_s, idx_nat (by omega), bind_s, m8, bind_s, bind_s, bind_s, Int.toNat_natCast, flip_raw2 (by omega), bind_s, room_ok (by omega) (by simp; omega) (by simp; omega), bind_s,
      root_Newest_eq (l ++ [flip x z]) (by simp; omega) (fun b hb => by
        rcases List.mem_append.1 hb with hb | hb
        · exact wl b hb
        · obtain rfl := List.mem_singleton.1 hb; rw [flip_length]; omega), bind_s]
    have hy1 : (RReadV (flip x z)).2 ≠ 0 := by
      unfold RReadV
      rw [if_pos (by rw [hfl hx]; decide)]
      show (ReadV (flip x z)).2 ≠ 0
      rw [hfl hx]; decide
    have hy2 : allFF (flip x z) = false := by
      unfold allFF
      rw [decide_eq_false_iff_not]
      intro hall
      have h3 : (flip x z).getD 0 0 = 255 := by rw [getD_of (by rw [flip_length]; omega)]; exact hall _ (List.getElem_mem _)
      rw [flip0 _ _ (by omega)] at h3
      have hkf := kind_flips _ hk (z % 8) (Nat.mod_lt _ (by decide)) 0 (by decide)
      split at h3
      · exact hkf.2.1 h3
      · exact hkf.1 h3
    have hlen2 := newest_len (l ++ [flip x z])
    rw [rsame_eq _ _ (by omega)]
    rcases h48 _ hy1 hy2 with hh | ⟨h1, h2⟩
    · rw [hh, rsame_self]
      simp only [decide_true, Bool.and_true, gb_true, bind_s, Bool.true_or]
    · have h0 : decide ((NewestV (l ++ [flip x z])).2.2 = (NewestV l).2.2) = false := by rw [h1, h2]; decide
      rw [h0]
      simp only [Bool.false_and, gb_false, bind_s, Bool.false_or, h1, h2, decide_true, Bool.and_self]
  · have e0 : RPutV r s = ([], 1) := by unfold RPutV; rw [if_neg h]
    rw [e0, cond_true (by decide), root_May_eq, decide_eq_false h]
    rfl

theorem rootMost_plain (s : Int) (g : UInt64) (l : List (List UInt8)) : bywaylaw10_RootMost s g l = some true := by
  unfold bywaylaw10_RootMost
  rw [root_awake_eq, bind_s, Bool.not_true, cond_f]
  by_cases hbig : l.length > 20
  · rw [cond_true (by simp; omega)]
  have hr := RoomOf_nn s
  have hm : 0 ≤ MostV s ∧ MostV s ≤ 64 := by unfold MostV; omega
  rw [cond_false (by simp; omega), root_Most_eq, bind_s, cond_false (by simp; omega)]
  have hgen : g % UInt64.ofNat 281474976710656 < UInt64.ofNat 281474976710656 := UInt64.mod_lt _ (by decide)
  have h1 : (bif ((decide (s ≥ (24 : Int))) && (decide (s ≤ (256 : Int)))) then ((room 8 (MostV s)).bind fun u_4 => (some ((⟨(g % (UInt64.ofNat 281474976710656)), (List.replicate (Int.toNat (MostV s)) (Dat.z : Int))⟩ : Roots) : Roots)).bind fun a_6 => (addI (MostV s) (1 : Int)).bind fun x_7 => (room 8 x_7).bind fun u_8 => (some ((⟨(g % (UInt64.ofNat 281474976710656)), (List.replicate (Int.toNat x_7) (Dat.z : Int))⟩ : Roots) : Roots)).bind fun b_10 => (root_May a_6 s).bind fun x_11 => (gb (!(!x_11)) (root_May b_10 s)).bind fun x_12 => bif ((!x_11) || x_12) then (some (Sum.inr false)) else (some (Sum.inl ()))) else (some (Sum.inl ()))) = some ((.inl ()) : Unit ⊕ Bool) := by
    by_cases hf : PFits s
    · have hf' := hf; unfold PFits at hf'
      rw [cond_true (by simp; omega), room_ok (by omega) (by omega) (by omega), bind_s, bind_s, addI_ok (by omega) (by omega), bind_s, room_ok (by omega) (by omega) (by omega), bind_s, bind_s, root_May_eq, root_May_eq, bind_s]
      have ha : RMay ⟨(g % (UInt64.ofNat 281474976710656)), (List.replicate (Int.toNat (MostV s)) (Dat.z : Int))⟩ s := by
        refine ⟨hf, hgen, by simp; omega, fun n hn => ?_⟩
        have e : n = (Dat.z : Int) := List.eq_of_mem_replicate hn
        have e2 : (Dat.z : Int) = 0 := rfl
        omega
      have hb : ¬ RMay ⟨(g % (UInt64.ofNat 281474976710656)), (List.replicate (Int.toNat (MostV s + 1)) (Dat.z : Int))⟩ s := fun h => by
        have := h.2.2.1
        simp at this; omega
      rw [decide_eq_true ha, decide_eq_false hb]; rfl
    · rw [cond_false (by unfold PFits at hf; simp; omega)]
  rw [h1, bind_s, elS_inl]
  rcases loopO_find (f := fun s => bywaylaw10_RootMost_l1 l s) (fun i => (i : Int)) l.length (fun i => decide ((l.getD i []).length > 300)) (fun _ => .inr true) (y := .inl ()) (by omega) (fun i hi hp => by
      have hx : ¬ l[i].length > 300 := by simpa [List.getD_eq_getElem?_getD, List.getElem?_eq_getElem hi] using hp
      unfold bywaylaw10_RootMost_l1
      rw [lt_t hi, cond_t, idx_nat hi, bind_s, cond_false (by simp; omega), addI_1 (by omega), bind_s]) (fun i hi hp => by
      have hx : l[i].length > 300 := by simpa [List.getD_eq_getElem?_getD, List.getElem?_eq_getElem hi] using hp
      unfold bywaylaw10_RootMost_l1
      rw [lt_t hi, cond_t, idx_nat hi, bind_s, cond_true (by simp; omega)]) (by
      unfold bywaylaw10_RootMost_l1
      rw [lt_f, cond_f]) (s := (0 : Int)) rfl with ⟨i, hi, hp, -, e⟩ | ⟨hall, e⟩
  · rw [e, bind_s, elS_inr]
  · rw [e, bind_s, elS_inl]
    have wl : ∀ b ∈ l, b.length ≤ 1000000000000000 := fun b hb => by
      obtain ⟨j, hj, rfl⟩ := List.getElem_of_mem hb
      have := hall j hj
      simp [List.getD_eq_getElem?_getD, List.getElem?_eq_getElem hj] at this
      omega
    rw [root_Newest_eq l (by omega) wl, bind_s]
    have hinv := ninv l l.length (Nat.le_refl _)
    rw [List.take_length] at hinv
    have hl2 : loopO (fun s => bywaylaw10_RootMost_l2 l (NewestV l) s) (0 : Int) = some (.inl ()) := by
      refine loopO_iter (fun i => (i : Int)) l.length (by omega) (fun i hi => ?_) ?_ rfl
      · unfold bywaylaw10_RootMost_l2
        rw [lt_t hi, cond_t, idx_nat hi, bind_s, root_Read_eq, bind_s, cond_false, addI_1 (by omega), bind_s]
        rw [← Bool.not_eq_true]
        intro hh
        simp only [Bool.and_eq_true, Bool.or_eq_true, decide_eq_true_eq] at hh
        obtain ⟨q1, q2⟩ := hh
        unfold NewestV at q2
        generalize nfold 0 N0 l = st at hinv q2
        cases hf : st.found with
        | true =>
          rw [nOut_found hf] at q2
          obtain ⟨k, ek, hk, e2, hmax⟩ := hinv.yes hf
          obtain ⟨m1, m2⟩ := hmax i hi q1
          dsimp only at q2
          rcases q2 with (q2 | q2) | ⟨q2, q3⟩
          · exact q2 rfl
          · exact absurd m1 (UInt64.not_le.2 q2)
          · rw [ek] at q2
            exact m2 (by omega) q3
        | false => exact (hinv.no hf).2.2 i hi q1
      · unfold bywaylaw10_RootMost_l2
        rw [lt_f, cond_f]
    rw [hl2, bind_s, elS_inl]
    unfold NewestV
    generalize nfold 0 N0 l = st at hinv
    cases hf : st.found with
    | true =>
      rw [nOut_found hf]
      obtain ⟨k, ek, hk, e2, -⟩ := hinv.yes hf
      have hlen := roots_len l[k]
      rw [e2] at hlen
      dsimp only
      rw [cond_false (by simp), ek, idx_nat hk, bind_s, root_Read_eq, bind_s, e2, rsame_eq _ _ (by dsimp only at hlen ⊢; omega), rsame_self]
      rfl
    | false =>
      rw [nOut_not hf]
      dsimp only
      rw [cond_true (by cases st.blank <;> decide), rsame_eq _ _ (by show ([] : List Int).length ≤ _; simp)]
      have : RSame Root0 (⟨0, []⟩ : Roots) = true := by unfold RSame; rw [decide_eq_true_eq]; rfl
      rw [this]; rfl
theorem rootNewest_row {r : Roots} {s : Int} {l : List (List UInt8)} {a : UInt16} (w0 : Dat.wf r) (w1 : Dat.wf s) (w2 : Dat.wf l) (w3 : Dat.wf a) : bywaylaw10_RootNewest r s l a = some true :=
  rootNewest_plain _ _ _ _ fun b hb => by
    have h := (w2.2 b hb).1
    unfold most at h; omega
end Go.Proofs.Ytfdmajkeihdhnaa.Tr
