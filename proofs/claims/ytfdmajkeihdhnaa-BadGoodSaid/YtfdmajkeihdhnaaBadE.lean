/- What the program's functions of bad blocks answer where all goes well. Conditions: none. -/
import Derived.Test.YtfdmajkeihdhnaaPx
import Derived.Test.YtfdmajkeihdhnaaSumP
import Derived.Test.YtfdmajkeihdhnaaBadW
namespace Go.Proofs.Ytfdmajkeihdhnaa.Tr
open Go
set_option linter.unusedVariables false
set_option linter.unusedSimpArgs false

theorem bad_awake_eq : bywaylaw08_awake = some true := by decide +kernel
theorem clone_int {l : List Int} (h : l.length ≤ 1000000) : slices_Clone_int l = some l := by
  unfold slices_Clone_int
  rw [room_ok (by omega) (by omega) (by omega), bind_s]
theorem concat_int (a b : List Int) (ha : a.length ≤ 1000000) (hb : b.length ≤ 1000000) : slices_Concat_int [a, b] = some (a ++ b) := by
  unfold slices_Concat_int
  refine (bind_of (loopO_iter (fun i => ((([a, b].take i).flatten.length : Int), (i : Int))) 2 (e := ((a ++ b).length : Int)) (by omega) (fun i hi => ?_) ?_ rfl)).trans ?_
  rotate_right
  · unfold slices_Grow_int
    rw [cond_false (by simp; omega), subI_ok (by omega) (by omega), bind_s, subI_ok (by simp; omega) (by simp; omega), bind_s]
    have e9 : (bif decide ((((a ++ b).length : Int)) - ((0 : Int) - 0) > (0 : Int)) then ((room 8 ((((a ++ b).length : Int)) - ((0 : Int) - 0))).bind fun u_6 => (posI ((((a ++ b).length : Int)) - ((0 : Int) - 0))).bind fun u_7 => (cut (List.replicate (Int.toNat ((((a ++ b).length : Int)) - ((0 : Int) - 0))) (Dat.z : Int)).length 0 (0 : Int)).bind fun u_9 => (some (((List.replicate (Int.toNat ((((a ++ b).length : Int)) - ((0 : Int) - 0))) (Dat.z : Int)).take (Int.toNat (0 : Int))) : (List Int))).bind fun l_10 => some l_10) else (some [])) = some ([] : List Int) := by
      by_cases h0 : 0 < (a ++ b).length
      · rw [cond_true (by simp at h0 ⊢; omega), room_ok (by simp; omega) (by simp; omega) (by simp; omega), bind_s, posI_ok (by simp at h0 ⊢; omega), bind_s, cut_ok (by omega) (by omega) (by simp; omega), bind_s, bind_s]
        simp
      · rw [cond_false (by simp at h0 ⊢; simp [h0])]
    rw [bind_of e9, bind_s]
    refine (bind_of (loopO_iter (fun i => ((i : Int), ([a, b].take i).flatten)) 2 (e := a ++ b) (by omega) (fun i hi => ?_) ?_ rfl)).trans ?_
    rotate_right
    · rfl
    · unfold slices_Concat_int_l2
      dsimp only
      rw [show decide ((i : Int) < (([a, b].length : Nat) : Int)) = true by simp; omega, cond_t, idx_nat (show i < [a, b].length by simpa using hi), bind_s]
      have h1 := flat_step (xss := [a, b]) (k := i) (by simpa using hi)
      have h2 : ([a, b].take i).flatten.length + ([a, b][i]'(by simpa using hi)).length ≤ 2000000 := by
        rw [← List.length_append, ← h1]
        have := flat_take_le [a, b] (i + 1)
        have e3 : [a, b].flatten.length = a.length + b.length := by simp
        omega
      rw [room_ok (by omega) (by omega) (by omega), bind_s, bind_s, addI_1 (by omega), bind_s, ← h1]
    · unfold slices_Concat_int_l2
      dsimp only
      rw [show decide (((2 : Nat) : Int) < (([a, b].length : Nat) : Int)) = false by simp, cond_f]
      simp
  · unfold slices_Concat_int_l1
    dsimp only
    rw [show decide ((i : Int) < (([a, b].length : Nat) : Int)) = true by simp; omega, cond_t, idx_nat (show i < [a, b].length by simpa using hi), bind_s]
    have h1 := flat_step (xss := [a, b]) (k := i) (by simpa using hi)
    have h2 : ([a, b].take i).flatten.length + ([a, b][i]'(by simpa using hi)).length ≤ 2000000 := by
      rw [← List.length_append, ← h1]
      have := flat_take_le [a, b] (i + 1)
      have e3 : [a, b].flatten.length = a.length + b.length := by simp
      omega
    rw [addI_ok (by omega) (by omega), bind_s, cond_false (by simp; omega), addI_1 (by omega), bind_s, h1, List.length_append]
    rfl
  · unfold slices_Concat_int_l1
    dsimp only
    rw [show decide (((2 : Nat) : Int) < (([a, b].length : Nat) : Int)) = false by simp, cond_f]
    simp

theorem not_mem_take {l : List Int} (hn : l.Nodup) {i : Nat} (hi : i < l.length) : l[i] ∉ l.take i := fun h => by
  obtain ⟨j, hj, e⟩ := List.getElem_of_mem h
  simp only [List.length_take] at hj
  rw [List.getElem_take] at e
  exact List.pairwise_iff_getElem.1 hn j i (by omega) hi (by omega) e
theorem putM_take {l : List Int} (hn : l.Nodup) {i : Nat} (hi : i < l.length) : putM (l.take i) l[i] = l.take (i + 1) := by
  unfold putM
  rw [if_neg (not_mem_take hn hi), take_step hi]
theorem right_ok {S L : List Int} (h1 : 1 ≤ S.length + L.length) (h2 : S.length + L.length ≤ 255) (hr : ∀ x ∈ S ++ L, 0 ≤ x ∧ x < 255) (hn : (S ++ L).Nodup) : bad_Right ⟨S, L⟩ = some true := by
  unfold bad_Right
  dsimp only
  rw [addI_ok (by omega) (by omega), bind_s, cond_false (by simp; omega), concat_int S L (by omega) (by omega), bind_s]
  refine (bind_of (loopO_iter (fun i => ((i : Int), (S ++ L).take i)) (S ++ L).length (e := .inl (S ++ L)) (by simp; omega) (fun i hi => ?_) ?_ (by simp))).trans ?_
  rotate_right
  · rw [elS_inl]; simp
  · unfold bad_Right_l1
    dsimp only
    have := hr _ (List.getElem_mem hi)
    rw [lt_t hi, cond_t, idx_nat hi, bind_s, cond_false (by simp only [Bool.or_eq_false_iff, decide_eq_false_iff_not]; omega), bind_s, addI_1 (by simp at hi; omega), bind_s, putM_take hn hi]
  · unfold bad_Right_l1
    dsimp only
    rw [lt_f, cond_f, List.take_length]
theorem has_ok {S L : List Int} {n : Nat} (h : bad_Right ⟨S, L⟩ = some true) (hn : n < S.length) : bad_has ⟨S, L⟩ (n : Int) = some true := by
  unfold bad_has
  rw [h, bind_s]
  congr 1
  simp; omega
theorem at_ok {S L : List Int} {n : Nat} (h : bad_Right ⟨S, L⟩ = some true) (hn : n < S.length) : bad_At ⟨S, L⟩ (n : Int) = some (S[n], 0) := by
  unfold bad_At
  rw [has_ok h hn, bind_s, Bool.not_true, cond_f]
  dsimp only
  rw [idx_nat hn, bind_s]
theorem replace_ok {S L : List Int} {n : Nat} {y : Int} (h : bad_Right ⟨S, y :: L⟩ = some true) (hn : n < S.length) (hs : S.length ≤ 1000) (hl : L.length ≤ 1000) : bad_Replace ⟨S, y :: L⟩ (n : Int) = some (⟨S.set n y, L⟩, 0) := by
  unfold bad_Replace
  rw [has_ok h hn]
  dsimp only
  rw [clone_int (by omega), bind_s, clone_int (by simp; omega), bind_s, bind_s, bind_s, Bool.not_true, cond_f, cond_false (by simp; omega), show idx (y :: L) (0 : Int) = some y from rfl, bind_s, idx_nat hn, bind_s, bind_s, cut_ok (by omega) (by simp; omega) (by omega), bind_s,
    show (y :: L).drop (Int.toNat 1) = L from rfl, clone_int (by omega), bind_s, bind_s, bind_s, Int.toNat_natCast]
theorem replace_full {S : List Int} {n : Nat} (h : bad_Right ⟨S, []⟩ = some true) (hn : n < S.length) (hs : S.length ≤ 1000) : bad_Replace ⟨S, []⟩ (n : Int) = some (⟨S, []⟩, 5) := by
  unfold bad_Replace
  rw [has_ok h hn]
  dsimp only
  rw [clone_int (by omega), bind_s, clone_int (by simp), bind_s, bind_s, bind_s, Bool.not_true, cond_f, cond_true (by simp), bind_s]

/-! the reserve of numbers in their order, but one -/
def stands (a v b : Nat) : List Int := (List.range b).map fun j => if j = a then (v : Int) else (j : Int)
def left (c n : Nat) : List Int := (List.range n).map fun j => ((c + j : Nat) : Int)
theorem stands_length (a v b : Nat) : (stands a v b).length = b := by simp [stands]
theorem left_length (c n : Nat) : (left c n).length = n := by simp [left]
theorem stands_get {a v b j : Nat} (h : j < (stands a v b).length) : (stands a v b)[j] = if j = a then (v : Int) else (j : Int) := by simp [stands]
theorem left_succ (c n : Nat) : left c (n + 1) = (c : Int) :: left (c + 1) n := by
  unfold left
  rw [List.range_succ_eq_map, List.map_cons, List.map_map]
  refine List.cons_eq_cons.2 ⟨by simp, List.map_congr_left fun j _ => ?_⟩
  simp only [Function.comp_apply]; omega
theorem stands_set {a v b w : Nat} (h : a < b) : (stands a v b).set a (w : Int) = stands a w b := by
  refine List.ext_getElem (by simp [stands_length]) fun j h1 h2 => ?_
  rw [List.getElem_set, stands_get, stands_get]
  by_cases h3 : a = j
  · rw [if_pos h3, if_pos h3.symm]
  · rw [if_neg h3, if_neg (Ne.symm h3), if_neg (Ne.symm h3)]
theorem st_right {a v b c n : Nat} (ha : a < b) (hc : b ≤ c) (hv : v = a ∨ (b ≤ v ∧ v < c)) (hn : c + n < 255) : bad_Right ⟨stands a v b, left c n⟩ = some true := by
  refine right_ok (by rw [stands_length]; omega) (by rw [stands_length, left_length]; omega) (fun x hx => ?_) ?_
  · rcases List.mem_append.1 hx with hx | hx
    · simp only [stands, List.mem_map, List.mem_range] at hx
      obtain ⟨j, hj, rfl⟩ := hx
      split <;> omega
    · simp only [left, List.mem_map, List.mem_range] at hx
      obtain ⟨j, hj, rfl⟩ := hx
      omega
  · refine List.nodup_append.2 ⟨?_, ?_, fun x hx y hy => ?_⟩
    · refine List.pairwise_map.2 (List.Pairwise.imp_of_mem (fun {i j} hi hj hij => ?_) List.pairwise_lt_range)
      rw [List.mem_range] at hi hj
      split <;> split <;> omega
    · refine List.pairwise_map.2 (List.Pairwise.imp_of_mem (fun {i j} hi hj hij => ?_) List.pairwise_lt_range)
      omega
    · simp only [stands, left, List.mem_map, List.mem_range] at hx hy
      obtain ⟨j, hj, rfl⟩ := hx
      obtain ⟨k, hk, rfl⟩ := hy
      split <;> omega

theorem new_ok {b m : Nat} (hb : 1 ≤ b) (hm : b + m ≤ 255) (a : Nat) : bad_New (b : Int) (m : Int) [] = some (⟨stands a a b, left b m⟩, 0) := by
  unfold bad_New
  rw [gb_of2 (subI_ok (by omega) (by omega)), bind_s]
  have hc : (((decide ((b : Int) < (1 : Int))) || (decide ((m : Int) < (0 : Int)))) || (decide ((b : Int) > (255 : Int)))) = false := by simp; omega
  rw [hc, Bool.not_false, cond_t, cond_false (by simp; omega)]
  refine (bind_of (loopO_iter (fun _ => ((0 : Int), ([] : List Int))) 0 (e := ([] : List Int)) (by omega) (fun i hi => by omega) (by unfold bad_New_l1; rfl) rfl)).trans ?_
  rw [addI_ok (by omega) (by omega), bind_s]
  refine (bind_of (loopO_iter (fun i => ((i : Int), (List.range i).map fun j : Nat => (j : Int))) (b + m) (e := (List.range (b + m)).map fun j : Nat => (j : Int)) (by omega) (fun i hi => ?_) ?_ rfl)).trans ?_
  rotate_right
  · have hl : ((List.range (b + m)).map fun j : Nat => (j : Int)).length = b + m := by simp
    have e1 : ((List.range (b + m)).map fun j : Nat => (j : Int)).take (Int.toNat b) = stands a a b := by
      refine List.ext_getElem (by simp [stands_length]) fun j h1 h2 => ?_
      rw [stands_get]
      simp only [List.getElem_take, List.getElem_map, List.getElem_range]
      split <;> omega
    have e2 : (((List.range (b + m)).map fun j : Nat => (j : Int)).drop (Int.toNat b)).take (Int.toNat (((((List.range (b + m)).map fun j : Nat => (j : Int)).length : Nat) : Int) - b)) = left b m := by
      refine List.ext_getElem (by simp [left_length]; omega) fun j h1 h2 => ?_
      simp only [left, List.getElem_take, List.getElem_drop, List.getElem_map, List.getElem_range]
      omega
    rw [cond_false (by rw [hl]; simp; omega), cut_ok (by omega) (by omega) (by rw [hl]; omega), bind_s, e1, clone_int (by rw [stands_length]; omega), bind_s, cut_ok (by omega) (by rw [hl]; omega) (by omega), bind_s, e2, clone_int (by rw [left_length]; omega), bind_s, bind_s]
  · unfold bad_New_l2
    dsimp only
    rw [show decide ((i : Int) < (b : Int) + m) = true by simp; omega, cond_t, cond_true (by simp), room_ok (by simp; omega) (by simp; omega) (by simp; omega), bind_s, bind_s, bind_s, addI_1 (by omega), bind_s, List.range_succ, List.map_append]
    rfl
  · unfold bad_New_l2
    dsimp only
    rw [show decide (((b + m : Nat) : Int) < (b : Int) + m) = false by simp, cond_f]

def vAt (a b i : Nat) : Nat := if i = 0 then a else b + i - 1
theorem badGood_plain (x y z : UInt8) : bywaylaw08_BadGood x y z = some true := by
  unfold bywaylaw08_BadGood
  rw [bad_awake_eq, bind_s, Bool.not_true, cond_f]
  have ex : (x % UInt8.ofNat 100).toNat = x.toNat % 100 := by rw [UInt8.toNat_mod]; rfl
  have ey : (y % UInt8.ofNat 100).toNat = y.toNat % 100 := by rw [UInt8.toNat_mod]; rfl
  rw [ex, ey, addI_1 (by omega), bind_s, bind_s]
  obtain ⟨b, hb⟩ : ∃ b, b = x.toNat % 100 + 1 := ⟨_, rfl⟩
  obtain ⟨m, hm⟩ : ∃ m, m = y.toNat % 100 := ⟨_, rfl⟩
  rw [← hb, ← hm]
  have hb1 : 1 ≤ b ∧ b ≤ 100 := by omega
  have hm1 : m ≤ 99 := by omega
  obtain ⟨a, ha⟩ : ∃ a, a = z.toNat % b := ⟨_, rfl⟩
  have hab : a < b := by rw [ha]; exact Nat.mod_lt _ (by omega)
  rw [new_ok (by omega) (by omega) a, bind_s, cond_false (by simp), remI_nat (by omega), bind_s, ← ha]
  have hR : ∀ i, i ≤ m → bad_Right ⟨stands a (vAt a b i) b, left (b + i) (m - i)⟩ = some true := fun i hi =>
    st_right hab (by omega) (by unfold vAt; split <;> omega) (by omega)
  have hv0 : vAt a b 0 = a := rfl
  refine (bind_of (loopO_iter (fun i => ((i : Int), (⟨stands a (vAt a b i) b, left (b + i) (m - i)⟩ : Reserve))) m (e := .inl ⟨stands a (vAt a b m) b, left (b + m) (m - m)⟩) (by omega) (fun i hi => ?_) ?_ rfl)).trans ?_
  rotate_right
  · rw [elS_inl]
    have hRm := hR m (Nat.le_refl _)
    rw [Nat.sub_self, show left (b + m) 0 = [] from rfl] at hRm ⊢
    rw [replace_full hRm (by rw [stands_length]; omega) (by rw [stands_length]; omega), bind_s]
    refine (bind_of (loopO_iter (fun i => (i : Int)) b (e := .inl ()) (by omega) (fun i hi => ?_) ?_ rfl)).trans ?_
    rotate_right
    · rw [elS_inl]; rfl
    · unfold bywaylaw08_BadGood_l2
      rw [lt_t hi, cond_t, at_ok hRm (by rw [stands_length]; omega), bind_s, stands_get, cond_false (by
        simp only [Bool.or_eq_false_iff, Bool.and_eq_false_iff, decide_eq_false_iff_not]
        refine ⟨by simp, ?_⟩
        by_cases h : i = a
        · left; simp [h]
        · right; simp [h]), addI_1 (by omega), bind_s]
    · unfold bywaylaw08_BadGood_l2
      rw [lt_f, cond_f]
  · unfold bywaylaw08_BadGood_l1
    dsimp only
    have h1 := hR i (by omega)
    have h2 := hR (i + 1) (by omega)
    obtain ⟨k, hk⟩ : ∃ k, m - i = k + 1 := ⟨m - i - 1, by omega⟩
    have hk2 : m - (i + 1) = k := by omega
    rw [hk, left_succ] at h1
    have e3 : vAt a b (i + 1) = b + i := by unfold vAt; rw [if_neg (by omega)]; omega
    rw [hk2, e3, ← Nat.add_assoc] at h2
    rw [hk, left_succ, lt_t hi, cond_t, replace_ok h1 (by rw [stands_length]; omega) (by rw [stands_length]; omega) (by rw [left_length]; omega), bind_s, stands_set hab]
    dsimp only
    rw [at_ok h2 (by rw [stands_length]; omega), bind_s, stands_get, if_pos rfl, hk2, e3]
    rw [show (!((decide ((0 : Int) ≠ (0 : Int))) || (decide ((0 : Int) ≠ (0 : Int))))) = true from rfl, gb_true, addI_ok (by omega) (by omega), bind_s, cond_false (by simp), addI_1 (by omega), bind_s]
    rfl
  · unfold bywaylaw08_BadGood_l1
    dsimp only
    rw [lt_f, cond_f]
end Go.Proofs.Ytfdmajkeihdhnaa.Tr
