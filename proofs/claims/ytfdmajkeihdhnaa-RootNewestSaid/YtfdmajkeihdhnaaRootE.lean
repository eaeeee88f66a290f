/- What the program's functions of roots answer. Conditions: none. -/
import Derived.Test.YtfdmajkeihdhnaaPageG
import Derived.Test.YtfdmajkeihdhnaaRootW
namespace Go.Proofs.Ytfdmajkeihdhnaa.Tr
open Go
set_option linter.unusedVariables false
set_option linter.unusedSimpArgs false

theorem page_Read_all (b : List UInt8) : page_Read b = some (ReadV b) := by
  by_cases h : b.length ≤ 1000000
  · exact page_Read_eq b h
  · have h1 : ¬ PFits b.length := by unfold PFits; omega
    unfold page_Read ReadV
    rw [page_fits_eq, bind_s, cond_true (by simp [h1]), if_pos h1, bind_s]; rfl
def MostV (s : Int) : Int := min 64 (RoomOf s / 2)
theorem RoomOf_nn (s : Int) : 0 ≤ RoomOf s ∧ RoomOf s ≤ 240 := by
  unfold RoomOf; split
  · rename_i h; unfold PFits at h; omega
  · omega
theorem root_Most_eq (s : Int) : root_Most s = some (MostV s) := by
  unfold root_Most
  have := RoomOf_nn s
  rw [page_Room_eq, bind_s, quoI_ok (by omega) (by omega), bind_s]; rfl
def RMay (r : Roots) (s : Int) : Prop := PFits s ∧ r.Gen < UInt64.ofNat 281474976710656 ∧ (r.At.length : Int) ≤ MostV s ∧ ∀ n ∈ r.At, 0 ≤ n ∧ n ≤ 65535
instance {r : Roots} {s : Int} : Decidable (RMay r s) := by unfold RMay; exact inferInstance
theorem root_May_eq (r : Roots) (s : Int) : root_May r s = some (decide (RMay r s)) := by
  unfold root_May
  have hr := RoomOf_nn s
  rw [page_Room_eq, bind_s, gb_of2 (root_Most_eq s), bind_s]
  by_cases h : PFits s ∧ r.Gen < UInt64.ofNat 281474976710656 ∧ (r.At.length : Int) ≤ MostV s
  · obtain ⟨h1, h2, h3⟩ := h
    have d1 : decide (RoomOf s = (0 : Int)) = false := by
      unfold RoomOf; rw [if_pos h1]; unfold PFits at h1; simp; omega
    have d2 : decide ((UInt64.ofNat 281474976710656) ≤ r.Gen) = false := by
      rw [decide_eq_false_iff_not, UInt64.not_le]; exact h2
    rw [d1, d2]
    rw [show ((false || false) : Bool) = false from rfl, Bool.not_false, cond_t, cond_false (by simp; omega)]
    have hm : MostV s ≤ 64 := by unfold MostV; omega
    rcases loopO_find (f := fun s => root_May_l1 r s) (fun i => (i : Int)) r.At.length (fun i => decide (r.At.getD i 0 < 0 ∨ r.At.getD i 0 > 65535)) (fun _ => .inr false) (y := .inl ()) (by omega) (fun i hi hp => by
        have hx : ¬ (r.At[i] < 0 ∨ r.At[i] > 65535) := by simpa [List.getD_eq_getElem?_getD, List.getElem?_eq_getElem hi] using hp
        unfold root_May_l1
        rw [lt_t hi, cond_t, idx_nat hi, bind_s, cond_false (by simp; omega), addI_1 (by omega), bind_s]) (fun i hi hp => by
        have hx : (r.At[i] < 0 ∨ r.At[i] > 65535) := by simpa [List.getD_eq_getElem?_getD, List.getElem?_eq_getElem hi] using hp
        unfold root_May_l1
        rw [lt_t hi, cond_t, idx_nat hi, bind_s, cond_true (by simp; omega)]) (by
        unfold root_May_l1
        rw [lt_f, cond_f]) (s := (0 : Int)) rfl with ⟨i, hi, hp, -, e⟩ | ⟨hall, e⟩
    · rw [e, bind_s, elS_inr]
      have hx : (r.At[i] < 0 ∨ r.At[i] > 65535) := by simpa [List.getD_eq_getElem?_getD, List.getElem?_eq_getElem hi] using hp
      have : ¬ RMay r s := fun h => by have := h.2.2.2 _ (List.getElem_mem hi); omega
      rw [decide_eq_false this]
    · rw [e, bind_s, elS_inl]
      have : RMay r s := ⟨h1, h2, h3, fun n hn => by
        obtain ⟨j, hj, rfl⟩ := List.getElem_of_mem hn
        have := hall j hj
        simp [List.getD_eq_getElem?_getD, List.getElem?_eq_getElem hj] at this
        omega⟩
      rw [decide_eq_true this]
  · have hn : ¬ RMay r s := fun x => h ⟨x.1, x.2.1, x.2.2.1⟩
    rw [decide_eq_false hn, cond_true]
    by_cases c1 : RoomOf s = 0
    · simp [c1]
    · by_cases c2 : (UInt64.ofNat 281474976710656) ≤ r.Gen
      · simp only [decide_eq_true c2, Bool.or_true, Bool.true_or]
      · have h1 : PFits s := by
          unfold RoomOf at c1; split at c1
          · assumption
          · exact absurd rfl c1
        have h2 : r.Gen < UInt64.ofNat 281474976710656 := UInt64.not_le.1 c2
        have h3 : (r.At.length : Int) > MostV s := by
          rcases Int.lt_or_le (MostV s) (r.At.length : Int) with g | g
          · exact g
          · exact absurd ⟨h1, h2, g⟩ h
        rw [decide_eq_false c1, decide_eq_false c2]
        rw [show ((false || false) : Bool) = false from rfl, Bool.not_false, cond_t, decide_eq_true h3]; rfl

/-! ### a root's page -/
def rBody : List Int → List UInt8
  | [] => []
  | n :: l => UInt8.ofInt (n / 2 ^ (8 : Int).toNat) :: UInt8.ofInt n :: rBody l
theorem rBody_append (a b : List Int) : rBody (a ++ b) = rBody a ++ rBody b := by
  induction a with
  | nil => rfl
  | cons n a ih => simp [rBody, ih]
theorem rBody_length (l : List Int) : (rBody l).length = 2 * l.length := by
  induction l with
  | nil => rfl
  | cons n l ih => simp [rBody, ih]; omega
def rPage (r : Roots) : Page := ⟨2, max 0 ((r.At.length : Int) - 1), r.Gen, rBody r.At⟩
def RPutV (r : Roots) (s : Int) : List UInt8 × Int := if RMay r s then PutV (rPage r) s else ([], 1)
theorem rPage_may {r : Roots} {s : Int} (h : RMay r s) : PMay (rPage r) s := by
  obtain ⟨h1, h2, h3, h4⟩ := h
  have h1' := h1; unfold PFits at h1'
  have e : RoomOf s = s - 16 := by unfold RoomOf; rw [if_pos h1]
  unfold MostV at h3
  rw [e] at h3
  refine ⟨h1, .inr rfl, ?_, ?_, h2, ?_⟩
  · show (0 : Int) ≤ max 0 ((r.At.length : Int) - 1); omega
  · show max 0 ((r.At.length : Int) - 1) < 64; omega
  · show ((rBody r.At).length : Int) ≤ s - 16
    rw [rBody_length]; omega
theorem root_Put_eq (r : Roots) (s : Int) : root_Put r s = some (RPutV r s) := by
  unfold root_Put RPutV
  rw [root_May_eq, bind_s]
  by_cases h : RMay r s
  · rw [cond_false (by simp [h]), if_pos h]
    obtain ⟨h1, h2, h3, h4⟩ := h
    have hm : MostV s ≤ 64 := by unfold MostV; omega
    rw [subI_ok (by omega) (by omega), bind_s, bind_s, bind_s]
    refine (bind_of (loopO_iter (fun i => ((i : Int), rBody (r.At.take i))) r.At.length (e := rBody r.At) (by omega) (fun i hi => ?_) ?_ rfl)).trans ?_
    · unfold root_Put_l1
      dsimp only
      have hx := h4 _ (List.getElem_mem hi)
      have hl : (rBody (r.At.take i)).length ≤ 128 := by rw [rBody_length]; simp; omega
      have hsh : shrI r.At[i] 8 = some (r.At[i] / 2 ^ (8 : Int).toNat) := by unfold shrI; rw [if_pos ⟨hx.1, by omega⟩]
      rw [lt_t hi, cond_t, idx_nat hi, bind_s, hsh, bind_s, room_ok (by omega) (by simp; omega) (by simp; omega), bind_s, bind_s, addI_1 (by omega), bind_s, take_step hi, rBody_append]
      rfl
    · unfold root_Put_l1
      dsimp only
      rw [lt_f, cond_f, List.take_length]
    · rw [page_Put_eq, bind_s]; rfl
  · rw [cond_true (by simp [h]), if_neg h]
def Root0 : Roots := ⟨0, []⟩
def numAt (b : List UInt8) (i : Nat) : Int := ((256 * (b.getD (2 * i) 0).toNat + (b.getD (2 * i + 1) 0).toNat : Nat) : Int)
def numsOf (b : List UInt8) : List Int := (List.range (b.length / 2)).map (numAt b)
def RForm (p : Page) : Prop := p.Kind = 2 ∧ p.Body.length % 2 = 0 ∧ p.Id = max 0 (((p.Body.length / 2 : Nat) : Int) - 1)
instance {p : Page} : Decidable (RForm p) := by unfold RForm; exact inferInstance
def RReadV (b : List UInt8) : Roots × Int :=
  if (ReadV b).2 ≠ 0 then (Root0, (ReadV b).2) else if (ReadV b).1.Kind = 0 then (Root0, 6) else if ¬ RForm (ReadV b).1 then (Root0, 2) else (⟨(ReadV b).1.Gen, numsOf (ReadV b).1.Body⟩, 0)
theorem read_body (b : List UInt8) : (ReadV b).1.Body.length ≤ 256 := by
  by_cases h : (ReadV b).2 ≠ 0 ∨ (ReadV b).1.Kind = 0
  · rw [read_none h]; show ([] : List UInt8).length ≤ 256; simp
  · have h1 : (ReadV b).2 = 0 := Decidable.not_not.1 fun x => h (.inl x)
    have h2 : (ReadV b).1.Kind ≠ 0 := fun x => h (.inr x)
    obtain ⟨q, -⟩ := read_ok h1 h2
    obtain ⟨⟨q1, q2⟩, -, -, -, -, q6⟩ := q
    omega
theorem or_bytes {x y : Nat} (hy : y < 256) : (x * 256) ||| y = 256 * x + y := by
  rw [show x * 256 = x <<< 8 by rw [Nat.shiftLeft_eq], ← Nat.shiftLeft_add_eq_or_of_lt (by omega), Nat.shiftLeft_eq]; omega
theorem root_Read_eq (b : List UInt8) : root_Read b = some (RReadV b) := by
  unfold root_Read RReadV
  rw [page_Read_all, bind_s]
  have hbl := read_body b
  by_cases h1 : (ReadV b).2 ≠ 0
  · rw [cond_true (by simpa using h1), if_pos h1, bind_s]; rfl
  · rw [cond_false (by simpa using h1), if_neg h1]
    by_cases h2 : (ReadV b).1.Kind = 0
    · rw [cond_true (by simpa using h2), if_pos h2, bind_s]; rfl
    · rw [cond_false (by simpa using h2), if_neg h2]
      generalize hr : ReadV b = rp at *
      obtain ⟨p, e⟩ := rp
      dsimp only at *
      have q1 : quoI (p.Body.length : Int) 2 = some ((p.Body.length / 2 : Nat) : Int) := quoI_nat (b := 2) (by omega)
      have q2 : remI (p.Body.length : Int) 2 = some ((p.Body.length % 2 : Nat) : Int) := remI_nat (b := 2) (by omega)
      rw [q1, bind_s, gb_of2 q2, bind_s, gb_of2 (subI_ok (by omega) (by omega)), bind_s]
      by_cases h3 : RForm p
      · obtain ⟨g1, g2, g3⟩ := h3
        have d1 : decide (p.Kind ≠ (2 : Int)) = false := by simp [g1]
        rw [d1]
        have d2 : decide ((bif !false then ((p.Body.length % 2 : Nat) : Int) else default) ≠ (0 : Int)) = false := by simp [g2]
        rw [d2]
        have d3 : decide (p.Id ≠ max (0 : Int) (bif !(false || false) then ((p.Body.length / 2 : Nat) : Int) - 1 else default)) = false := by
          rw [decide_eq_false_iff_not, Decidable.not_not]; exact g3
        rw [d3]
        rw [show ((false || false || false) : Bool) = false from rfl, cond_f, if_neg (by rw [Decidable.not_not]; exact ⟨g1, g2, g3⟩), bind_s, bind_s]
        refine (bind_of (loopO_iter (fun i => ((i : Int), (List.range i).map (numAt p.Body))) (p.Body.length / 2) (e := numsOf p.Body) (by omega) (fun i hi => ?_) ?_ rfl)).trans ?_
        · unfold root_Read_l1
          dsimp only
          have v1 := (p.Body.getD (2 * i) 0).toNat_lt
          have v2 := (p.Body.getD (2 * i + 1) 0).toNat_lt
          rw [lt_t hi, cond_t, mulI_ok (by omega) (by omega), bind_s, idx_D (b := p.Body) (i := 2 * i) (by omega) (by omega), bind_s]
          have e1 : shlI (((p.Body.getD (2 * i) 0).toNat : Nat) : Int) 8 = some (((p.Body.getD (2 * i) 0).toNat * 256 : Nat) : Int) := by
            have ep : (2 : Int) ^ (8 : Int).toNat = 256 := rfl
            unfold shlI
            rw [ep, if_pos ⟨by omega, by omega, by omega, by omega⟩]; rfl
          rw [e1, bind_s, bind_s, addI_ok (by omega) (by omega), bind_s, idx_D (b := p.Body) (i := 2 * i + 1) (by omega) (by omega), bind_s]
          have e2 : orI (((p.Body.getD (2 * i) 0).toNat * 256 : Nat) : Int) (((p.Body.getD (2 * i + 1) 0).toNat : Nat) : Int) = some (numAt p.Body i) := by
            unfold orI numAt
            rw [if_pos ⟨by omega, by omega⟩, Int.toNat_natCast, Int.toNat_natCast, or_bytes v2]
          rw [e2, bind_s, room_ok (by omega) (by simp; omega) (by simp; omega), bind_s, bind_s, addI_1 (by omega), bind_s, List.range_succ, List.map_append]
          rfl
        · unfold root_Read_l1
          dsimp only
          rw [lt_f, cond_f]; rfl
        · rw [bind_s]
      · rw [if_pos h3, cond_true, bind_s]
        · rfl
        · by_cases g1 : p.Kind = 2
          · have d1 : decide (p.Kind ≠ (2 : Int)) = false := by simp [g1]
            rw [d1]
            by_cases g2 : p.Body.length % 2 = 0
            · have d2 : decide ((bif !false then ((p.Body.length % 2 : Nat) : Int) else default) ≠ (0 : Int)) = false := by simp [g2]
              rw [d2]
              have : p.Id ≠ max 0 (((p.Body.length / 2 : Nat) : Int) - 1) := fun g3 => h3 ⟨g1, g2, g3⟩
              rw [show (bif !(false || false) then (((p.Body.length / 2 : Nat) : Int) - 1) else default) = ((p.Body.length / 2 : Nat) : Int) - 1 from rfl, decide_eq_true this]; rfl
            · have d2 : decide ((bif !false then ((p.Body.length % 2 : Nat) : Int) else default) ≠ (0 : Int)) = true := by
                rw [Bool.not_false, cond_t, decide_eq_true_eq]; omega
              rw [d2]; rfl
          · simp [g1]
theorem numsOf_body {l : List Int} (h : ∀ n ∈ l, 0 ≤ n ∧ n ≤ 65535) : numsOf (rBody l) = l := by
  unfold numsOf
  rw [rBody_length, Nat.mul_div_cancel_left _ (by omega)]
  apply List.ext_getElem
  · simp
  · intro j h1 h2
    rw [List.getElem_map, List.getElem_range]
    have key : ∀ (l : List Int) (j : Nat) (hj : j < l.length), (∀ n ∈ l, 0 ≤ n ∧ n ≤ 65535) → numAt (rBody l) j = l[j] := by
      intro l
      induction l with
      | nil => intro j hj; simp at hj
      | cons n l ih =>
        intro j hj hn
        cases j with
        | zero =>
          have := hn n (by simp)
          unfold numAt
          have e1 : (((UInt8.ofInt (n / 2 ^ (8 : Int).toNat)).toNat : Nat) : Int) = n / 256 % 256 := ofIntU8 _
          have e2 : (((UInt8.ofInt n).toNat : Nat) : Int) = n % 256 := ofIntU8 _
          show ((256 * (UInt8.ofInt (n / 2 ^ (8 : Int).toNat)).toNat + (UInt8.ofInt n).toNat : Nat) : Int) = n
          omega
        | succ j => exact ih j (by simpa using hj) fun m hm => hn m (List.mem_cons_of_mem _ hm)
    exact key l j h2 h
theorem root_read_put {r : Roots} {n : Nat} (h : RMay r n) : RReadV (sealed (pInner (rPage r) n)) = (r, 0) := by
  have h2 := read_put (rPage_may h)
  unfold RReadV
  rw [h2, if_neg (by simp), if_neg (by show ¬ (2 : Int) = 0; decide), if_neg (by
    rw [Decidable.not_not]
    have hb : (rPage r).Body.length = 2 * r.At.length := rBody_length _
    refine ⟨rfl, (by show (rPage r).Body.length % 2 = 0; omega), ?_⟩
    show (rPage r).Id = max 0 ((((rPage r).Body.length / 2 : Nat) : Int) - 1)
    rw [hb, Nat.mul_div_cancel_left _ (by omega)]; rfl)]
  have e : numsOf (rPage r).Body = r.At := numsOf_body h.2.2.2
  rw [e]; rfl
theorem ints_eq (a b : List Int) (ha : a.length ≤ 1000000000000000) : bywayref08_Ints a b = some (decide (a = b)) := by
  unfold bywayref08_Ints
  by_cases hl : a.length = b.length
  · rw [cond_false (by simp [hl])]
    rcases loopO_find (f := fun s => bywayref08_Ints_l1 a b s) (fun i => (i : Int)) a.length (fun i => decide (a.getD i 0 ≠ b.getD i 0)) (fun _ => .inr false) (y := .inl ()) (by omega) (fun i hi hp => by
        have hx : a[i] = b[i]'(by omega) := by simpa [List.getD_eq_getElem?_getD, List.getElem?_eq_getElem hi, List.getElem?_eq_getElem (show i < b.length by omega)] using hp
        unfold bywayref08_Ints_l1
        rw [lt_t hi, cond_t, idx_nat hi, bind_s, idx_nat (show i < b.length by omega), bind_s, cond_false (by simp [hx]), addI_1 (by omega), bind_s]) (fun i hi hp => by
        have hx : a[i] ≠ b[i]'(by omega) := by simpa [List.getD_eq_getElem?_getD, List.getElem?_eq_getElem hi, List.getElem?_eq_getElem (show i < b.length by omega)] using hp
        unfold bywayref08_Ints_l1
        rw [lt_t hi, cond_t, idx_nat hi, bind_s, idx_nat (show i < b.length by omega), bind_s, cond_true (by simpa using hx)]) (by
        unfold bywayref08_Ints_l1
        rw [lt_f, cond_f]) (s := (0 : Int)) rfl with ⟨i, hi, hp, -, e⟩ | ⟨hall, e⟩
    · rw [e, bind_s, elS_inr]
      have : a ≠ b := fun h => by subst h; simp at hp
      rw [decide_eq_false this]
    · rw [e, bind_s, elS_inl]
      have : a = b := by
        apply List.ext_getElem hl
        intro j h1 h2
        have := hall j h1
        simpa [List.getD_eq_getElem?_getD, List.getElem?_eq_getElem h1, List.getElem?_eq_getElem h2] using this
      rw [decide_eq_true this]
  · rw [cond_true (by simp; omega)]
    have : a ≠ b := fun h => hl (by rw [h])
    rw [decide_eq_false this]
def RSame (a b : Roots) : Bool := decide (a = b)
theorem rsame_eq (a b : Roots) (ha : a.At.length ≤ 1000000000000000) : bywayref10_Same a b = some (RSame a b) := by
  unfold bywayref10_Same RSame
  rw [gb_of2 (ints_eq _ _ ha), bind_s]
  congr 1
  rw [Bool.eq_iff_iff]
  obtain ⟨g1, l1⟩ := a
  obtain ⟨g2, l2⟩ := b
  dsimp only
  by_cases h : g1 = g2
  · subst h; simp
  · simp [h]
theorem rsame_self (a : Roots) : RSame a a = true := by unfold RSame; simp
end Go.Proofs.Ytfdmajkeihdhnaa.Tr
