/- The laws of wear, in plain Lean. Conditions: none. -/
import Derived.Test.YtjnlpphnaldjeaaPl
import Derived.Test.YtjnlpphnaldjeaaWearW
namespace Go.Proofs.Ytjnlpphnaldjeaa.Tr
open Go
set_option linter.unusedVariables false

def WOk (p : Int) (w : Wear) : Prop := 0 ≤ w.Live ∧ w.Live ≤ w.Used ∧ w.Used ≤ p ∧ 0 ≤ w.Worn ∧ w.Worn ≤ 1099511627776
instance {p : Int} {w : Wear} : Decidable (WOk p w) := by unfold WOk; exact inferInstance
def WRight (l : List Wear) (p : Int) : Prop := (1 ≤ l.length ∧ l.length ≤ 32 ∧ 1 ≤ p ∧ p ≤ 16) ∧ ∀ w ∈ l, WOk p w
instance {l : List Wear} {p : Int} : Decidable (WRight l p) := by unfold WRight; exact inferInstance

theorem wear_Right_eq (l : List Wear) (p : Int) : wear_Right l p = some (decide (WRight l p)) := by
  unfold wear_Right
  by_cases h : 1 ≤ l.length ∧ l.length ≤ 32 ∧ 1 ≤ p ∧ p ≤ 16
  · have hc : ((((decide ((l.length : Int) < (1 : Int))) || (decide ((l.length : Int) > (32 : Int)))) || (decide (p < (1 : Int)))) || (decide (p > (16 : Int)))) = false := by
      simp; omega
    rw [hc, cond_f]
    obtain ⟨e, he, hR⟩ := loopO_inv (f := fun s => wear_Right_l1 l p s) (I := fun s => ∃ i : Nat, s = i ∧ i ≤ l.length ∧ ∀ k, (hk : k < l.length) → k < i → WOk p l[k]) (μ := fun s => (l.length - s).toNat)
      (R := fun e => (e = .inl () ∧ ∀ w ∈ l, WOk p w) ∨ (e = .inr false ∧ ¬ ∀ w ∈ l, WOk p w)) (by
        rintro s ⟨i, rfl, hi, hk⟩
        unfold wear_Right_l1
        by_cases hil : i < l.length
        · rw [idx_nat hil]
          by_cases hw : WOk p l[i]
          · left
            refine ⟨_, ?_, ⟨i + 1, rfl, by omega, fun k hk1 hk2 => ?_⟩, by omega⟩
            · have : (((((decide (l[i].Live < (0 : Int))) || (decide (l[i].Live > l[i].Used))) || (decide (l[i].Used > p))) || (decide (l[i].Worn < (0 : Int)))) || (decide (l[i].Worn > (1099511627776 : Int)))) = false := by
                unfold WOk at hw; simp; omega
              simp only [bind_s, this, cond_f, addI_nat (show i < 9223372036854775807 by omega)]
              simp [hil]
            · by_cases e : k = i
              · subst e; exact hw
              · exact hk k hk1 (by omega)
          · right
            refine ⟨.inr false, ?_, .inr ⟨rfl, fun h => hw (h _ (List.getElem_mem hil))⟩⟩
            have : (((((decide (l[i].Live < (0 : Int))) || (decide (l[i].Live > l[i].Used))) || (decide (l[i].Used > p))) || (decide (l[i].Worn < (0 : Int)))) || (decide (l[i].Worn > (1099511627776 : Int)))) = true := by
              unfold WOk at hw; simp; omega
            simp only [bind_s, this, cond_t]
            simp [hil]
        · right
          refine ⟨.inl (), by simp [hil], .inl ⟨rfl, fun w hw => ?_⟩⟩
          obtain ⟨k, hk1, rfl⟩ := List.getElem_of_mem hw
          exact hk k hk1 (by omega)) (s := (0 : Int)) ⟨0, rfl, by omega, fun k _ hk => by omega⟩ (by omega)
    rw [he]
    rcases hR with ⟨rfl, hR⟩ | ⟨rfl, hR⟩
    · have : WRight l p := ⟨h, hR⟩
      simp [elS_inl, elS_inr, this]
    · have : ¬ WRight l p := fun x => hR x.2
      simp [elS_inl, elS_inr, this]
  · have hc : ((((decide ((l.length : Int) < (1 : Int))) || (decide ((l.length : Int) > (32 : Int)))) || (decide (p < (1 : Int)))) || (decide (p > (16 : Int)))) = true := by
      simp; omega
    rw [hc, cond_t]
    have : ¬ WRight l p := fun x => h x.1
    simp [this]

theorem ref_Right_l1_eq (l : List Wear) (p i : Int) : bywayref09_Right_l1 l p i = wear_Right_l1 l p i := by
  unfold bywayref09_Right_l1 wear_Right_l1
  cases decide (i < (l.length : Int)) with
  | false => rfl
  | true =>
    simp only [cond_t]
    cases idx l i with
    | none => rfl
    | some x =>
      simp only [bind_s]
      by_cases a1 : x.Live < 0
      · simp [gb, a1]
      · by_cases a2 : x.Live > x.Used
        · simp [gb, a1, a2]
        · by_cases a3 : x.Used > p
          · simp [gb, a1, a2, a3]
          · by_cases a4 : x.Worn < 0 <;> simp [gb, a1, a2, a3, a4]
theorem ref_Right_eq (l : List Wear) (p : Int) : bywayref09_Right l p = some (decide (WRight l p)) := by
  rw [← wear_Right_eq]
  unfold bywayref09_Right wear_Right
  have e : (decide ((l.length : Int) = (0 : Int))) = decide ((l.length : Int) < (1 : Int)) := decide_eq_decide.2 (by omega)
  rw [e]
  simp only [ref_Right_l1_eq]

/-! ### the first of a rule by an order -/
/-- i is the first of those that the rule takes -/
def IsFirst (l : List Wear) (R : Wear → Bool) (lt : Wear → Wear → Bool) (i : Nat) : Prop :=
  ∃ h : i < l.length, R l[i] = true ∧ ∀ k, (hk : k < l.length) → R l[k] = true → lt l[k] l[i] = false ∧ (k < i → lt l[i] l[k] = true)
/-- a strict order whose negation is one too -/
structure Swo (lt : Wear → Wear → Bool) : Prop where
  irr : ∀ a, lt a a = false
  trans : ∀ a b c, lt a b = true → lt b c = true → lt a c = true
  neg : ∀ a b c, lt c b = true → lt a b = false → lt c a = true
theorem IsFirst.uniq {l : List Wear} {R : Wear → Bool} {lt : Wear → Wear → Bool} {i j : Nat} (hi : IsFirst l R lt i) (hj : IsFirst l R lt j) : i = j := by
  obtain ⟨h1, h2, h3⟩ := hi
  obtain ⟨g1, g2, g3⟩ := hj
  rcases Nat.lt_trichotomy i j with h | h | h
  · have a := (g3 i h1 h2).2 h; have b := (h3 j g1 g2).1; rw [a] at b; cases b
  · exact h
  · have a := (h3 j g1 g2).2 h; have b := (g3 i h1 h2).1; rw [a] at b; cases b
/-- what 'first' answers -/
def FirstOf (l : List Wear) (p : Int) (R : Wear → Bool) (lt : Wear → Wear → Bool) (r : Int × Bool) : Prop :=
  (WRight l p ∧ ∃ i : Nat, r = ((i : Int), true) ∧ IsFirst l R lt i) ∨ (r = ((0 : Int), false) ∧ (WRight l p → ∀ k, (hk : k < l.length) → R l[k] = false))
theorem FirstOf.uniq {l : List Wear} {p : Int} {R : Wear → Bool} {lt : Wear → Wear → Bool} {r s : Int × Bool} (hr : FirstOf l p R lt r) (hs : FirstOf l p R lt s) : r = s := by
  rcases hr with ⟨w, i, rfl, hi⟩ | ⟨rfl, hr⟩ <;> rcases hs with ⟨w', j, rfl, hj⟩ | ⟨rfl, hs⟩
  · rw [hi.uniq hj]
  · obtain ⟨h1, h2, -⟩ := hi; have := hs w i h1; rw [h2] at this; cases this
  · obtain ⟨h1, h2, -⟩ := hj; have := hr w' j h1; rw [h2] at this; cases this
  · rfl

/-- a rule, and orders, as functions that answer -/
def FirstI (l : List Wear) (R : Wear → Bool) (lt : Wear → Wear → Bool) (s : Int × Bool × Int) : Prop :=
  ∃ i : Nat, s.2.2 = i ∧ i ≤ l.length ∧ ((s.1 = 0 ∧ s.2.1 = false ∧ ∀ k, (hk : k < l.length) → k < i → R l[k] = false) ∨
        (s.2.1 = true ∧ ∃ j : Nat, s.1 = j ∧ ∃ hj : j < l.length, j < i ∧ R l[j] = true ∧ ∀ k, (hk : k < l.length) → k < i → R l[k] = true → lt l[k] l[j] = false ∧ (k < j → lt l[j] l[k] = true)))
theorem wear_first_step (l : List Wear) (p : Int) (rule : F1 Try.prog wear_block Bool) (orders : List (F2 Try.prog wear_block wear_block Int)) (R : Wear → Bool) (lt : Wear → Wear → Bool)
    (hR : ∀ w, rule.f ⟨w, p⟩ = some (R w)) (hO : ∀ a b, wear_ahead ⟨a, p⟩ ⟨b, p⟩ orders = some (lt a b)) (hs : Swo lt) (hw : WRight l p) (s : Int × Bool × Int) (hI : FirstI l R lt s) :
    (∃ s', wear_first_l1 l p rule orders s.1 s.2.1 s.2.2 = some (.inl s') ∧ FirstI l R lt s' ∧ (l.length - s'.2.2).toNat < (l.length - s.2.2).toNat) ∨
      ∃ e, wear_first_l1 l p rule orders s.1 s.2.1 s.2.2 = some (.inr e) ∧ FirstOf l p R lt e := by
  have hw' := hw
  obtain ⟨⟨h1, h2, h3, h4⟩, -⟩ := hw'
  obtain ⟨at_, fnd, x⟩ := s
  obtain ⟨i, hi, hil, hI⟩ := hI
  obtain rfl : x = i := hi
  simp only at hI
  unfold wear_first_l1
  by_cases hx : i < l.length
  · have hd : decide ((i : Int) < (l.length : Int)) = true := by simpa using hx
    rw [hd, cond_t, idx_nat hx]
    simp only [bind_s, hR]
    left
    cases hRi : R l[i] with
    | false =>
      simp only [Bool.not_false, cond_t, bind_s, el2_at, addI_nat (show i < 9223372036854775807 by omega)]
      refine ⟨_, rfl, ⟨i + 1, rfl, by omega, ?_⟩, by simp only; omega⟩
      rcases hI with ⟨rfl, rfl, hI⟩ | ⟨rfl, j, rfl, hj, hji, hRj, hI⟩
      · refine .inl ⟨rfl, rfl, fun k hk hk' => ?_⟩
        by_cases e : k = i
        · subst e; exact hRi
        · exact hI k hk (by omega)
      · refine .inr ⟨rfl, j, rfl, hj, by omega, hRj, fun k hk hk' hRk => ?_⟩
        by_cases e : k = i
        · subst e; rw [hRi] at hRk; cases hRk
        · exact hI k hk (by omega) hRk
    | true =>
      rcases hI with ⟨rfl, rfl, hI⟩ | ⟨rfl, j, rfl, hj, hji, hRj, hI⟩
      · simp only [Bool.not_true, Bool.not_false, cond_f, gb_false, bind_s, el2_at, Bool.true_or, cond_t, addI_nat (show i < 9223372036854775807 by omega)]
        refine ⟨_, rfl, ⟨i + 1, rfl, by omega, .inr ⟨rfl, i, rfl, hx, by omega, hRi, fun k hk hk' hRk => ?_⟩⟩, by simp only; omega⟩
        by_cases e : k = i
        · subst e; exact ⟨hs.irr _, fun h => by omega⟩
        · rw [hI k hk (by omega)] at hRk; cases hRk
      · simp only [Bool.not_true, Bool.not_false, cond_f, gb_true, idx_nat hj, hO, bind_s, el2_at, Bool.false_or, cond_t, addI_nat (show i < 9223372036854775807 by omega)]
        cases hlt : lt l[i] l[j] with
        | true =>
          simp only [cond_t, bind_s, addI_nat (show i < 9223372036854775807 by omega)]
          refine ⟨_, rfl, ⟨i + 1, rfl, by omega, .inr ⟨rfl, i, rfl, hx, by omega, hRi, fun k hk hk' hRk => ?_⟩⟩, by simp only; omega⟩
          by_cases e : k = i
          · subst e; exact ⟨hs.irr _, fun h => by omega⟩
          · have a := (hI k hk (by omega) hRk).1
            have b := hs.neg _ _ _ hlt a
            refine ⟨?_, fun _ => b⟩
            cases h : lt l[k] l[i] with
            | false => rfl
            | true =>
              rw [hs.trans _ _ _ h hlt] at a; cases a
        | false =>
          simp only [cond_f, bind_s, addI_nat (show i < 9223372036854775807 by omega)]
          refine ⟨_, rfl, ⟨i + 1, rfl, by omega, .inr ⟨rfl, j, rfl, hj, by omega, hRj, fun k hk hk' hRk => ?_⟩⟩, by simp only; omega⟩
          by_cases e : k = i
          · subst e; exact ⟨hlt, fun h => by omega⟩
          · exact hI k hk (by omega) hRk
  · have hd : decide ((i : Int) < (l.length : Int)) = false := by simp; omega
    rw [hd, cond_f]
    right
    refine ⟨_, rfl, ?_⟩
    rcases hI with ⟨rfl, rfl, hI⟩ | ⟨rfl, j, rfl, hj, hji, hRj, hI⟩
    · exact .inr ⟨rfl, fun _ k hk => hI k hk (by omega)⟩
    · exact .inl ⟨hw, j, rfl, hj, hRj, fun k hk hRk => hI k hk (by omega) hRk⟩
theorem wear_first_eq (l : List Wear) (p : Int) (rule : F1 Try.prog wear_block Bool) (orders : List (F2 Try.prog wear_block wear_block Int)) (R : Wear → Bool) (lt : Wear → Wear → Bool)
    (hR : ∀ w, rule.f ⟨w, p⟩ = some (R w)) (hO : ∀ a b, wear_ahead ⟨a, p⟩ ⟨b, p⟩ orders = some (lt a b)) (hs : Swo lt) :
    ∃ r, wear_first l p rule orders = some r ∧ FirstOf l p R lt r := by
  unfold wear_first
  rw [wear_Right_eq]
  by_cases hw : WRight l p
  · simp only [bind_s, hw, decide_true, Bool.not_true, cond_f]
    have hl := hw.1.2.1
    obtain ⟨e, he, hQ⟩ := loopO_inv (f := fun s => wear_first_l1 l p rule orders s.1 s.2.1 s.2.2) (I := FirstI l R lt) (μ := fun s => (l.length - s.2.2).toNat) (R := fun e => FirstOf l p R lt e)
      (fun s hs' => wear_first_step l p rule orders R lt hR hO hs hw s hs') (s := ((0 : Int), false, (0 : Int))) ⟨0, rfl, by omega, .inl ⟨rfl, rfl, fun k _ hk => by omega⟩⟩ (by simp only; omega)
    rw [he, bind_s, el2_eq]
    exact ⟨_, rfl, hQ⟩
  · simp only [bind_s, hw, decide_false, Bool.not_false, cond_t]
    exact ⟨_, rfl, .inr ⟨rfl, fun h => absurd h hw⟩⟩

/-! ### orders -/
def lexI : List Int → Bool
  | [] => false
  | n :: r => bif decide (n ≠ 0) then decide (n < 0) else lexI r
theorem ahead_eq (a b : wear_block) (os : List (F2 Try.prog wear_block wear_block Int)) (ns : List Int) (hl : os.length = ns.length) (h32 : ns.length ≤ 32) (h : ∀ k, (hk : k < ns.length) → (os[k]'(by omega)).f a b = some ns[k]) :
    wear_ahead a b os = some (lexI ns) := by
  unfold wear_ahead
  obtain ⟨e, he, hR⟩ := loopO_inv (f := fun s => wear_ahead_l1 a b os s) (I := fun s => ∃ i : Nat, s = i ∧ i ≤ ns.length ∧ lexI ns = lexI (ns.drop i)) (μ := fun s => (ns.length - s).toNat)
    (R := fun e => (e = .inl () ∧ lexI ns = false) ∨ e = .inr (lexI ns)) (by
      rintro s ⟨i, rfl, hi, hL⟩
      unfold wear_ahead_l1
      by_cases hx : i < ns.length
      · have hd : decide ((i : Int) < (os.length : Int)) = true := by simp; omega
        have hdr : ns.drop i = ns[i] :: ns.drop (i + 1) := List.drop_eq_getElem_cons hx
        rw [hd, cond_t, idx_nat (by omega), bind_s, h i hx, bind_s, addI_nat (by omega), bind_s]
        rw [hdr] at hL
        by_cases hn : ns[i] = 0
        · left
          refine ⟨_, by rw [show decide (ns[i] ≠ 0) = false by simpa using hn, cond_f], ⟨i + 1, rfl, by omega, ?_⟩, by omega⟩
          rw [hL]; simp [lexI, hn]
        · right
          refine ⟨_, by rw [show decide (ns[i] ≠ 0) = true by simpa using hn, cond_t], .inr ?_⟩
          rw [hL]; simp [lexI, hn]
      · have hd : decide ((i : Int) < (os.length : Int)) = false := by simp; omega
        rw [hd, cond_f]
        right
        refine ⟨_, rfl, .inl ⟨rfl, ?_⟩⟩
        rw [hL, List.drop_of_length_le (by omega)]; rfl) (s := (0 : Int)) ⟨0, rfl, by omega, rfl⟩ (by omega)
  rw [he, bind_s]
  rcases hR with ⟨rfl, hR⟩ | rfl
  · rw [elS_inl, hR]
  · rw [elS_inr]
theorem cmp_eq (x y : Int) : cmp_Compare_int x y = some (bif decide (x < y) then -1 else bif decide (x > y) then 1 else 0) := by
  unfold cmp_Compare_int cmp_isNaN_int
  by_cases h1 : x < y
  · simp [h1]
  · by_cases h2 : y < x <;> simp [h1, h2]

def ltWorn (a b : Wear) : Bool := decide (a.Worn < b.Worn)
def ltUsed (a b : Wear) : Bool := decide (a.Used > b.Used ∨ a.Used = b.Used ∧ a.Worn < b.Worn)
def ltBad (a b : Wear) : Bool := bif a.Bad then (bif b.Bad then decide (a.Live < b.Live ∨ a.Live = b.Live ∧ a.Worn < b.Worn) else true) else (bif b.Bad then false else decide (a.Live < b.Live ∨ a.Live = b.Live ∧ a.Worn < b.Worn))
theorem swo_worn : Swo ltWorn := ⟨fun a => by simp [ltWorn], fun a b c => by simp [ltWorn]; omega, fun a b c => by simp [ltWorn]; omega⟩
theorem swo_used : Swo ltUsed := ⟨fun a => by simp [ltUsed], fun a b c => by simp [ltUsed]; omega, fun a b c => by simp [ltUsed]; omega⟩
theorem swo_bad : Swo ltBad := ⟨fun a => by cases h : a.Bad <;> simp [ltBad, h], fun a b c => by
  cases h1 : a.Bad <;> cases h2 : b.Bad <;> cases h3 : c.Bad <;> simp [ltBad, h1, h2, h3] <;> omega, fun a b c => by
  cases h1 : a.Bad <;> cases h2 : b.Bad <;> cases h3 : c.Bad <;> simp [ltBad, h1, h2, h3] <;> omega⟩

def rFree (p : Int) (w : Wear) : Bool := !w.Bad && decide (w.Used < p)
def rDead (w : Wear) : Bool := !w.Bad && decide (w.Live = 0) && decide (w.Used > 0)
def rMix (p : Int) (w : Wear) : Bool := bif w.Bad then decide (w.Live > 0) else decide (w.Used = p) && decide (w.Live > 0) && decide (w.Live < p)

theorem wear_Dead_eq (l : List Wear) (p : Int) : ∃ r, wear_Dead l p = some r ∧ FirstOf l p rDead ltWorn r := by
  obtain ⟨r, h1, h2⟩ := wear_first_eq l p ⟨wear_block_dead⟩ [⟨wear_block_fresher⟩] rDead ltWorn (fun w => rfl) (fun a b => by
    rw [ahead_eq _ _ _ [bif decide (a.Worn < b.Worn) then -1 else bif decide (a.Worn > b.Worn) then 1 else 0] rfl (by simp) (fun k hk => by
      obtain rfl : k = 0 := by simpa using hk
      show wear_block_fresher _ _ = _
      unfold wear_block_fresher
      rw [cmp_eq]; rfl)]
    by_cases h1 : a.Worn < b.Worn
    · simp [lexI, ltWorn, h1]
    · by_cases h2 : b.Worn < a.Worn <;> simp [lexI, ltWorn, h1, h2]) swo_worn
  refine ⟨r, ?_, h2⟩
  unfold wear_Dead
  rw [h1, bind_s]
theorem wear_Front_eq (l : List Wear) (p : Int) : ∃ r, wear_Front l p = some r ∧ FirstOf l p (rFree p) ltUsed r := by
  obtain ⟨r, h1, h2⟩ := wear_first_eq l p ⟨wear_block_free⟩ [⟨wear_block_fuller⟩, ⟨wear_block_fresher⟩] (rFree p) ltUsed (fun w => rfl) (fun a b => by
    rw [ahead_eq _ _ _ [bif decide (b.Used < a.Used) then -1 else bif decide (b.Used > a.Used) then 1 else 0, bif decide (a.Worn < b.Worn) then -1 else bif decide (a.Worn > b.Worn) then 1 else 0] rfl (by simp) (fun k hk => by
      have hk : k < 2 := by simpa using hk
      rcases (show k = 0 ∨ k = 1 by omega) with rfl | rfl
      · show wear_block_fuller _ _ = _
        unfold wear_block_fuller
        rw [cmp_eq]; rfl
      · show wear_block_fresher _ _ = _
        unfold wear_block_fresher
        rw [cmp_eq]; rfl)]
    by_cases h1 : a.Worn < b.Worn <;> by_cases h2 : b.Worn < a.Worn <;> by_cases h3 : b.Used < a.Used <;> by_cases h4 : a.Used < b.Used <;> simp [lexI, ltUsed, h1, h2, h3, h4] <;> omega) swo_used
  refine ⟨r, ?_, h2⟩
  unfold wear_Front
  rw [h1, bind_s]
theorem wear_Victim_eq (l : List Wear) (p : Int) : ∃ r, wear_Victim l p = some r ∧ FirstOf l p (rMix p) ltBad r := by
  obtain ⟨r, h1, h2⟩ := wear_first_eq l p ⟨wear_block_mixed⟩ [⟨wear_block_worse⟩, ⟨wear_block_emptier⟩, ⟨wear_block_fresher⟩] (rMix p) ltBad (fun w => by
      show wear_block_mixed _ = _
      cases h : w.Bad <;> simp [wear_block_mixed, rMix, h]) (fun a b => by
    rw [ahead_eq _ _ _ [bif decide (a.Bad = b.Bad) then 0 else bif a.Bad then -1 else 1, bif decide (a.Live < b.Live) then -1 else bif decide (a.Live > b.Live) then 1 else 0, bif decide (a.Worn < b.Worn) then -1 else bif decide (a.Worn > b.Worn) then 1 else 0] rfl (by simp) (fun k hk => by
      have hk : k < 3 := by simpa using hk
      rcases (show k = 0 ∨ k = 1 ∨ k = 2 by omega) with rfl | rfl | rfl
      · show wear_block_worse _ _ = _
        cases h : a.Bad <;> cases h' : b.Bad <;> simp [wear_block_worse, h, h']
      · show wear_block_emptier _ _ = _
        unfold wear_block_emptier
        rw [cmp_eq]; rfl
      · show wear_block_fresher _ _ = _
        unfold wear_block_fresher
        rw [cmp_eq]; rfl)]
    cases h : a.Bad <;> cases h' : b.Bad <;> by_cases h1 : a.Worn < b.Worn <;> by_cases h2 : b.Worn < a.Worn <;> by_cases h3 : b.Live < a.Live <;> by_cases h4 : a.Live < b.Live <;> simp [lexI, ltBad, h, h', h1, h2, h3, h4] <;> omega) swo_bad
  refine ⟨r, ?_, h2⟩
  unfold wear_Victim
  rw [h1, bind_s]

/-! ### the reference -/
theorem ref_ahead1 (a b : Wear) : bywayref09_ahead a b 1 = some (ltUsed a b) := by
  unfold bywayref09_ahead
  by_cases h : a.Used = b.Used <;> simp [ltUsed, h] <;> omega
theorem ref_ahead2 (a b : Wear) : bywayref09_ahead a b 2 = some (ltWorn a b) := by
  unfold bywayref09_ahead; simp [ltWorn]
theorem ref_ahead3 (a b : Wear) : bywayref09_ahead a b 3 = some (ltBad a b) := by
  unfold bywayref09_ahead
  cases h : a.Bad <;> cases h' : b.Bad <;> by_cases h1 : a.Live = b.Live <;> simp [ltBad, h, h', h1]
def rRef (p : Int) (as_ : Int) (w : Wear) : Bool :=
  bif decide (as_ = 1) then !w.Bad && decide (w.Used ≠ p) else bif decide (as_ = 2) then !w.Bad && decide (w.Live = 0) && decide (w.Used ≠ 0) else (w.Bad && decide (w.Live > 0)) || (!w.Bad && decide (w.Used = p) && decide (w.Live > 0) && decide (w.Live ≠ p))
theorem ref_such (w : Wear) (p a : Int) : bywayref09_Such w p a = some (rRef p a w) := by
  unfold bywayref09_Such rRef
  cases decide (a = 1) <;> cases decide (a = 2) <;> rfl
theorem ref_First2 (l : List Wear) (p a : Int) (lt : Wear → Wear → Bool) (hlt : ∀ x y, bywayref09_ahead x y a = some (lt x y)) (hn : l.length ≤ 32) (i : Nat) (hi : i < l.length) :
    ∃ b, loopO (fun s => bywayref09_First_l2 l p a (i : Int) s.1 s.2) (rRef p a l[i], (0 : Int)) = some b ∧ (b = true ↔ IsFirst l (rRef p a) lt i) := by
  refine loopO_inv (f := fun s => bywayref09_First_l2 l p a (i : Int) s.1 s.2) (I := fun s => ∃ k : Nat, s.2 = k ∧ k ≤ l.length ∧ (s.1 = true ↔ rRef p a l[i] = true ∧ ∀ j, (hj : j < l.length) → j < k → rRef p a l[j] = true → lt l[j] l[i] = false ∧ (j < i → lt l[i] l[j] = true)))
    (μ := fun s => (l.length - s.2).toNat) (R := fun b => b = true ↔ IsFirst l (rRef p a) lt i) ?_ ⟨0, rfl, by omega, ⟨fun h => ⟨h, fun j _ hj => by omega⟩, fun h => h.1⟩⟩ (by simp only; omega)
  rintro ⟨b, x⟩ ⟨k, hk, hkl, hI⟩
  obtain rfl : x = k := hk
  simp only at hI
  unfold bywayref09_First_l2
  by_cases hx : k < l.length
  · have hd : decide ((k : Int) < (l.length : Int)) = true := by simpa using hx
    rw [hd, cond_t, idx_nat hx, bind_s, ref_such, bind_s, idx_nat hi]
    left
    have hnx := addI_nat (show k < 9223372036854775807 by omega)
    cases hR : rRef p a l[k] with
    | false =>
      simp only [gb_false, bind_s, Bool.false_and, cond_f, hnx]
      refine ⟨_, rfl, ⟨k + 1, rfl, by omega, hI.trans ⟨fun h => ⟨h.1, fun j hj hjk hRj => ?_⟩, fun h => ⟨h.1, fun j hj hjk => h.2 j hj (by omega)⟩⟩⟩, by simp only; omega⟩
      by_cases e : j = k
      · subst e; rw [hR] at hRj; cases hRj
      · exact h.2 j hj (by omega) hRj
    | true =>
      have hki : decide ((k : Int) < (i : Int)) = decide (k < i) := decide_eq_decide.2 (by omega)
      simp only [gb_true, bind_s, Bool.true_and, hlt, hki]
      cases h1 : lt l[k] l[i] with
      | true =>
        simp only [Bool.not_true, Bool.false_and, gb_false, bind_s, Bool.true_or, cond_t, hnx]
        refine ⟨_, rfl, ⟨k + 1, rfl, by omega, ⟨fun h => by simp at h, fun h => ?_⟩⟩, by simp only; omega⟩
        have := (h.2 k hx (by omega) hR).1
        rw [h1] at this; cases this
      | false =>
        by_cases hlt' : k < i
        · simp only [hlt', decide_true, Bool.not_false, Bool.true_and, gb_true, bind_s, Bool.false_or, hlt]
          cases h2 : lt l[i] l[k] with
          | true =>
            simp only [Bool.not_true, cond_f, bind_s, hnx]
            refine ⟨_, rfl, ⟨k + 1, rfl, by omega, hI.trans ⟨fun h => ⟨h.1, fun j hj hjk hRj => ?_⟩, fun h => ⟨h.1, fun j hj hjk => h.2 j hj (by omega)⟩⟩⟩, by simp only; omega⟩
            by_cases e : j = k
            · subst e; exact ⟨h1, fun _ => h2⟩
            · exact h.2 j hj (by omega) hRj
          | false =>
            simp only [Bool.not_false, cond_t, bind_s, hnx]
            refine ⟨_, rfl, ⟨k + 1, rfl, by omega, ⟨fun h => by simp at h, fun h => ?_⟩⟩, by simp only; omega⟩
            have := (h.2 k hx (by omega) hR).2 hlt'
            rw [h2] at this; cases this
        · simp only [hlt', decide_false, Bool.and_false, Bool.false_and, gb_false, bind_s, Bool.or_false, cond_f, hnx]
          refine ⟨_, rfl, ⟨k + 1, rfl, by omega, hI.trans ⟨fun h => ⟨h.1, fun j hj hjk hRj => ?_⟩, fun h => ⟨h.1, fun j hj hjk => h.2 j hj (by omega)⟩⟩⟩, by simp only; omega⟩
          by_cases e : j = k
          · subst e; exact ⟨h1, fun h => absurd h hlt'⟩
          · exact h.2 j hj (by omega) hRj
  · have hd : decide ((k : Int) < (l.length : Int)) = false := by simp; omega
    rw [hd, cond_f]
    right
    exact ⟨_, rfl, hI.trans ⟨fun h => ⟨hi, h.1, fun j hj => h.2 j hj (by omega)⟩, fun ⟨_, h1, h2⟩ => ⟨h1, fun j hj _ => h2 j hj⟩⟩⟩
theorem ref_First_eq (l : List Wear) (p a : Int) (lt : Wear → Wear → Bool) (hlt : ∀ x y, bywayref09_ahead x y a = some (lt x y)) (R : Wear → Bool) (hR : WRight l p → ∀ w ∈ l, R w = rRef p a w) {s : Int × Bool} (hs : FirstOf l p R lt s) :
    bywayref09_First l p a = some s := by
  unfold bywayref09_First
  rw [ref_Right_eq, bind_s]
  by_cases hw : WRight l p
  · have hn := hw.1.2.1
    have hiff : ∀ i, IsFirst l (rRef p a) lt i ↔ IsFirst l R lt i := fun i => by
      have e := hR hw
      constructor
      · rintro ⟨h, h1, h2⟩
        exact ⟨h, by rw [e _ (List.getElem_mem h)]; exact h1, fun k hk hRk => h2 k hk (by rw [← e _ (List.getElem_mem hk)]; exact hRk)⟩
      · rintro ⟨h, h1, h2⟩
        exact ⟨h, by rw [← e _ (List.getElem_mem h)]; exact h1, fun k hk hRk => h2 k hk (by rw [e _ (List.getElem_mem hk)]; exact hRk)⟩
    rw [show (!decide (WRight l p)) = false by simp [hw], cond_f]
    obtain ⟨e, he, hQ⟩ := loopO_inv (f := fun s => bywayref09_First_l1 l p a s) (I := fun s => ∃ i : Nat, s = i ∧ i ≤ l.length ∧ ∀ j, j < i → ¬ IsFirst l R lt j) (μ := fun s => (l.length - s).toNat)
      (R := fun e => (e = .inl () ∧ ∀ j, ¬ IsFirst l R lt j) ∨ ∃ i : Nat, e = .inr ((i : Int), true) ∧ IsFirst l R lt i) (by
        rintro s ⟨i, rfl, hil, hI⟩
        unfold bywayref09_First_l1
        by_cases hx : i < l.length
        · have hd : decide ((i : Int) < (l.length : Int)) = true := by simpa using hx
          obtain ⟨b, hb, hB⟩ := ref_First2 l p a lt hlt hn i hx
          rw [hd, cond_t, idx_nat hx, bind_s, ref_such, bind_s, hb, bind_s, addI_nat (by omega), bind_s]
          cases b with
          | true => exact .inr ⟨_, rfl, .inr ⟨i, rfl, (hiff i).1 (hB.1 rfl)⟩⟩
          | false =>
            refine .inl ⟨_, rfl, ⟨i + 1, rfl, by omega, fun j hj h => ?_⟩, by omega⟩
            by_cases e : j = i
            · subst e; have := hB.2 ((hiff j).2 h); cases this
            · exact hI j (by omega) h
        · have hd : decide ((i : Int) < (l.length : Int)) = false := by simp; omega
          rw [hd, cond_f]
          exact .inr ⟨_, rfl, .inl ⟨rfl, fun j hj => hI j (by obtain ⟨h, -⟩ := hj; omega) hj⟩⟩) (s := (0 : Int)) ⟨0, rfl, by omega, fun j hj => by omega⟩ (by omega)
    rw [he, bind_s]
    rcases hQ with ⟨rfl, hQ⟩ | ⟨i, rfl, hQ⟩
    · rw [elS_inl]
      rcases hs with ⟨-, i, rfl, hi⟩ | ⟨rfl, -⟩
      · exact absurd hi (hQ i)
      · rfl
    · rw [elS_inr]
      exact congrArg some (FirstOf.uniq (.inl ⟨hw, i, rfl, hQ⟩) hs)
  · rw [show (!decide (WRight l p)) = true by simp [hw], cond_t]
    rcases hs with ⟨h, -⟩ | ⟨rfl, -⟩
    · exact absurd h hw
    · rfl
end Go.Proofs.Ytjnlpphnaldjeaa.Tr
