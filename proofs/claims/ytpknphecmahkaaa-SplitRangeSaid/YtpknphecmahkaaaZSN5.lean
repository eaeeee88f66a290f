/- What the proof leans on. Conditions: none. -/
import Derived.Test.YtpknphecmahkaaaZSN4
set_option linter.all false
set_option linter.unusedSimpArgs false
set_option linter.unusedVariables false
set_option linter.unusedSectionVars false
namespace Go.Proofs.Ytpknphecmahkaaa.Tr
open Go
set_option maxRecDepth 100000
def fitN (l : List Prefix) (k : Vec UInt8 16) (b : Int) : Nat := l.countP fun p => decide (p.Bits = b ∧ KF p k)
theorem PC.eq {p q : Prefix} (hp : PC p q) (h : p.Len = q.Len) : p = q := by
  have h5 := hp.2.2.2.2
  refine hp.antisymm ⟨hp.2.1, hp.1, hp.2.2.1.symm, by omega, ?_⟩
  unfold agree at h5 ⊢
  rw [← h]; exact h5.symm
theorem fit_pos {l : List Prefix} {k : Vec UInt8 16} {b : Int} : 0 < fitN l k b ↔ kv k % 2 ^ (128 - b.toNat) = 0 ∧ Cov l b (kv k) := by
  unfold fitN
  rw [List.countP_pos_iff]
  unfold Cov
  constructor
  · rintro ⟨p, hp, h⟩
    obtain ⟨rfl, h2⟩ := of_decide_eq_true h
    rw [KF_in] at h2
    exact ⟨h2.2.1, p, hp, h2.1, rfl, h2.2.2⟩
  · rintro ⟨h1, p, hp, h2, rfl, h3⟩
    exact ⟨p, hp, decide_eq_true ⟨rfl, KF_in.2 ⟨h2, h1, h3⟩⟩⟩
theorem fit_one {l : List Prefix} (hn : Norm l) (hs : l.Pairwise PL) (k : Vec UInt8 16) (b : Int) : fitN l k b ≤ 1 := by
  have key : ∀ m : List Prefix, (∀ x ∈ m, x ∈ l) → m.Pairwise PL → fitN m k b ≤ 1 := by
    intro m
    induction m with
    | nil => intro _ _; exact Nat.zero_le _
    | cons x m ih =>
      intro hm hs
      rw [List.pairwise_cons] at hs
      unfold fitN
      rw [List.countP_cons]
      by_cases hx : x.Bits = b ∧ KF x k
      · have : m.countP (fun p => decide (p.Bits = b ∧ KF p k)) = 0 := by
          rw [List.countP_eq_zero]
          intro y hy h
          have hy2 := of_decide_eq_true h
          have k1 := KF_in.1 hx.2
          have k2 := KF_in.1 hy2.2
          have hxy : x = y := by
            rcases laminar k1.1 k2.1 (hx.1.trans hy2.1.symm) with h | h | h | h
            · exact hn.cv _ (hm x (List.mem_cons_self ..)) _ (hm y (List.mem_cons_of_mem _ hy)) h
            · exact (hn.cv _ (hm y (List.mem_cons_of_mem _ hy)) _ (hm x (List.mem_cons_self ..)) h).symm
            · have := k1.2.2; have := k2.2.2; unfold Inn at *; omega
            · have := k1.2.2; have := k2.2.2; unfold Inn at *; omega
          have := hs.1 y hy
          rw [hxy] at this
          exact PL.irr _ this
        rw [this, if_pos (decide_eq_true hx)]; exact Nat.le_refl _
      · rw [if_neg (by simpa using hx)]
        exact ih (fun y hy => hm y (List.mem_cons_of_mem _ hy)) hs.2
  exact key l (fun _ h => h) hs
end Go.Proofs.Ytpknphecmahkaaa.Tr
namespace Go.Proofs.Ytpknphecmahkaaa.Tr
open Go
set_option maxRecDepth 100000
def pe (p : Prefix) : Nat := pa p + (ps p - 2 ^ (128 - p.Bits.toNat))
def wi (lo hi : Nat) : Nat → Prefix → List Prefix
  | 0, p => if pe p < lo ∨ hi < pa p then [] else [p]
  | n + 1, p => if pe p < lo ∨ hi < pa p then [] else if lo ≤ pa p ∧ pe p ≤ hi then [p] else wi lo hi n (loP p) ++ wi lo hi n (hiP p)
theorem u_ps {p : Prefix} (h : PM p) : 2 ^ (128 - p.Bits.toNat) ∣ ps p := Nat.pow_dvd_pow 2 (by have := h.len; omega)
theorem u_pa {p : Prefix} (h : PM p) : 2 ^ (128 - p.Bits.toNat) ∣ pa p := Nat.dvd_trans (u_ps h) h.dvd
theorem u_le {p : Prefix} (h : PM p) : 2 ^ (128 - p.Bits.toNat) ≤ ps p := Nat.le_of_dvd (ps_pos p) (u_ps h)
theorem inn_pe {p : Prefix} (h : PM p) {k : Nat} (hk : k % 2 ^ (128 - p.Bits.toNat) = 0) : Inn p k ↔ pa p ≤ k ∧ k ≤ pe p := by
  have h1 := u_ps h
  have h2 := u_pa h
  have h3 := u_le h
  have hu : 0 < 2 ^ (128 - p.Bits.toNat) := Nat.pos_of_neZero _
  unfold Inn pe
  generalize 2 ^ (128 - p.Bits.toNat) = u at *
  obtain ⟨x, hx⟩ := h1
  obtain ⟨y, hy⟩ := h2
  obtain ⟨z, hz⟩ := Nat.dvd_of_mod_eq_zero hk
  constructor
  · intro g
    refine ⟨g.1, ?_⟩
    have g2 := g.2
    rw [hx, hy, hz, ← Nat.mul_add] at g2
    have g3 : z < y + x := Nat.lt_of_mul_lt_mul_left g2
    have g4 := Nat.mul_le_mul_left u g3
    rw [Nat.mul_succ, Nat.mul_add] at g4
    omega
  · intro g; omega
theorem pe_half {p : Prefix} (h : PM p) (hl : p.Len < p.Bits) : pe (hiP p) = pe p ∧ pe (loP p) + 2 ^ (128 - p.Bits.toNat) = pa (hiP p) ∧ pa (hiP p) ≤ pe p ∧ pe (loP p) < pa (hiP p) := by
  obtain ⟨e1, e2, e3, e4⟩ := ps_half h hl
  have h1 := u_le (lo_PM h hl)
  have hb1 : (loP p).Bits = p.Bits := rfl
  have hb2 : (hiP p).Bits = p.Bits := rfl
  rw [hb1] at h1
  have hu : 0 < 2 ^ (128 - p.Bits.toNat) := Nat.pos_of_neZero _
  unfold pe
  rw [hb1, hb2]
  omega
theorem pe_end {p : Prefix} (h : PM p) (hl : p.Len = p.Bits) : pe p = pa p := by
  unfold pe ps
  have := h.len
  rw [show p.Len.toNat = p.Bits.toNat by omega]; omega
section
variable {lo hi : Nat}
theorem wi_in : ∀ (n : Nat) {p : Prefix}, PM p → p.Len + n = p.Bits → ∀ q ∈ wi lo hi n p, PC p q ∧ lo ≤ pa q ∧ pe q ≤ hi
  | 0, p, h, hl, q, hq => by
    have he := pe_end h (by omega)
    rw [wi] at hq
    split at hq
    · cases hq
    · rw [List.mem_singleton] at hq; subst hq
      exact ⟨PC.refl h, by omega, by omega⟩
  | n + 1, p, h, hl, q, hq => by
    rw [wi] at hq
    split at hq
    · cases hq
    · split at hq
      · rw [List.mem_singleton] at hq; subst hq
        exact ⟨PC.refl h, by omega, by omega⟩
      · rcases List.mem_append.1 hq with hq | hq
        · obtain ⟨h1, h2⟩ := wi_in n (lo_PM h (by omega)) (by unfold loP; dsimp only; omega) q hq
          exact ⟨(lo_PC h (by omega)).trans h1, h2⟩
        · obtain ⟨h1, h2⟩ := wi_in n (hi_PM h (by omega)) (by unfold hiP; dsimp only; omega) q hq
          exact ⟨(hi_PC h (by omega)).trans h1, h2⟩
theorem wi_all : ∀ (n : Nat) {p : Prefix}, PM p → p.Len + n = p.Bits → ∀ k, k % 2 ^ (128 - p.Bits.toNat) = 0 → Inn p k → lo ≤ k → k ≤ hi → ∃ q ∈ wi lo hi n p, Inn q k
  | 0, p, h, hl, k, hk, hi1, h1, h2 => by
    have h3 := (inn_pe h hk).1 hi1
    have he := pe_end h (by omega)
    rw [wi, if_neg (by omega)]
    exact ⟨p, List.mem_singleton_self _, hi1⟩
  | n + 1, p, h, hl, k, hk, hi1, h1, h2 => by
    have h3 := (inn_pe h hk).1 hi1
    rw [wi, if_neg (by omega)]
    split
    · exact ⟨p, List.mem_singleton_self _, hi1⟩
    · rcases (half_inn h (by omega) k).1 hi1 with g | g
      · obtain ⟨q, hq, hq2⟩ := wi_all n (lo_PM h (by omega)) (by unfold loP; dsimp only; omega) k hk g h1 h2
        exact ⟨q, List.mem_append_left _ hq, hq2⟩
      · obtain ⟨q, hq, hq2⟩ := wi_all n (hi_PM h (by omega)) (by unfold hiP; dsimp only; omega) k hk g h1 h2
        exact ⟨q, List.mem_append_right _ hq, hq2⟩
theorem wi_bef : ∀ (n : Nat) {p : Prefix}, PM p → p.Len + n = p.Bits → (wi lo hi n p).Pairwise Bef
  | 0, p, h, hl => by
    rw [wi]
    split
    · exact List.Pairwise.nil
    · exact List.pairwise_singleton ..
  | n + 1, p, h, hl => by
    rw [wi]
    split
    · exact List.Pairwise.nil
    · split
      · exact List.pairwise_singleton ..
      · obtain ⟨e1, e2, e3, e4⟩ := ps_half h (by omega)
        rw [List.pairwise_append]
        refine ⟨wi_bef n (lo_PM h (by omega)) (by unfold loP; dsimp only; omega), wi_bef n (hi_PM h (by omega)) (by unfold hiP; dsimp only; omega), fun q hq r hr => ?_⟩
        have h1 := (wi_in n (lo_PM h (by omega)) (by unfold loP; dsimp only; omega) q hq).1
        have h2 := (wi_in n (hi_PM h (by omega)) (by unfold hiP; dsimp only; omega) r hr).1
        refine .inr ⟨?_, ?_⟩
        · rw [← h1.2.2.1, ← h2.2.2.1]; rfl
        · have := h1.sub; have := h2.sub; omega
theorem wi_max : ∀ (n : Nat) {p : Prefix}, PM p → p.Len + n = p.Bits → ∀ q ∈ wi lo hi n p, ∀ r, PC p r → PC r q → r ≠ q → ¬ (lo ≤ pa r ∧ pe r ≤ hi)
  | 0, p, h, hl, q, hq, r, h1, h2, h3 => by
    rw [wi] at hq
    split at hq
    · cases hq
    · rw [List.mem_singleton] at hq; subst hq
      exact absurd (h2.antisymm h1) h3
  | n + 1, p, h, hl, q, hq, r, h1, h2, h3 => by
    rw [wi] at hq
    split at hq
    · cases hq
    · rename_i c1
      split at hq
      · rw [List.mem_singleton] at hq; subst hq
        exact absurd (h2.antisymm h1) h3
      · rename_i c2
        by_cases e : r = p
        · subst e; exact c2
        · have hrl : p.Len < r.Len := by
            have := h1.2.2.2.1
            rcases Int.lt_or_eq_of_le this with g | g
            · exact g
            · exact absurd (h1.eq g).symm e
          have step : ∀ c : Prefix, PM c → c.Bits = p.Bits → c.Len = p.Len + 1 → PC c q → PC c r := fun c hc hb hcl g => by
            have hin : Inn c (pa q) := g.inn (inn_lo q)
            have hin2 : Inn r (pa q) := h2.inn (inn_lo q)
            rcases laminar hc h1.2.1 (by rw [hb, h1.2.2.1]) with g1 | g1 | g1 | g1
            · exact g1
            · have e := g1.eq (by have := g1.2.2.2.1; omega)
              rw [e]; exact PC.refl hc
            · unfold Inn at hin hin2; omega
            · unfold Inn at hin hin2; omega
          rcases List.mem_append.1 hq with hq | hq
          · have g := (wi_in n (lo_PM h (by omega)) (by unfold loP; dsimp only; omega) q hq).1
            exact wi_max n (lo_PM h (by omega)) (by unfold loP; dsimp only; omega) q hq r (step _ g.1 rfl rfl g) h2 h3
          · have g := (wi_in n (hi_PM h (by omega)) (by unfold hiP; dsimp only; omega) q hq).1
            exact wi_max n (hi_PM h (by omega)) (by unfold hiP; dsimp only; omega) q hq r (step _ g.1 rfl rfl g) h2 h3
theorem wi_one {n : Nat} {p : Prefix} (h : ¬ (pe p < lo ∨ hi < pa p)) (g : lo ≤ pa p ∧ pe p ≤ hi) : wi lo hi n p = [p] := by
  cases n with
  | zero => rw [wi, if_neg h]
  | succ n => rw [wi, if_neg h, if_pos g]
theorem wi_none {n : Nat} {p : Prefix} (h : pe p < lo ∨ hi < pa p) : wi lo hi n p = [] := by
  cases n with
  | zero => rw [wi, if_pos h]
  | succ n => rw [wi, if_pos h]
theorem pe_ge {p : Prefix} (h : PM p) : pa p ≤ pe p := by unfold pe; omega
theorem wi_len1 : ∀ (n : Nat) {p : Prefix}, PM p → p.Len + n = p.Bits → pe p ≤ hi → (wi lo hi n p).length ≤ n + 1
  | 0, p, h, hl, hh => by
    rw [wi]; split <;> simp
  | n + 1, p, h, hl, hh => by
    rw [wi]
    split
    · simp
    · split
      · simp
      · obtain ⟨e1, e2, e3, e4⟩ := pe_half h (by omega)
        have h1 := wi_len1 n (lo_PM h (by omega)) (by unfold loP; dsimp only; omega) (show pe (loP p) ≤ hi by omega)
        have h2 := wi_len1 n (hi_PM h (by omega)) (by unfold hiP; dsimp only; omega) (show pe (hiP p) ≤ hi by omega)
        rw [List.length_append]
        by_cases c : lo ≤ pa (hiP p)
        · have hg := pe_ge (hi_PM h (by omega))
          rw [wi_one (p := hiP p) (by omega) ⟨c, by omega⟩]
          simp; omega
        · rw [wi_none (p := loP p) (by omega)]
          simp; omega
theorem wi_len2 : ∀ (n : Nat) {p : Prefix}, PM p → p.Len + n = p.Bits → hi % 2 ^ (128 - p.Bits.toNat) = 0 → lo ≤ pa p → (wi lo hi n p).length ≤ n + 1
  | 0, p, h, hl, hu, hh => by
    rw [wi]; split <;> simp
  | n + 1, p, h, hl, hu, hh => by
    rw [wi]
    split
    · simp
    · split
      · simp
      · obtain ⟨e1, e2, e3, e4⟩ := pe_half h (by omega)
        have h0 : pa (loP p) = pa p := rfl
        have h1 := wi_len2 n (lo_PM h (by omega)) (by unfold loP; dsimp only; omega) hu (show lo ≤ pa (loP p) by omega)
        have hge := pe_ge (lo_PM h (by omega))
        have h2 := wi_len2 n (hi_PM h (by omega)) (by unfold hiP; dsimp only; omega) hu (show lo ≤ pa (hiP p) by omega)
        rw [List.length_append]
        by_cases c : pe (loP p) ≤ hi
        · rw [wi_one (p := loP p) (by omega) ⟨by omega, c⟩]
          simp; omega
        · have hlt : hi < pa (hiP p) := by omega
          rw [wi_none (p := hiP p) (.inr hlt)]
          simp; omega
theorem wi_len : ∀ (n : Nat) {p : Prefix}, PM p → p.Len + n = p.Bits → lo % 2 ^ (128 - p.Bits.toNat) = 0 → hi % 2 ^ (128 - p.Bits.toNat) = 0 → (wi lo hi n p).length ≤ 2 * n ∨ (n = 0 ∧ (wi lo hi n p).length ≤ 1)
  | 0, p, h, hl, hu1, hu2 => by
    right; refine ⟨rfl, ?_⟩; rw [wi]; split <;> simp
  | n + 1, p, h, hl, hu1, hu2 => by
    left
    rw [wi]
    split
    · simp
    · split
      · simp; omega
      · obtain ⟨e1, e2, e3, e4⟩ := pe_half h (by omega)
        have hge := pe_ge (lo_PM h (by omega))
        have i1 := wi_len n (lo_PM h (by omega)) (by unfold loP; dsimp only; omega) hu1 hu2
        have i2 := wi_len n (hi_PM h (by omega)) (by unfold hiP; dsimp only; omega) hu1 hu2
        rw [List.length_append]
        by_cases c1 : hi < pa (hiP p)
        · rw [wi_none (p := hiP p) (.inr c1)]
          simp only [List.length_nil]; omega
        · by_cases c2 : pe (loP p) < lo
          · rw [wi_none (p := loP p) (.inl c2)]
            simp only [List.length_nil]; omega
          · have j1 := wi_len1 (lo := lo) (hi := hi) n (lo_PM h (by omega)) (by unfold loP; dsimp only; omega) (by omega)
            have j2 := wi_len2 (lo := lo) (hi := hi) n (hi_PM h (by omega)) (by unfold hiP; dsimp only; omega) hu2 (by omega)
            omega
theorem wi_norm {n : Nat} {p : Prefix} (h : PM p) (hl : p.Len + n = p.Bits) : Norm (wi lo hi n p) := by
  refine bef_norm (wi_bef n h hl) (fun q hq => (wi_in n h hl q hq).1.2.1) fun q hq r hr hv => ?_
  obtain ⟨q1, q2, q3⟩ := wi_in n h hl q hq
  obtain ⟨r1, r2, r3⟩ := wi_in n h hl r hr
  obtain ⟨w, w1, w2, w3, w4⟩ := hv.cases q1.2.1 r1.2.1
  have hwq : PC w q := by
    rcases w4 with ⟨e, -⟩ | ⟨e, -⟩
    · rw [e]; exact lo_PC w1 w2
    · rw [e]; exact hi_PC w1 w2
  have hne : w.Len + 1 = q.Len := by
    rcases w4 with ⟨e, -⟩ | ⟨e, -⟩
    · rw [e]; rfl
    · rw [e]; rfl
  have hpw : PC p w := by
    have g1 : Inn p (pa q) := q1.inn (inn_lo q)
    have g2 : Inn w (pa q) := hwq.inn (inn_lo q)
    rcases laminar h w1 (q1.2.2.1.trans hwq.2.2.1.symm) with g | g | g | g
    · exact g
    · by_cases e : w.Len = p.Len
      · rw [g.eq e]; exact PC.refl h
      · exfalso
        have a1 := g.2.2.2.1
        have a2 := q1.2.2.2.1
        have e1 : p = q := q1.eq (by omega)
        have e2 : p = r := r1.eq (by have := hv.2.1; omega)
        exact hv.2.2.2.1 (e1.symm.trans e2)
    · unfold Inn at g1 g2; omega
    · unfold Inn at g1 g2; omega
  obtain ⟨e1, e2, e3, e4⟩ := pe_half w1 w2
  refine wi_max n h hl q hq w hpw hwq (fun e => by rw [e] at hne; omega) ?_
  rcases w4 with ⟨g1, g2⟩ | ⟨g1, g2⟩
  · rw [g1] at q2; rw [g2] at r3
    have : pa (loP w) = pa w := rfl
    omega
  · rw [g2] at r2; rw [g1] at q3
    have : pa (loP w) = pa w := rfl
    omega
end
theorem within_n (low high : Vec UInt8 16) : ∀ (n f : Nat) {l : List Prefix} {p : Prefix}, n < f → PM p → p.Len + n = p.Bits → l.length + (wi (kv low) (kv high) n p).length ≤ 1000 → split_within_n f l p low high = some (l ++ wi (kv low) (kv high) n p)
  | n, 0, l, p, h, _, _, _ => by omega
  | n, f + 1, l, p, hf, h, hl, hb => by
    have hu := u_le h
    have htop := h.top
    have hpos : 0 < 2 ^ (128 - p.Bits.toNat) := Nat.pos_of_neZero _
    obtain ⟨e, he, hke⟩ : ∃ e, split_last p = some e ∧ kv e = pe p := ⟨_, last_eq h, kv_mk (by show pa p + (ps p - 2 ^ (128 - p.Bits.toNat)) < 2 ^ 128; omega)⟩
    unfold split_within_n split_within_s
    rw [he, bind_s, cut16, bind_s, bind_s, cmpK_eq, bind_s, gb_of2 rfl, bind_s, bind_s, gb_of2 (cmpK_eq _ _), bind_s]
    have c1 := @cmpK_lt e low
    have c2 := @cmpK_gt p.Key high
    have c3 := @cmpK_lt p.Key low
    have c4 := @cmpK_gt e high
    rw [hke] at c1 c4
    have hpa : kv p.Key = pa p := rfl
    rw [hpa] at c2 c3
    by_cases g : pe p < kv low ∨ kv high < pa p
    · rw [wi_none g, List.append_nil, cond_true]
      by_cases g1 : pe p < kv low
      · rw [decide_eq_true (c1.2 g1)]; rfl
      · have g2 := g.resolve_left g1
        rw [decide_eq_false (fun h => g1 (c1.1 h)), Bool.not_false, cond_t, decide_eq_true (c2.2 g2)]; rfl
    · have g1 : ¬ pe p < kv low := fun h => g (.inl h)
      have g2 : ¬ kv high < pa p := fun h => g (.inr h)
      rw [cond_false (by rw [decide_eq_false (fun h => g1 (c1.1 h)), Bool.not_false, cond_t, decide_eq_false (fun h => g2 (c2.1 h))]; rfl), cmpK_eq, bind_s, bind_s, bind_s, gb_of2 rfl, bind_s, bind_s, gb_of2 (cmpK_eq _ _), bind_s]
      by_cases k : kv low ≤ pa p ∧ pe p ≤ kv high
      · have k1 : cmpK p.Key low ≥ 0 := by have := fun h => c3.1 h; omega
        have k2 : cmpK e high ≤ 0 := by have := fun h => c4.1 h; omega
        rw [wi_one g k] at hb ⊢
        simp only [List.length_singleton] at hb
        rw [cond_true (by rw [decide_eq_true k1, cond_t, decide_eq_true k2]; rfl), room_ok (by omega) (by simp only [List.length_singleton]; omega) (by simp only [List.length_singleton]; omega), bind_s, bind_s]
      · rw [cond_false (by
          by_cases k1 : kv low ≤ pa p
          · have k2 : ¬ cmpK e high ≤ 0 := by have := c4.2 (by omega); omega
            have k3 : cmpK p.Key low ≥ 0 := by have := fun h => c3.1 h; omega
            rw [decide_eq_true k3, cond_t, decide_eq_false k2]; rfl
          · have k3 : ¬ cmpK p.Key low ≥ 0 := by have := c3.2 (by omega); omega
            rw [decide_eq_false k3]; rfl)]
        cases n with
        | zero =>
          have := pe_end h (by omega)
          exact absurd ⟨by omega, by omega⟩ k
        | succ n =>
          have hlt : p.Len < p.Bits := by omega
          rw [wi, if_neg g, if_neg k] at hb ⊢
          rw [List.length_append] at hb
          rw [halves_eq h hlt, bind_s]
          dsimp only
          rw [within_n low high n f (by omega) (lo_PM h hlt) (by unfold loP; dsimp only; omega) (by omega), bind_s, within_n low high n f (by omega) (hi_PM h hlt) (by unfold hiP; dsimp only; omega) (by rw [List.length_append]; omega), bind_s, List.append_assoc]
def rootP (b : Int) : Prefix := ⟨b, 0, Dat.z⟩
theorem root_PM {b : Int} (h : b = 32 ∨ b = 128) : PM (rootP b) := ⟨h, Int.le_refl _, by unfold rootP; dsimp only; omega, by unfold rootP; dsimp only; rw [kv_zero]; rfl⟩
theorem root_inn (b : Int) (k : Vec UInt8 16) : Inn (rootP b) (kv k) := ⟨by show kv (Dat.z : Vec UInt8 16) ≤ _; rw [kv_zero]; exact Nat.zero_le _, by
  have : pa (rootP b) = 0 := kv_zero
  have h2 : ps (rootP b) = 2 ^ 128 := rfl
  rw [this, h2, Nat.zero_add]; exact kv_lt k⟩
def keyB (b : Int) (k : Vec UInt8 16) : Prop := (b = 32 ∨ b = 128) ∧ kv k % 2 ^ (128 - b.toNat) = 0
instance (b : Int) (k : Vec UInt8 16) : Decidable (keyB b k) := by unfold keyB; exact inferInstance
theorem func1_eq (b : Int) (k : Vec UInt8 16) : bywaylaw17_func1 b k = some (decide (keyB b k)) := by
  unfold bywaylaw17_func1
  rw [ref_May_eq, bind_s]
  refine congrArg some ?_; rw [decide_eq_decide]
  unfold PM keyB
  dsimp only
  exact ⟨fun h => ⟨h.1, h.2.2.2⟩, fun h => ⟨h.1, by omega, Int.le_refl _, h.2⟩⟩
theorem Range_eq (b : Int) (x y : Vec UInt8 16) : split_Range b x y = some (if keyB b x ∧ keyB b y ∧ kv x ≤ kv y then (wi (kv x) (kv y) b.toNat (rootP b), 0) else ([], 1)) := by
  unfold split_Range
  by_cases hb : b = 32 ∨ b = 128
  · rw [cond_false (by simp only [Bool.and_eq_false_iff, decide_eq_false_iff_not]; omega), key_Cut_eq, bind_s, gb_of2 (key_Cut_eq _ _), bind_s, gb_of2 cut16, bind_s, bind_s, gb_of2 (cmpK_eq _ _), bind_s]
    have c1 := @cut_same x b
    have c2 := @cut_same y b
    have c3 := @cmpK_gt x y
    by_cases h1 : cutK x b = x
    · by_cases h2 : cutK y b = y
      · by_cases h3 : kv x ≤ kv y
        · rw [if_pos ⟨⟨hb, c1.1 h1⟩, ⟨hb, c2.1 h2⟩, h3⟩]
          have k3 : ¬ cmpK x y > 0 := fun h => by have := c3.1 h; omega
          have hlen := wi_len (lo := kv x) (hi := kv y) b.toNat (root_PM hb) (by unfold rootP; dsimp only; omega) (c1.1 h1) (c2.1 h2)
          rw [cond_false (by simp [h1, h2, k3])]
          have hw := within_n x y b.toNat 18446744073709551616 (l := []) (p := rootP b) (by omega) (root_PM hb) (by unfold rootP; dsimp only; omega) (by rw [List.length_nil]; omega)
          show (split_within_n 18446744073709551616 [] (rootP b) x y).bind _ = _
          rw [hw, bind_s, List.nil_append]
        · rw [if_neg (fun h => h3 h.2.2)]
          have k3 : cmpK x y > 0 := c3.2 (by omega)
          rw [cond_true (by simp [h1, h2, k3])]
      · rw [if_neg (fun h => h2 (c2.2 h.2.1.2)), cond_true (by simp [h1, h2])]
    · rw [if_neg (fun h => h1 (c1.2 h.1.2)), cond_true (by simp [h1])]
  · rw [cond_true (by simp only [Bool.and_eq_true, decide_eq_true_eq]; omega), if_neg (fun h => hb h.1.1)]
theorem splitRange_plain (b0 : Int) (x y k0 : Vec UInt8 16) : bywaylaw17_SplitRange b0 x y k0 = some true := by
  unfold bywaylaw17_SplitRange
  rw [split_awake_eq, bind_s, Bool.not_true, cond_f, Range_eq, bind_s, func1_eq, bind_s, gb_of2 (func1_eq _ _), bind_s, gb_of2 (ref_Less17_eq _ _), bind_s]
  by_cases h : keyB b0 x ∧ keyB b0 y ∧ kv x ≤ kv y
  · obtain ⟨h1, h2, h3⟩ := h
    have hb := h1.1
    rw [if_pos ⟨h1, h2, h3⟩, decide_eq_true h1, decide_eq_true h2, decide_eq_false (show ¬ kv y < kv x by omega)]
    rw [show ((!(true && (bif true then true else default))) || (bif !(!(true && (bif true then true else default))) then false else default)) = false from rfl, cond_f]
    have hroot := root_PM hb
    have hrl : (rootP b0).Len + (b0.toNat : Int) = (rootP b0).Bits := by unfold rootP; dsimp only; omega
    have hlen := wi_len (lo := kv x) (hi := kv y) b0.toNat hroot hrl h1.2 h2.2
    have hnorm := wi_norm (lo := kv x) (hi := kv y) hroot hrl
    have hbef := wi_bef (lo := kv x) (hi := kv y) b0.toNat hroot hrl
    have hin := wi_in (lo := kv x) (hi := kv y) b0.toNat hroot hrl
    have hall := wi_all (lo := kv x) (hi := kv y) b0.toNat hroot hrl
    generalize wi (kv x) (kv y) b0.toNat (rootP b0) = l at *
    have hpl : l.Pairwise PL := hbef.imp_of_mem fun ha hb h => h.PL (hnorm.pm _ ha) (hnorm.pm _ hb)
    have hcov : ∀ k : Vec UInt8 16, keyB b0 k → (0 < fitN l k b0 ↔ kv x ≤ kv k ∧ kv k ≤ kv y) := fun k hk => by
      rw [fit_pos]
      constructor
      · rintro ⟨-, p, hp, g1, rfl, g3⟩
        obtain ⟨i1, i2, i3⟩ := hin p hp
        have := (inn_pe g1 hk.2).1 g3
        omega
      · intro g
        obtain ⟨q, hq, hq2⟩ := hall (kv k) hk.2 (root_inn b0 k) g.1 g.2
        exact ⟨hk.2, q, hq, hnorm.pm q hq, (hin q hq).1.2.2.1.symm, hq2⟩
    have hone : ∀ k : Vec UInt8 16, keyB b0 k → fitN l k b0 = if kv x ≤ kv k ∧ kv k ≤ kv y then 1 else 0 := fun k hk => by
      have g1 := fit_one hnorm hpl k b0
      have g2 := hcov k hk
      by_cases c : kv x ≤ kv k ∧ kv k ≤ kv y
      · rw [if_pos c]; have := g2.2 c; omega
      · rw [if_neg c]; have := fun h => c (g2.1 h); omega
    have hx := hone x h1
    have hy := hone y h2
    rw [if_pos ⟨Nat.le_refl _, h3⟩] at hx
    rw [if_pos ⟨h3, Nat.le_refl _⟩] at hy
    have hl0 : 0 < l.length := by
      have : fitN l x b0 ≤ l.length := List.countP_le_length
      omega
    have hl300 : l.length ≤ 256 := by omega
    obtain ⟨t, et, t1, t2, t3, t4⟩ := together_get sortP_get (l := l) (by omega)
    have htl : t = l := t1.uniq hnorm t2 hpl t4
    subst htl
    dsimp only
    rw [show (!((decide ((0 : Int) ≠ 0)) || (decide ((t.length : Int) = (0 : Int))))) = true by rw [decide_eq_false (show ¬ (t.length : Int) = 0 by omega)]; rfl, gb_true, mulI_ok (by omega) (by omega), bind_s, cond_false (by
      rw [decide_eq_false (show ¬ (t.length : Int) = 0 by omega), decide_eq_false (show ¬ (t.length : Int) > 2 * b0 by omega)]; rfl), func1_eq, bind_s]
    have s1 : (bif decide (keyB b0 k0) then ((bywayref17_Less k0 x).bind fun x_12 => (gb (!x_12) (bywayref17_Less y k0)).bind fun x_13 => (bywayref17_Fits t k0 b0).bind fun x_14 => bif ((((!x_12) && (!x_13)) && (decide (x_14 ≠ (1 : Int)))) || ((!((!x_12) && (!x_13))) && (decide (x_14 ≠ (0 : Int))))) then (some (.inr false)) else (some (.inl ()))) else (some (.inl ()))) = (some (.inl ()) : Option (Unit ⊕ Bool)) := by
      by_cases hk : keyB b0 k0
      · have hk1 := hone k0 hk
        rw [decide_eq_true hk, cond_t, ref_Less17_eq, bind_s, gb_of2 (ref_Less17_eq _ _), bind_s, ref_Fits17_eq _ _ _ (by omega), bind_s]
        have hk2 : ((t.countP fun p => decide (p.Bits = b0 ∧ KF p k0) : Nat) : Int) = ((fitN t k0 b0 : Nat) : Int) := rfl
        rw [hk2, hk1]
        by_cases c1 : kv k0 < kv x
        · rw [if_neg (by omega), decide_eq_true c1]; rfl
        · by_cases c2 : kv y < kv k0
          · rw [if_neg (by omega), decide_eq_false c1, decide_eq_true c2]; rfl
          · rw [if_pos (by omega), decide_eq_false c1, decide_eq_false c2]; rfl
      · rw [decide_eq_false hk, cond_f]
    rw [s1, bind_s, elS_inl]
    refine (bind_of (loopO_iter (f := fun s => bywaylaw17_SplitRange_l1 (t, (0 : Int)) s) (fun i => ((i + 1 : Nat) : Int)) (t.length - 1) (e := .inl ()) (by omega) (fun i hi => ?_) (by
      unfold bywaylaw17_SplitRange_l1
      dsimp only
      rw [show t.length - 1 + 1 = t.length by omega, lt_f, cond_f]) rfl)).trans ?_
    · unfold bywaylaw17_SplitRange_l1
      dsimp only
      have hpp := List.pairwise_iff_getElem.1 hpl i (i + 1) (by omega) (by omega) (by omega)
      rw [lt_t (by omega), cond_t, show subI ((i + 1 : Nat) : Int) 1 = some (i : Int) by rw [subI_ok (by omega) (by omega)]; congr 1; omega, bind_s, idx_nat (by omega), bind_s, idx_nat (by omega), bind_s, key_Less_eq, bind_s, decide_eq_true hpp, Bool.not_true, cond_f, addI_1 (by omega), bind_s]
    · have e1 : ((t.countP fun p => decide (p.Bits = b0 ∧ KF p x) : Nat) : Int) = 1 := by
        have : (t.countP fun p => decide (p.Bits = b0 ∧ KF p x)) = 1 := hx
        omega
      have e2 : ((t.countP fun p => decide (p.Bits = b0 ∧ KF p y) : Nat) : Int) = 1 := by
        have : (t.countP fun p => decide (p.Bits = b0 ∧ KF p y)) = 1 := hy
        omega
      rw [elS_inl, ref_Fits17_eq _ _ _ (by omega), bind_s, e1, decide_eq_true rfl, gb_true, ref_Fits17_eq _ _ _ (by omega), bind_s, e2, decide_eq_true rfl, Bool.true_and, gb_true, et, bind_s, gb_true, ref_Same_eq _ _ (by omega), bind_s, decide_eq_true rfl]; rfl
  · rw [if_neg h, cond_true]
    · rfl
    · by_cases h1 : keyB b0 x
      · by_cases h2 : keyB b0 y
        · have h3 : kv y < kv x := Decidable.byContradiction fun g => h ⟨h1, h2, by omega⟩
          rw [decide_eq_true h1, decide_eq_true h2, decide_eq_true h3]; rfl
        · rw [decide_eq_true h1, decide_eq_false h2]; rfl
      · rw [decide_eq_false h1]; rfl
end Go.Proofs.Ytpknphecmahkaaa.Tr
namespace Go.Proofs.Ytpknphecmahkaaa.Tr
open Go Go.RowKit Go.ChangeShapes Go.WideShapes Go.ChangeAt
set_option synthInstance.maxHeartbeats 400000
set_option synthInstance.maxSize 4096
theorem law_own : ownKnob Try.prog.godebug = none := by kernel_rfl
theorem law_laid : laidOutB Try.prog = true := by kernel_rfl
instance : TOpen Try.prog 3 Int inferInstance := topen_i64 (by kernel_rfl)
instance : TOpen Try.prog 5 UInt8 inferInstance := topen_u8 (by kernel_rfl)
instance : TOpen Try.prog 23 (Vec UInt8 16) inferInstance := topen_vec (e := 5) (by kernel_rfl) (by kernel_rfl) (by kernel_rfl)
set_option maxRecDepth 100000 in
theorem splitRange_lifted (os : Os) (started : os.Started) (H : Type) (enc : TypeId × Value → H) :
    ReturnsInHanded {} Try.checked os 5 .any (Rows.splitRangeSpec.pre6 enc Try.prog Try.f5 Rows.splitRangeRow.domain false) (Rows.splitRangeSpec.post enc Try.prog Try.f5 false true false false) := by
  refine returnsInHanded_of_change_sized (C := Try.checked) law_own started (by kernel_rfl) Try.func5
    (ChangeSpec.witness6 (enc := enc) (C := Try.checked) false ⟨#[], #[.int .i64 0, .agg #[.int .u8 0, .int .u8 0, .int .u8 0, .int .u8 0, .int .u8 0, .int .u8 0, .int .u8 0, .int .u8 0, .int .u8 0, .int .u8 0, .int .u8 0, .int .u8 0, .int .u8 0, .int .u8 0, .int .u8 0, .int .u8 0], .agg #[.int .u8 0, .int .u8 0, .int .u8 0, .int .u8 0, .int .u8 0, .int .u8 0, .int .u8 0, .int .u8 0, .int .u8 0, .int .u8 0, .int .u8 0, .int .u8 0, .int .u8 0, .int .u8 0, .int .u8 0, .int .u8 0], .agg #[.int .u8 0, .int .u8 0, .int .u8 0, .int .u8 0, .int .u8 0, .int .u8 0, .int .u8 0, .int .u8 0, .int .u8 0, .int .u8 0, .int .u8 0, .int .u8 0, .int .u8 0, .int .u8 0, .int .u8 0, .int .u8 0]], []⟩ 8 (by kernel_rfl) (by kernel_rfl) (by kernel_rfl) (by kernel_rfl)) ?_
  intro W base args ds gs before hval0 hW hcnd hsz0 _
  have hval : ∀ (j : Nat) t v, Try.f5.params[j]? = some t → args[j]? = some v → Value.okWide Try.prog W .any base t v := hval0
  have hW' := hW
  obtain ⟨p, q, hA0, hV, rfl, hfz, hnd⟩ := hW
  have hA : DataW.TrodAll enc Try.prog W 0 (fun _ => true) true Try.f5.params.toList args.toList ds p := hA0
  have hsz : ∀ n ∈ DataW.weightsEach Try.prog Try.f5.params.toList ds, n ≤ reachBytes := fun n hn => by
    obtain ⟨rfl, -⟩ := trodVars_none hV
    have := List.all_eq_true.1 hsz0 n (by
      show n ∈ DataW.weightsEach Try.prog (Try.f5.params.toList ++ []) (ds ++ [])
      rw [List.append_nil, List.append_nil]; exact hn)
    simpa using this
  rw [Try.params5] at hA hval hsz
  obtain ⟨v0, vs0, d0, ds0, p0, q0, hargs, rfl, rfl, h0, r0⟩ := trodAll_cons hA
  obtain ⟨v1, vs1, d1, ds1, p1, q1, rfl, rfl, rfl, h1, r1⟩ := trodAll_cons r0
  obtain ⟨v2, vs2, d2, ds2, p2, q2, rfl, rfl, rfl, h2, r2⟩ := trodAll_cons r1
  obtain ⟨v3, vs3, d3, ds3, p3, q3, rfl, rfl, rfl, h3, r3⟩ := trodAll_cons r2
  obtain ⟨rfl, rfl, rfl⟩ := trodAll_nil r3
  obtain rfl : args = #[v0, v1, v2, v3] := by cases args; simp_all
  obtain ⟨x0, y0⟩ := top_open h0 (hval 0 _ v0 rfl rfl) (fun n hn => hsz n (DataW.weights_mem_each (j := 0) rfl rfl n hn))
  obtain ⟨x1, y1⟩ := top_open h1 (hval 1 _ v1 rfl rfl) (fun n hn => hsz n (DataW.weights_mem_each (j := 1) rfl rfl n hn))
  obtain ⟨x2, y2⟩ := top_open h2 (hval 2 _ v2 rfl rfl) (fun n hn => hsz n (DataW.weights_mem_each (j := 2) rfl rfl n hn))
  obtain ⟨x3, y3⟩ := top_open h3 (hval 3 _ v3 rfl rfl) (fun n hn => hsz n (DataW.weights_mem_each (j := 3) rfl rfl n hn))
  refine (bywaylaw17_SplitRange_c W v0 v1 v2 v3 (fun _ _ => trivial) y0 y1 y2 y3 (splitRange_plain _ _ _ _)).mono fun e W1 h => ?_; refine law_post (tb := 4) law_laid (by kernel_rfl) (by kernel_rfl) rfl (by rw [Try.params5]; decide +kernel) rfl hW' h
end Go.Proofs.Ytpknphecmahkaaa.Tr
namespace Go.Proofs.Ytpknphecmahkaaa
open Go Go.RowKit Go.ChangeShapes Go.WideShapes Go.ChangeAt
theorem splitRange_holds : Rows.SplitRangeSaid :=
  OpenClaim.holds_of_wide 5 Try.f5 rfl rfl rfl rfl rfl rfl rfl ⟨rfl, rfl, rfl, rfl, rfl⟩ rfl rfl rfl rfl rfl (by kernel_rfl) Try.func5 (by kernel_rfl)
    (of_decide_eq_true (by kernel_rfl)) (by unfold Func.isWrapper; first | (rw [if_pos (by decide +kernel)]; kernel_rfl) | (rw [if_neg (by decide +kernel)]; exact ⟨rfl, rfl⟩))
    (fun os started H enc _ => Tr.splitRange_lifted os started H enc)
#print axioms splitRange_holds
end Go.Proofs.Ytpknphecmahkaaa
