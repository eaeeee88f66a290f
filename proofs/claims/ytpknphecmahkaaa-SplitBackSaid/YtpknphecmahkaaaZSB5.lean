/- What the proof leans on. Conditions: none. -/
import Derived.Test.YtpknphecmahkaaaZSB4
set_option linter.all false
set_option linter.unusedSimpArgs false
set_option linter.unusedVariables false
set_option linter.unusedSectionVars false
namespace Go.Proofs.Ytpknphecmahkaaa.Tr
open Go
set_option maxRecDepth 100000
theorem one_norm {p : Prefix} (h : PM p) : Norm [p] where
  pm q hq := by rw [List.mem_singleton] at hq; subst hq; exact h
  cv q hq r hr _ := by rw [List.mem_singleton] at hq hr; exact hq.trans hr.symm
  hv q hq r hr g := by rw [List.mem_singleton] at hq hr; exact g.2.2.2.1 (hq.trans hr.symm)
theorem back_eq {p : Prefix} (h : PM p) {l : List Prefix} (hl : l.length ≤ 256) (hc : ∀ b k, Cov l b k ↔ Cov [p] b k) : split_Together l = some [p] := by
  obtain ⟨t, et, t1, t2, t3, t4⟩ := together_get sortP_get (l := l) hl
  have e : t = [p] := t1.uniq (one_norm h) t2 (List.pairwise_singleton ..) fun b k => (t4 b k).trans (hc b k)
  rw [et, e]
theorem cov_half {p : Prefix} (h : PM p) (hl : p.Len < p.Bits) (b : Int) (k : Nat) : Cov ([loP p] ++ [hiP p]) b k ↔ Cov [p] b k := by
  rw [Cov.app, Cov.one, Cov.one, Cov.one, half_inn h hl]
  constructor
  · rintro (⟨_, g2, g3⟩ | ⟨_, g2, g3⟩)
    · exact ⟨h, g2, .inl g3⟩
    · exact ⟨h, g2, .inr g3⟩
  · rintro ⟨_, g2, g3 | g3⟩
    · exact .inl ⟨lo_PM h hl, g2, g3⟩
    · exact .inr ⟨hi_PM h hl, g2, g3⟩
theorem cov_flah {p : Prefix} (h : PM p) (hl : p.Len < p.Bits) (b : Int) (k : Nat) : Cov [hiP p, loP p] b k ↔ Cov [p] b k := by
  rw [show [hiP p, loP p] = [hiP p] ++ [loP p] from rfl, Cov.app, ← cov_half h hl, Cov.app]
  exact or_comm
theorem cov_ap : ∀ (n : Nat) {p : Prefix}, PM p → p.Len + n ≤ p.Bits → ∀ (b : Int) (k : Nat), Cov (apN n p) b k ↔ Cov [p] b k
  | 0, p, _, _, b, k => Iff.rfl
  | n + 1, p, h, hl, b, k => by
    have h1 := cov_ap n (lo_PM h (by omega)) (by unfold loP; dsimp only; omega) b k
    have h2 := cov_ap n (hi_PM h (by omega)) (by unfold hiP; dsimp only; omega) b k
    rw [apN, Cov.app, h1, h2, ← Cov.app, cov_half h (by omega)]
theorem cov_wo {q : Prefix} : ∀ (n : Nat) {p : Prefix}, PC p q → p.Len + n = q.Len → ∀ (b : Int) (k : Nat), Cov (wo q n p ++ [q]) b k ↔ Cov [p] b k
  | 0, p, hp, hn, b, k => by
    have e : p = q := by
      have h5 := hp.2.2.2.2
      refine hp.antisymm ⟨hp.2.1, hp.1, hp.2.2.1.symm, by omega, ?_⟩
      unfold agree at h5 ⊢
      have e : p.Len = q.Len := by omega
      rw [← e]; exact h5.symm
    subst e; exact Iff.rfl
  | n + 1, p, hp, hn, b, k => by
    have hb : p.Len < p.Bits := by have := hp.2.1.2.2.1; have := hp.2.2.1; omega
    rw [wo]
    by_cases c : PC (loP p) q
    · have ih := cov_wo n c (by unfold loP; dsimp only; omega) b k
      rw [Cov.app] at ih
      rw [if_pos c, Cov.app, Cov.app, ← cov_half hp.1 hb, Cov.app, ← ih]
      exact or_right_comm
    · have ih := cov_wo n (half_PC hp (by omega) c) (by unfold hiP; dsimp only; omega) b k
      rw [Cov.app] at ih
      rw [if_neg c, show loP p :: wo q n (hiP p) = [loP p] ++ wo q n (hiP p) from rfl, Cov.app, Cov.app, ← cov_half hp.1 hb, Cov.app, ← ih]
      exact or_assoc
theorem same_one (p : Prefix) : bywayref17_Same [p] [p] = some true := by
  rw [ref_Same_eq _ _ (by simp), decide_eq_true rfl]
theorem splitBack_plain (p0 q0 : Prefix) (n0 : Int) : bywaylaw17_SplitBack p0 q0 n0 = some true := by
  unfold bywaylaw17_SplitBack
  rw [split_awake_eq, bind_s, Bool.not_true, cond_f, Halves_eq, bind_s]
  refine (bind_of (a := .inl ()) ?_).trans ?_
  · by_cases h : PM p0
    · rw [if_neg (fun g => g h)]
      by_cases hl : p0.Len = p0.Bits
      · rw [if_pos hl]; rfl
      · have hlt : p0.Len < p0.Bits := by have := h.2.2.1; omega
        obtain ⟨w1, w2⟩ := wh_half h hlt
        have hlo : split_Whole (loP p0) = some (p0, 0) := by
          rw [Whole_eq, if_neg (fun g => g (lo_PM h hlt)), if_neg (by have := h.2.1; unfold loP; dsimp only; omega), w1]
        have hhi : split_Whole (hiP p0) = some (p0, 0) := by
          rw [Whole_eq, if_neg (fun g => g (hi_PM h hlt)), if_neg (by have := h.2.1; unfold hiP; dsimp only; omega), w2]
        rw [if_neg hl, decide_eq_true rfl, cond_t]
        dsimp only
        rw [hlo, bind_s, hhi, bind_s]
        dsimp only
        have c0 : (((((decide ((0 : Int) ≠ 0)) || (decide ((0 : Int) ≠ 0))) || (decide (p0 ≠ p0))) || (decide (p0 ≠ p0))) || (decide (loP p0 = hiP p0))) = false := by simp [lo_ne_hi h hlt]
        rw [c0, Bool.not_false, gb_true, key_Covers_eq, bind_s, decide_eq_true (lo_PC h hlt)]
        simp only [Bool.not_true, Bool.or_false, Bool.not_false, gb_true]
        rw [key_Covers_eq, bind_s, decide_eq_true (hi_PC h hlt)]
        simp only [Bool.not_true, Bool.or_false, Bool.not_false, gb_true]
        rw [back_eq h (by simp) (cov_flah h hlt), bind_s, same_one, bind_s]; rfl
    · rw [if_pos h]; rfl
  rw [elS_inl, Apart_eq, bind_s]
  have h1 : ∀ r : List Prefix × Int, (r.2 = 0 → split_Together r.1 = some [p0]) → ∀ (F : Bool → Option Bool), (F true = some true) → ((gb (decide (r.2 = (0 : Int))) (split_Together r.1)).bind fun x_18 => (gb (decide (r.2 = (0 : Int))) (bywayref17_Same x_18 ([p0] : List Prefix))).bind fun x_19 => bif ((decide (r.2 = (0 : Int))) && (!x_19)) then (some false) else F true) = some true := by
    intro r hr F hF
    by_cases c : r.2 = 0
    · rw [decide_eq_true c, gb_true, hr c, bind_s, gb_true, same_one, bind_s]; exact hF
    · rw [decide_eq_false c, gb_false, bind_s, gb_false, bind_s]; exact hF
  refine h1 _ (fun hr => ?_) (fun _ => _) ?_
  · by_cases a : ¬ (PM p0 ∧ p0.Len ≤ n0 ∧ n0 ≤ p0.Bits)
    · rw [if_pos a] at hr; exact absurd hr (by decide)
    · by_cases b : n0 - p0.Len > 8
      · rw [if_neg a, if_pos b] at hr; exact absurd hr (by decide)
      · rw [if_neg a, if_neg b]
        have a := Decidable.not_not.1 a
        have hl : (apN (n0 - p0.Len).toNat p0).length ≤ 256 := by
          rw [apN_length]
          exact Nat.pow_le_pow_right (by omega) (show (n0 - p0.Len).toNat ≤ 8 by omega)
        exact back_eq a.1 hl (cov_ap _ a.1 (by omega))
  · rw [Without_eq, bind_s]
    by_cases c : PC p0 q0
    · have l1 := c.1.len
      have l2 := c.2.1.len
      have hle := c.2.2.2.1
      have hl := wo_length q0 (q0.Len - p0.Len).toNat p0
      have hb := back_eq c.1 (l := wo q0 (q0.Len - p0.Len).toNat p0 ++ [q0]) (by rw [List.length_append, hl, List.length_singleton]; omega) (cov_wo _ c (by omega))
      rw [if_pos c]
      dsimp only
      rw [List.nil_append, decide_eq_true rfl, gb_true, room_ok (by omega) (by simp only [List.length_nil, hl]; omega) (by simp only [List.length_nil, hl]; omega), bind_s, gb_true, room_ok (by omega) (by simp only [List.length_singleton, hl]; omega) (by simp only [List.length_singleton, hl]; omega), bind_s, gb_true, hb, bind_s, gb_true, same_one, bind_s]; rfl
    · rw [if_neg c]; rfl
end Go.Proofs.Ytpknphecmahkaaa.Tr
namespace Go.Proofs.Ytpknphecmahkaaa.Tr
open Go Go.RowKit Go.ChangeShapes Go.WideShapes Go.ChangeAt
set_option synthInstance.maxHeartbeats 400000
set_option synthInstance.maxSize 4096
theorem law_own : ownKnob Try.prog.godebug = none := by kernel_rfl
theorem law_laid : laidOutB Try.prog = true := by kernel_rfl
instance : TOpen Try.prog 3 Int inferInstance := topen_i64 (by kernel_rfl)
instance : TOpen Try.prog 5 UInt8 inferInstance := topen_u8 (by kernel_rfl)
instance : TOpen Try.prog 23 (Vec UInt8 16) inferInstance := topen_vec (e := 5) (by kernel_rfl) (by kernel_rfl) (by kernel_rfl)
instance : TOpen Try.prog 25 Prefix inferInstance := topen_struct (i := Prefix_dat) Prefix_to Prefix_of (fun _ => rfl) rfl Try.underlying25 rfl (by kernel_rfl) (topf_cons (o := 0) (inferInstance : TOpen Try.prog 3 Int inferInstance) (by kernel_rfl) (by rfl) (by rfl) (by rfl) (topf_cons (o := 1) (inferInstance : TOpen Try.prog 3 Int inferInstance) (by kernel_rfl) (by rfl) (by rfl) (by rfl) (topf_one (inferInstance : TOpen Try.prog 23 (Vec UInt8 16) inferInstance) (by kernel_rfl) (by rfl) (by rfl))))
set_option maxRecDepth 100000 in
theorem splitBack_lifted (os : Os) (started : os.Started) (H : Type) (enc : TypeId × Value → H) :
    ReturnsInHanded {} Try.checked os 6 .any (Rows.splitBackSpec.pre6 enc Try.prog Try.f6 Rows.splitBackRow.domain false) (Rows.splitBackSpec.post enc Try.prog Try.f6 false true false false) := by
  refine returnsInHanded_of_change_sized (C := Try.checked) law_own started (by kernel_rfl) Try.func6
    (ChangeSpec.witness6 (enc := enc) (C := Try.checked) false ⟨#[], #[.agg #[.int .i64 0, .int .i64 0, .int .u8 0, .int .u8 0, .int .u8 0, .int .u8 0, .int .u8 0, .int .u8 0, .int .u8 0, .int .u8 0, .int .u8 0, .int .u8 0, .int .u8 0, .int .u8 0, .int .u8 0, .int .u8 0, .int .u8 0, .int .u8 0], .agg #[.int .i64 0, .int .i64 0, .int .u8 0, .int .u8 0, .int .u8 0, .int .u8 0, .int .u8 0, .int .u8 0, .int .u8 0, .int .u8 0, .int .u8 0, .int .u8 0, .int .u8 0, .int .u8 0, .int .u8 0, .int .u8 0, .int .u8 0, .int .u8 0], .int .i64 0], []⟩ 8 (by kernel_rfl) (by kernel_rfl) (by kernel_rfl) (by kernel_rfl)) ?_
  intro W base args ds gs before hval0 hW hcnd hsz0 _
  have hval : ∀ (j : Nat) t v, Try.f6.params[j]? = some t → args[j]? = some v → Value.okWide Try.prog W .any base t v := hval0
  have hW' := hW
  obtain ⟨p, q, hA0, hV, rfl, hfz, hnd⟩ := hW
  have hA : DataW.TrodAll enc Try.prog W 0 (fun _ => true) true Try.f6.params.toList args.toList ds p := hA0
  have hsz : ∀ n ∈ DataW.weightsEach Try.prog Try.f6.params.toList ds, n ≤ reachBytes := fun n hn => by
    obtain ⟨rfl, -⟩ := trodVars_none hV
    have := List.all_eq_true.1 hsz0 n (by
      show n ∈ DataW.weightsEach Try.prog (Try.f6.params.toList ++ []) (ds ++ [])
      rw [List.append_nil, List.append_nil]; exact hn)
    simpa using this
  rw [Try.params6] at hA hval hsz
  obtain ⟨v0, vs0, d0, ds0, p0, q0, hargs, rfl, rfl, h0, r0⟩ := trodAll_cons hA
  obtain ⟨v1, vs1, d1, ds1, p1, q1, rfl, rfl, rfl, h1, r1⟩ := trodAll_cons r0
  obtain ⟨v2, vs2, d2, ds2, p2, q2, rfl, rfl, rfl, h2, r2⟩ := trodAll_cons r1
  obtain ⟨rfl, rfl, rfl⟩ := trodAll_nil r2
  obtain rfl : args = #[v0, v1, v2] := by cases args; simp_all
  obtain ⟨x0, y0⟩ := top_open h0 (hval 0 _ v0 rfl rfl) (fun n hn => hsz n (DataW.weights_mem_each (j := 0) rfl rfl n hn))
  obtain ⟨x1, y1⟩ := top_open h1 (hval 1 _ v1 rfl rfl) (fun n hn => hsz n (DataW.weights_mem_each (j := 1) rfl rfl n hn))
  obtain ⟨x2, y2⟩ := top_open h2 (hval 2 _ v2 rfl rfl) (fun n hn => hsz n (DataW.weights_mem_each (j := 2) rfl rfl n hn))
  refine (bywaylaw17_SplitBack_c W v0 v1 v2 (fun _ _ => trivial) y0 y1 y2 (splitBack_plain _ _ _)).mono fun e W1 h => ?_; refine law_post (tb := 4) law_laid (by kernel_rfl) (by kernel_rfl) rfl (by rw [Try.params6]; decide +kernel) rfl hW' h
end Go.Proofs.Ytpknphecmahkaaa.Tr
namespace Go.Proofs.Ytpknphecmahkaaa
open Go Go.RowKit Go.ChangeShapes Go.WideShapes Go.ChangeAt
theorem splitBack_holds : Rows.SplitBackSaid :=
  OpenClaim.holds_of_wide 6 Try.f6 rfl rfl rfl rfl rfl rfl rfl ⟨rfl, rfl, rfl, rfl, rfl⟩ rfl rfl rfl rfl rfl (by kernel_rfl) Try.func6 (by kernel_rfl)
    (of_decide_eq_true (by kernel_rfl)) (by unfold Func.isWrapper; first | (rw [if_pos (by decide +kernel)]; kernel_rfl) | (rw [if_neg (by decide +kernel)]; exact ⟨rfl, rfl⟩))
    (fun os started H enc _ => Tr.splitBack_lifted os started H enc)
#print axioms splitBack_holds
end Go.Proofs.Ytpknphecmahkaaa
