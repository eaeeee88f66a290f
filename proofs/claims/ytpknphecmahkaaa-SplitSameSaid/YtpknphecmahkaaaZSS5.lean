/- What the proof leans on. Conditions: none. -/
import Derived.Test.YtpknphecmahkaaaZSS4
set_option linter.all false
set_option linter.unusedSimpArgs false
set_option linter.unusedVariables false
set_option linter.unusedSectionVars false
namespace Go.Proofs.Ytpknphecmahkaaa.Tr
open Go
set_option maxRecDepth 100000
def fitN (l : List Prefix) (k : Vec UInt8 16) (b : Int) : Nat := l.countP fun p => decide (p.Bits = b ∧ KF p k)
def fit1 (p : Prefix) (k : Vec UInt8 16) : Nat := if KF p k then 1 else 0
theorem fitN_cons (p : Prefix) (l : List Prefix) (k : Vec UInt8 16) (b : Int) (h : p.Bits = b) : fitN (p :: l) k b = fit1 p k + fitN l k b := by
  unfold fitN fit1
  rw [List.countP_cons]
  by_cases g : KF p k
  · simp [h, g]; omega
  · simp [g]
theorem fitN_append (l m : List Prefix) (k : Vec UInt8 16) (b : Int) : fitN (l ++ m) k b = fitN l k b + fitN m k b := by unfold fitN; rw [List.countP_append]
theorem fit_half {p : Prefix} (h : PM p) (hl : p.Len < p.Bits) (k : Vec UInt8 16) : fit1 (loP p) k + fit1 (hiP p) k = fit1 p k := by
  obtain ⟨e1, e2, e3, e4⟩ := ps_half h hl
  have h1 := half_inn h hl (kv k)
  have hd : ¬ (Inn (loP p) (kv k) ∧ Inn (hiP p) (kv k)) := by unfold Inn; omega
  unfold fit1
  have p1 := lo_PM h hl
  have p2 := hi_PM h hl
  by_cases u : kv k % 2 ^ (128 - p.Bits.toNat) = 0
  · by_cases g1 : Inn (loP p) (kv k)
    · have g2 : ¬ Inn (hiP p) (kv k) := fun g => hd ⟨g1, g⟩
      rw [if_pos (KF_in.2 ⟨p1, u, g1⟩), if_neg (show ¬ KF (hiP p) k from fun g => g2 (KF_in.1 g).2.2), if_pos (KF_in.2 ⟨h, u, h1.2 (.inl g1)⟩)]
    · by_cases g2 : Inn (hiP p) (kv k)
      · rw [if_neg (show ¬ KF (loP p) k from fun g => g1 (KF_in.1 g).2.2), if_pos (KF_in.2 ⟨p2, u, g2⟩), if_pos (KF_in.2 ⟨h, u, h1.2 (.inr g2)⟩)]
      · rw [if_neg (show ¬ KF (loP p) k from fun g => g1 (KF_in.1 g).2.2), if_neg (show ¬ KF (hiP p) k from fun g => g2 (KF_in.1 g).2.2), if_neg (show ¬ KF p k from fun g => (h1.1 (KF_in.1 g).2.2).elim g1 g2)]
  · rw [if_neg (show ¬ KF (loP p) k from fun g => u (KF_in.1 g).2.1), if_neg (show ¬ KF (hiP p) k from fun g => u (KF_in.1 g).2.1), if_neg (show ¬ KF p k from fun g => u (KF_in.1 g).2.1)]
theorem fit_ap (k : Vec UInt8 16) : ∀ (n : Nat) {p : Prefix}, PM p → p.Len + n ≤ p.Bits → fitN (apN n p) k p.Bits = fit1 p k
  | 0, p, h, hl => by rw [apN, fitN_cons _ _ _ _ rfl]; rfl
  | n + 1, p, h, hl => by
    rw [apN, fitN_append]
    have e1 := fit_ap k n (lo_PM h (by omega)) (by unfold loP; dsimp only; omega)
    have e2 := fit_ap k n (hi_PM h (by omega)) (by unfold hiP; dsimp only; omega)
    rw [show p.Bits = (loP p).Bits from rfl, e1, show (loP p).Bits = (hiP p).Bits from rfl, e2, fit_half h (by omega)]
theorem PC.eq {p q : Prefix} (hp : PC p q) (h : p.Len = q.Len) : p = q := by
  have h5 := hp.2.2.2.2
  refine hp.antisymm ⟨hp.2.1, hp.1, hp.2.2.1.symm, by omega, ?_⟩
  unfold agree at h5 ⊢
  rw [← h]; exact h5.symm
theorem fit_wo (k : Vec UInt8 16) {q : Prefix} : ∀ (n : Nat) {p : Prefix}, PC p q → p.Len + n = q.Len → fitN (wo q n p) k p.Bits + fit1 q k = fit1 p k
  | 0, p, h, hl => by
    have e := h.eq (by omega)
    subst e
    rw [wo]; simp [fitN]
  | n + 1, p, h, hl => by
    have hb : p.Len < p.Bits := by have := h.2.1.2.2.1; have := h.2.2.1; omega
    have hh := fit_half h.1 hb k
    rw [wo]
    by_cases hc : PC (loP p) q
    · rw [if_pos hc, fitN_append, fitN_cons _ _ _ _ (show (hiP p).Bits = p.Bits from rfl)]
      have e := fit_wo k n hc (by unfold loP; dsimp only; omega)
      rw [show (loP p).Bits = p.Bits from rfl] at e
      have : fitN [] k p.Bits = 0 := rfl
      omega
    · rw [if_neg hc, fitN_cons _ _ _ _ (show (loP p).Bits = p.Bits from rfl)]
      have e := fit_wo k n (half_PC h (by omega) hc) (by unfold hiP; dsimp only; omega)
      rw [show (hiP p).Bits = p.Bits from rfl] at e
      omega
theorem fit_pos {l : List Prefix} {k : Vec UInt8 16} {b : Int} : 0 < fitN l k b ↔ kv k % 2 ^ (128 - b.toNat) = 0 ∧ Cov l b (kv k) := by
  unfold fitN
  rw [List.countP_pos_iff]
  unfold Cov
  constructor
  · rintro ⟨p, hp, h⟩
    obtain ⟨rfl, h2⟩ := of_decide_eq_true h
    rw [KF_in] at h2
    exact ⟨h2.2.1, p, hp, h2.1, rfl, h2.2.2⟩
  · rintro ⟨h1, p, hp, h2, rfl, h3⟩
    exact ⟨p, hp, decide_eq_true ⟨rfl, KF_in.2 ⟨h2, h1, h3⟩⟩⟩
theorem fit_one {l : List Prefix} (hn : Norm l) (hs : l.Pairwise PL) (k : Vec UInt8 16) (b : Int) : fitN l k b ≤ 1 := by
  have key : ∀ m : List Prefix, (∀ x ∈ m, x ∈ l) → m.Pairwise PL → fitN m k b ≤ 1 := by
    intro m
    induction m with
    | nil => intro _ _; exact Nat.zero_le _
    | cons x m ih =>
      intro hm hs
      rw [List.pairwise_cons] at hs
      unfold fitN
      rw [List.countP_cons]
      by_cases hx : x.Bits = b ∧ KF x k
      · have : m.countP (fun p => decide (p.Bits = b ∧ KF p k)) = 0 := by
          rw [List.countP_eq_zero]
          intro y hy h
          have hy2 := of_decide_eq_true h
          have k1 := KF_in.1 hx.2
          have k2 := KF_in.1 hy2.2
          have hxy : x = y := by
            rcases laminar k1.1 k2.1 (hx.1.trans hy2.1.symm) with h | h | h | h
            · exact hn.cv _ (hm x (List.mem_cons_self ..)) _ (hm y (List.mem_cons_of_mem _ hy)) h
            · exact (hn.cv _ (hm y (List.mem_cons_of_mem _ hy)) _ (hm x (List.mem_cons_self ..)) h).symm
            · have := k1.2.2; have := k2.2.2; unfold Inn at *; omega
            · have := k1.2.2; have := k2.2.2; unfold Inn at *; omega
          have := hs.1 y hy
          rw [hxy] at this
          exact PL.irr _ this
        rw [this, if_pos (decide_eq_true hx)]; exact Nat.le_refl _
      · rw [if_neg (by simpa using hx)]
        exact ih (fun y hy => hm y (List.mem_cons_of_mem _ hy)) hs.2
  exact key l (fun _ h => h) hs
theorem shl_small {k : Nat} (h : k ≤ 8) : shlI (1 : Int) ((UInt64.ofInt (k : Int)).toNat : Int) = some ((2 ^ k : Nat) : Int) := by
  have : ∀ j : Fin 9, shlI (1 : Int) ((UInt64.ofInt (j.val : Int)).toNat : Int) = some ((2 ^ j.val : Nat) : Int) := by decide
  exact this ⟨k, by omega⟩
theorem splitSame_plain (p0 q0 : Prefix) (n0 : Int) (l0 : List Prefix) (k0 : Vec UInt8 16) : bywaylaw17_SplitSame p0 q0 n0 l0 k0 = some true := by
  unfold bywaylaw17_SplitSame
  rw [split_awake_eq, bind_s, Bool.not_true, cond_f]
  by_cases hl : (l0.length : Int) > 200
  · rw [decide_eq_true hl, cond_t]
  rw [decide_eq_false hl, cond_f, Without_eq, bind_s]
  have s1 : (bif (decide ((if PC p0 q0 then (wo q0 (q0.Len - p0.Len).toNat p0, (0 : Int)) else ([], 1)).2 = (0 : Int))) then (((key_Fits p0 k0).bind fun x_9 => (gb x_9 (key_Fits q0 k0)).bind fun x_10 => bif (x_9 && (!x_10)) then (some (1 : Int)) else (some (0 : Int))).bind fun want_7 => (bywayref17_Fits (if PC p0 q0 then (wo q0 (q0.Len - p0.Len).toNat p0, (0 : Int)) else ([], 1)).1 k0 p0.Bits).bind fun x_11 => (gb (!(decide (x_11 ≠ want_7))) (subI q0.Len p0.Len)).bind fun x_12 => bif ((decide (x_11 ≠ want_7)) || (decide (((if PC p0 q0 then (wo q0 (q0.Len - p0.Len).toNat p0, (0 : Int)) else ([], 1)).1.length : Int) ≠ x_12))) then (some (.inr false)) else (some (.inl ()))) else (some (.inl ()))) = (some (.inl ()) : Option (Unit ⊕ Bool)) := by
    by_cases hc : PC p0 q0
    · have lq := hc.2.1.len
      have lp := hc.1.len
      have hle := hc.2.2.2.1
      have hw := wo_length q0 (q0.Len - p0.Len).toNat p0
      have hf := fit_wo k0 (q0.Len - p0.Len).toNat hc (by omega)
      have hwant : ((key_Fits p0 k0).bind fun x_9 => (gb x_9 (key_Fits q0 k0)).bind fun x_10 => bif (x_9 && (!x_10)) then (some (1 : Int)) else (some (0 : Int))) = some ((fitN (wo q0 (q0.Len - p0.Len).toNat p0) k0 p0.Bits : Nat) : Int) := by
        rw [key_Fits_eq, bind_s, gb_of2 (key_Fits_eq _ _), bind_s]
        unfold fit1 at hf
        by_cases g1 : KF p0 k0
        · by_cases g2 : KF q0 k0
          · rw [if_pos g1, if_pos g2] at hf
            rw [decide_eq_true g1, decide_eq_true g2, show fitN (wo q0 (q0.Len - p0.Len).toNat p0) k0 p0.Bits = 0 by omega]; rfl
          · rw [if_pos g1, if_neg g2] at hf
            rw [decide_eq_true g1, decide_eq_false g2, show fitN (wo q0 (q0.Len - p0.Len).toNat p0) k0 p0.Bits = 1 by omega]; rfl
        · rw [if_neg g1] at hf
          rw [decide_eq_false g1, show fitN (wo q0 (q0.Len - p0.Len).toNat p0) k0 p0.Bits = 0 by omega]; rfl
      rw [if_pos hc, show decide ((0 : Int) = 0) = true from rfl, cond_t, hwant, bind_s, ref_Fits17_eq _ _ _ (by dsimp only; omega), bind_s, gb_of2 (subI_ok (by omega) (by omega)), bind_s, cond_false]
      show (decide (((fitN (wo q0 (q0.Len - p0.Len).toNat p0) k0 p0.Bits : Nat) : Int) ≠ ((fitN (wo q0 (q0.Len - p0.Len).toNat p0) k0 p0.Bits : Nat) : Int)) || decide (((wo q0 (q0.Len - p0.Len).toNat p0).length : Int) ≠ (bif !decide (((fitN (wo q0 (q0.Len - p0.Len).toNat p0) k0 p0.Bits : Nat) : Int) ≠ ((fitN (wo q0 (q0.Len - p0.Len).toNat p0) k0 p0.Bits : Nat) : Int)) then q0.Len - p0.Len else default))) = false
      rw [decide_eq_false (fun h => h rfl), Bool.not_false, cond_t, Bool.false_or, decide_eq_false_iff_not]
      omega
    · rw [if_neg hc]; rfl
  rw [s1, bind_s, elS_inl, Apart_eq, bind_s]
  have s2 : (bif (decide ((if ¬ (PM p0 ∧ p0.Len ≤ n0 ∧ n0 ≤ p0.Bits) then (([] : List Prefix), (1 : Int)) else if n0 - p0.Len > 8 then ([], 3) else (apN (n0 - p0.Len).toNat p0, 0)).2 = (0 : Int))) then (((key_Fits p0 k0).bind fun x_18 => bif x_18 then (some (1 : Int)) else (some (0 : Int))).bind fun want_16 => (bywayref17_Fits (if ¬ (PM p0 ∧ p0.Len ≤ n0 ∧ n0 ≤ p0.Bits) then (([] : List Prefix), (1 : Int)) else if n0 - p0.Len > 8 then ([], 3) else (apN (n0 - p0.Len).toNat p0, 0)).1 k0 p0.Bits).bind fun x_19 => (gb (!(decide (x_19 ≠ want_16))) (subI n0 p0.Len)).bind fun x_20 => (gb (!(decide (x_19 ≠ want_16))) (shlI (1 : Int) ((UInt64.ofInt x_20).toNat : Int))).bind fun x_21 => bif ((decide (x_19 ≠ want_16)) || (decide (((if ¬ (PM p0 ∧ p0.Len ≤ n0 ∧ n0 ≤ p0.Bits) then (([] : List Prefix), (1 : Int)) else if n0 - p0.Len > 8 then ([], 3) else (apN (n0 - p0.Len).toNat p0, 0)).1.length : Int) ≠ x_21))) then (some (.inr false)) else (some (.inl ()))) else (some (.inl ()))) = (some (.inl ()) : Option (Unit ⊕ Bool)) := by
    by_cases hn : PM p0 ∧ p0.Len ≤ n0 ∧ n0 ≤ p0.Bits
    · rw [if_neg (fun g => g hn)]
      by_cases h8 : n0 - p0.Len > 8
      · rw [if_pos h8]; rfl
      · have lp := hn.1.len
        have hal := apN_length (n0 - p0.Len).toNat p0
        have h256 : 2 ^ (n0 - p0.Len).toNat ≤ 2 ^ 8 := Nat.pow_le_pow_right (by omega) (by omega)
        have hf := fit_ap k0 (n0 - p0.Len).toNat hn.1 (by omega)
        have hwant : ((key_Fits p0 k0).bind fun x_18 => bif x_18 then (some (1 : Int)) else (some (0 : Int))) = some ((fitN (apN (n0 - p0.Len).toNat p0) k0 p0.Bits : Nat) : Int) := by
          rw [key_Fits_eq, bind_s, hf]
          unfold fit1
          by_cases g1 : KF p0 k0
          · rw [decide_eq_true g1, if_pos g1]; rfl
          · rw [decide_eq_false g1, if_neg g1]; rfl
        have esh := shl_small (k := (n0 - p0.Len).toNat) (by omega)
        rw [show (((n0 - p0.Len).toNat : Nat) : Int) = n0 - p0.Len by omega] at esh
        rw [if_neg h8, show decide ((0 : Int) = 0) = true from rfl, cond_t, hwant, bind_s, ref_Fits17_eq _ _ _ (by dsimp only; omega), bind_s, show (!decide ((((apN (n0 - p0.Len).toNat p0, (0 : Int)).1.countP fun p => decide (p.Bits = p0.Bits ∧ KF p k0) : Nat) : Int) ≠ ((fitN (apN (n0 - p0.Len).toNat p0) k0 p0.Bits : Nat) : Int))) = true by
          rw [Bool.not_eq_true', decide_eq_false_iff_not]; exact fun h => h rfl, gb_true, subI_ok (by omega) (by omega), bind_s, gb_true, esh, bind_s, cond_false]
        show (decide (((fitN (apN (n0 - p0.Len).toNat p0) k0 p0.Bits : Nat) : Int) ≠ ((fitN (apN (n0 - p0.Len).toNat p0) k0 p0.Bits : Nat) : Int)) || decide (((apN (n0 - p0.Len).toNat p0).length : Int) ≠ ((2 ^ (n0 - p0.Len).toNat : Nat) : Int))) = false
        rw [hal, decide_eq_false (fun h => h rfl), decide_eq_false (fun h => h rfl)]; rfl
    · rw [if_pos hn]; rfl
  rw [s2, bind_s, elS_inl]
  obtain ⟨t, et, t1, t2, t3, t4⟩ := together_get sortP_get (l := l0) (by omega)
  obtain ⟨u, eu, u1, u2, u3, u4⟩ := together_get sortP_get (l := t) (by omega)
  have hut : u = t := u1.uniq t1 u2 t2 u4
  subst hut
  rw [et, bind_s]
  have hfit : ∀ b : Int, min ((fitN l0 k0 b : Nat) : Int) 1 = ((fitN u k0 b : Nat) : Int) := fun b => by
    have h1 := fit_one t1 t2 k0 b
    have h2 : 0 < fitN u k0 b ↔ 0 < fitN l0 k0 b := by rw [fit_pos, fit_pos, t4]
    omega
  refine (bind_of (loopO_iter (f := fun s => bywaylaw17_SplitSame_l1 l0 k0 u s) (fun i => ((32 + 96 * i : Nat) : Int)) 2 (e := .inl ()) (by omega) (fun i hi => ?_) (by unfold bywaylaw17_SplitSame_l1; rfl) rfl)).trans ?_
  · unfold bywaylaw17_SplitSame_l1
    rw [decide_eq_true (by omega), cond_t, ref_Fits17_eq _ _ _ (by omega), bind_s, ref_Fits17_eq _ _ _ (by omega), bind_s, cond_false (decide_eq_false (fun h => h (hfit _))), addI_ok (by omega) (by omega), bind_s]
    rw [show ((32 + 96 * i : Nat) : Int) + 96 = ((32 + 96 * (i + 1) : Nat) : Int) by omega]
  · rw [elS_inl, eu, bind_s, ref_Same_eq _ _ (by omega), bind_s, decide_eq_true rfl, decide_eq_true (by omega)]; rfl
end Go.Proofs.Ytpknphecmahkaaa.Tr
namespace Go.Proofs.Ytpknphecmahkaaa.Tr
open Go Go.RowKit Go.ChangeShapes Go.WideShapes Go.ChangeAt
set_option synthInstance.maxHeartbeats 400000
set_option synthInstance.maxSize 4096
theorem law_own : ownKnob Try.prog.godebug = none := by kernel_rfl
theorem law_laid : laidOutB Try.prog = true := by kernel_rfl
instance : TOpen Try.prog 3 Int inferInstance := topen_i64 (by kernel_rfl)
instance : TOpen Try.prog 5 UInt8 inferInstance := topen_u8 (by kernel_rfl)
instance : TOpen Try.prog 23 (Vec UInt8 16) inferInstance := topen_vec (e := 5) (by kernel_rfl) (by kernel_rfl) (by kernel_rfl)
instance : TOpen Try.prog 25 Prefix inferInstance := topen_struct (i := Prefix_dat) Prefix_to Prefix_of (fun _ => rfl) rfl Try.underlying25 rfl (by kernel_rfl) (topf_cons (o := 0) (inferInstance : TOpen Try.prog 3 Int inferInstance) (by kernel_rfl) (by rfl) (by rfl) (by rfl) (topf_cons (o := 1) (inferInstance : TOpen Try.prog 3 Int inferInstance) (by kernel_rfl) (by rfl) (by rfl) (by rfl) (topf_one (inferInstance : TOpen Try.prog 23 (Vec UInt8 16) inferInstance) (by kernel_rfl) (by rfl) (by rfl))))
instance : TOpen Try.prog 26 (List Prefix) inferInstance := topen_list (e := 25) (by kernel_rfl) (by kernel_rfl) (by decide +kernel)
set_option maxRecDepth 100000 in
theorem splitSame_lifted (os : Os) (started : os.Started) (H : Type) (enc : TypeId × Value → H) :
    ReturnsInHanded {} Try.checked os 4 .any (Rows.splitSameSpec.pre6 enc Try.prog Try.f4 Rows.splitSameRow.domain false) (Rows.splitSameSpec.post enc Try.prog Try.f4 false true false false) := by
  refine returnsInHanded_of_change_sized (C := Try.checked) law_own started (by kernel_rfl) Try.func4
    (ChangeSpec.witness6 (enc := enc) (C := Try.checked) false ⟨#[], #[.agg #[.int .i64 0, .int .i64 0, .int .u8 0, .int .u8 0, .int .u8 0, .int .u8 0, .int .u8 0, .int .u8 0, .int .u8 0, .int .u8 0, .int .u8 0, .int .u8 0, .int .u8 0, .int .u8 0, .int .u8 0, .int .u8 0, .int .u8 0, .int .u8 0], .agg #[.int .i64 0, .int .i64 0, .int .u8 0, .int .u8 0, .int .u8 0, .int .u8 0, .int .u8 0, .int .u8 0, .int .u8 0, .int .u8 0, .int .u8 0, .int .u8 0, .int .u8 0, .int .u8 0, .int .u8 0, .int .u8 0, .int .u8 0, .int .u8 0], .int .i64 0, .slice none 0 0, .agg #[.int .u8 0, .int .u8 0, .int .u8 0, .int .u8 0, .int .u8 0, .int .u8 0, .int .u8 0, .int .u8 0, .int .u8 0, .int .u8 0, .int .u8 0, .int .u8 0, .int .u8 0, .int .u8 0, .int .u8 0, .int .u8 0]], []⟩ 8 (by kernel_rfl) (by kernel_rfl) (by kernel_rfl) (by kernel_rfl)) ?_
  intro W base args ds gs before hval0 hW hcnd hsz0 _
  have hval : ∀ (j : Nat) t v, Try.f4.params[j]? = some t → args[j]? = some v → Value.okWide Try.prog W .any base t v := hval0
  have hW' := hW
  obtain ⟨p, q, hA0, hV, rfl, hfz, hnd⟩ := hW
  have hA : DataW.TrodAll enc Try.prog W 0 (fun _ => true) true Try.f4.params.toList args.toList ds p := hA0
  have hsz : ∀ n ∈ DataW.weightsEach Try.prog Try.f4.params.toList ds, n ≤ reachBytes := fun n hn => by
    obtain ⟨rfl, -⟩ := trodVars_none hV
    have := List.all_eq_true.1 hsz0 n (by
      show n ∈ DataW.weightsEach Try.prog (Try.f4.params.toList ++ []) (ds ++ [])
      rw [List.append_nil, List.append_nil]; exact hn)
    simpa using this
  rw [Try.params4] at hA hval hsz
  obtain ⟨v0, vs0, d0, ds0, p0, q0, hargs, rfl, rfl, h0, r0⟩ := trodAll_cons hA
  obtain ⟨v1, vs1, d1, ds1, p1, q1, rfl, rfl, rfl, h1, r1⟩ := trodAll_cons r0
  obtain ⟨v2, vs2, d2, ds2, p2, q2, rfl, rfl, rfl, h2, r2⟩ := trodAll_cons r1
  obtain ⟨v3, vs3, d3, ds3, p3, q3, rfl, rfl, rfl, h3, r3⟩ := trodAll_cons r2
  obtain ⟨v4, vs4, d4, ds4, p4, q4, rfl, rfl, rfl, h4, r4⟩ := trodAll_cons r3
  obtain ⟨rfl, rfl, rfl⟩ := trodAll_nil r4
  obtain rfl : args = #[v0, v1, v2, v3, v4] := by cases args; simp_all
  obtain ⟨x0, y0⟩ := top_open h0 (hval 0 _ v0 rfl rfl) (fun n hn => hsz n (DataW.weights_mem_each (j := 0) rfl rfl n hn))
  obtain ⟨x1, y1⟩ := top_open h1 (hval 1 _ v1 rfl rfl) (fun n hn => hsz n (DataW.weights_mem_each (j := 1) rfl rfl n hn))
  obtain ⟨x2, y2⟩ := top_open h2 (hval 2 _ v2 rfl rfl) (fun n hn => hsz n (DataW.weights_mem_each (j := 2) rfl rfl n hn))
  obtain ⟨x3, y3⟩ := top_open h3 (hval 3 _ v3 rfl rfl) (fun n hn => hsz n (DataW.weights_mem_each (j := 3) rfl rfl n hn))
  obtain ⟨x4, y4⟩ := top_open h4 (hval 4 _ v4 rfl rfl) (fun n hn => hsz n (DataW.weights_mem_each (j := 4) rfl rfl n hn))
  refine (bywaylaw17_SplitSame_c W v0 v1 v2 v3 v4 (fun _ _ => trivial) y0 y1 y2 y3 y4 (splitSame_plain _ _ _ _ _)).mono fun e W1 h => ?_; refine law_post (tb := 4) law_laid (by kernel_rfl) (by kernel_rfl) rfl (by rw [Try.params4]; decide +kernel) rfl hW' h
end Go.Proofs.Ytpknphecmahkaaa.Tr
namespace Go.Proofs.Ytpknphecmahkaaa
open Go Go.RowKit Go.ChangeShapes Go.WideShapes Go.ChangeAt
theorem splitSame_holds : Rows.SplitSameSaid :=
  OpenClaim.holds_of_wide 4 Try.f4 rfl rfl rfl rfl rfl rfl rfl ⟨rfl, rfl, rfl, rfl, rfl⟩ rfl rfl rfl rfl rfl (by kernel_rfl) Try.func4 (by kernel_rfl)
    (of_decide_eq_true (by kernel_rfl)) (by unfold Func.isWrapper; first | (rw [if_pos (by decide +kernel)]; kernel_rfl) | (rw [if_neg (by decide +kernel)]; exact ⟨rfl, rfl⟩))
    (fun os started H enc _ => Tr.splitSame_lifted os started H enc)
#print axioms splitSame_holds
end Go.Proofs.Ytpknphecmahkaaa
