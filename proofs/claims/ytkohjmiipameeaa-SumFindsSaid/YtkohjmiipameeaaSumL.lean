/- The laws of layer 5: that each answers true. Conditions: none. -/
import Derived.Test.YtkohjmiipameeaaSumA
import Derived.Test.YtkohjmiipameeaaSumF
import Derived.Test.YtkohjmiipameeaaOwn6
namespace Go.Proofs.Ytkohjmiipameeaa.Tr
open Go Go.RowKit
set_option synthInstance.maxHeartbeats 400000
set_option synthInstance.maxSize 4096
set_option linter.unusedVariables false
set_option linter.unnecessarySimpa false

/-- bywaylaw05.awake -/
theorem sum_awake_c  (w : World)    :
    Calls Try.prog 7 #[] w (Ret w (B true)) := by
  refine enter0 Try.func7 rfl Try.ntmps7 rfl  ?_
  refine TC.seqR mix rfl ?_
  refine TR.s OpY.assign rfl ?_
  refine TR.nil ?_
  refine TC.keep [] ?_
  refine TC.seqR mix rfl ?_
  refine TR.s (OpY.buildSlice (A := fun _ => True) [.const (.int .u8 97), .const (.int .u8 98), .const (.int .u8 99)] rfl rfl (by decide)) rfl ?_
  refine TR.s (OpY.conv_slice_slice (by decide)) rfl ?_
  refine TR.s (OpY.call1 fun w v0 hB h0 => sum_Sealed_c (A := fun _ => True) w v0 hB (by decide) (Own.le _ _ h0)) rfl ?_
  refine TR.s (OpY.call1 fun w v0 hB h0 => sum_Open_c (A := fun _ => True) w v0 hB (by decide +kernel) (Own.le _ _ h0)) rfl ?_
  refine TR.s OpY.move rfl ?_
  refine TR.s (OpY.extract rfl) rfl ?_
  refine TR.s (OpY.extract rfl) rfl ?_
  refine TR.s OpY.assign rfl ?_
  refine TR.s OpY.assign rfl ?_
  refine TR.nil ?_
  refine TC.keep [1, 2] ?_
  refine TC.seqR mix rfl ?_
  refine TR.s (OpY.buildSlice (A := fun _ => True) [.const (.int .u8 49), .const (.int .u8 50), .const (.int .u8 51), .const (.int .u8 52), .const (.int .u8 53), .const (.int .u8 54), .const (.int .u8 55), .const (.int .u8 56), .const (.int .u8 57)] rfl rfl (by decide)) rfl ?_
  refine TR.s (OpY.conv_slice_slice (by decide)) rfl ?_
  refine TR.s (OpY.call1 fun w v0 hB h0 => sum_Of_c w v0 (Own.le _ _ h0)) rfl ?_
  refine TR.s OpY.eql32 rfl ?_
  refine TR.s OpY.move rfl ?_
  refine TR.g 14 rfl (fun hg => OpY.move) rfl ?_
  refine TR.g 14 rfl (fun hg => OpY.eql) rfl ?_
  refine TR.s OpY.pickAnd rfl ?_
  refine TR.s OpY.move rfl ?_
  refine TR.g 18 rfl (fun hg => OpY.move) rfl ?_
  refine TR.g 18 rfl (fun hg => OpY.conv_slice_string) rfl ?_
  refine TR.g 18 rfl (fun hg => OpY.eql_string) rfl ?_
  refine TR.s OpY.pickAnd rfl ?_
  refine TR.s OpY.move rfl ?_
  refine TR.g 23 rfl (fun hg => (OpY.call2 fun w v0 v1 hB h0 h1 => sum_Put_c (A := fun _ => True) w v0 v1 hB h0 h1)) rfl ?_
  refine TR.g 23 rfl (fun hg => (OpY.call1 fun w v0 hB h0 => sum_Get_c w v0 (Own.le _ _ h0))) rfl ?_
  refine TR.g 23 rfl (fun hg => OpY.eql64) rfl ?_
  refine TR.s OpY.pickAnd rfl ?_
  refine TR.s OpY.assign rfl ?_
  refine TR.nil ?_
  refine TC.keep [0] ?_
  refine TC.ret ?_
  exact TE.ret1 rfl (B_le (by decide +kernel))
/-- bywaylaw05.SumRight -/
theorem sumRight_c {A : Nat → Prop} {a b : List UInt8} {n : UInt64} {m : Int} (w : World) (v0 v1 v2 v3 : Value)  (h0 : (D A a).p w v0) (h1 : (D A b).p w v1) (h2 : (U64 n).p w v2) (h3 : (I m).p w v3) :
    Calls Try.prog 3 #[v0, v1, v2, v3] w (Ret w (B true)) := by
  refine enter4 Try.func3 rfl Try.ntmps3 rfl h0 h1 h2 h3 ?_
  refine TC.seqR mix rfl ?_
  refine TR.s OpY.assign rfl ?_
  refine TR.nil ?_
  refine TC.keep [0, 1, 2, 3] ?_
  refine TC.seq ?_
  refine TC.seqR mix rfl ?_
  refine TR.s (OpY.call0 fun w  hB  => sum_awake_c w) rfl ?_
  refine TR.s OpY.notB rfl ?_
  refine TR.nil ?_
  refine TC.keep [0, 1, 2, 3, 15] ?_
  refine TC.cond (fun hc => ?_) (fun hc => ?_)
  · exact absurd hc (by decide)
  · skip
    refine TC.skip ?_
    refine TE.then ?_
    refine TC.keep [0, 1, 2, 3] ?_
    refine TC.seq ?_
    refine TC.seqR mix rfl ?_
    refine TR.s OpY.move rfl ?_
    refine TR.s OpY.len rfl ?_
    refine TR.s OpY.gtr rfl ?_
    refine TR.s OpY.move rfl ?_
    refine TR.g 19 rfl (fun hg => OpY.move) rfl ?_
    refine TR.g 19 rfl (fun hg => OpY.len) rfl ?_
    refine TR.g 19 rfl (fun hg => OpY.gtr) rfl ?_
    refine TR.s OpY.pickOr rfl ?_
    refine TR.nil ?_
    refine TC.keep [0, 1, 2, 3, 23] ?_
    refine TC.cond (fun hc => ?_) (fun hc => ?_)
    · skip
      refine TC.seqR mix rfl ?_
      refine TR.s OpY.assign rfl ?_
      refine TR.nil ?_
      refine TC.keep [8] ?_
      refine TC.ret ?_
      refine TE.then_ret ?_
      exact TE.ret1 rfl (B_le rfl)
    · skip
      simp only [Bool.or_eq_false_iff, decide_eq_false_iff_not] at hc
      obtain ⟨hc1, hc2⟩ := hc
      refine TC.skip ?_
      refine TE.then ?_
      refine TC.keep [0, 1, 2, 3] ?_
      refine TC.seqR mix rfl ?_
      refine TR.s OpY.move rfl ?_
      refine TR.s (OpY.call1 fun w v0 hB h0 => sum_Open_c (A := fun _ => True) w v0 hB (by omega) h0) rfl ?_
      refine TR.s OpY.move rfl ?_
      refine TR.s (OpY.extract rfl) rfl ?_
      refine TR.s (OpY.extract rfl) rfl ?_
      refine TR.s OpY.assign rfl ?_
      refine TR.s OpY.assign rfl ?_
      refine TR.nil ?_
      refine TC.keep [0, 1, 2, 3, 9, 10] ?_
      refine TC.seqR mix rfl ?_
      refine TR.s OpY.move rfl ?_
      refine TR.s (OpY.call1 fun w v0 hB h0 => bywayref05_Open_c w v0 (by omega) h0) rfl ?_
      refine TR.s OpY.move rfl ?_
      refine TR.s (OpY.extract rfl) rfl ?_
      refine TR.s (OpY.extract rfl) rfl ?_
      refine TR.s OpY.assign rfl ?_
      refine TR.s OpY.assign rfl ?_
      refine TR.nil ?_
      refine TC.keep [0, 1, 2, 3, 9, 10, 11, 12] ?_
      refine TC.rebase fun w1 hg1 => ?_
      refine TC.seqS ?_
      refine TS.s (OpY.buildSlice (A := fun _ => True) [] rfl rfl (by decide)) rfl ?_
      refine TS.s OpY.move rfl ?_
      refine TS.s (OpY.appendFull (by simp; omega) (by simp; unfold most; omega)) rfl ?_
      refine TS.s OpY.move rfl ?_
      refine TS.append (by simp; omega) (by simp; unfold most; omega) rfl ?_
      refine TS.s OpY.assign rfl ?_
      refine TS.nil ?_
      refine TE.then ?_
      refine TC.keep [0, 1, 2, 3, 9, 10, 11, 12, 13] ?_
      refine TC.seqR mix (by kernel_rfl) ?_
      refine TR.s OpY.move rfl ?_
      refine TR.s (OpY.call1 fun w v0 hB h0 => sum_Of_c w v0 h0) rfl ?_
      refine TR.s OpY.move rfl ?_
      refine TR.s (OpY.call1 fun w v0 hB h0 => bywayref05_Of_c w v0 h0) rfl ?_
      refine TR.s OpY.eql32 rfl ?_
      refine TR.s OpY.move rfl ?_
      refine TR.g 44 rfl (fun hg => OpY.move) rfl ?_
      refine TR.g 44 rfl (fun hg => (OpY.call1 fun w v0 hB h0 => sum_Of_c w v0 h0)) rfl ?_
      refine TR.g 44 rfl (fun hg => OpY.move) rfl ?_
      refine TR.g 44 rfl (fun hg => (OpY.call2 fun w v0 v1 hB h0 h1 => sum_On_c w v0 v1 h0 h1)) rfl ?_
      refine TR.g 44 rfl (fun hg => OpY.move) rfl ?_
      refine TR.g 44 rfl (fun hg => (OpY.call1 fun w v0 hB h0 => bywayref05_Of_c w v0 (Own.le _ _ h0))) rfl ?_
      refine TR.g 44 rfl (fun hg => OpY.eql32) rfl ?_
      refine TR.s OpY.pickAnd rfl ?_
      refine TR.s OpY.move rfl ?_
      refine TR.g 53 rfl (fun hg => OpY.move) rfl ?_
      refine TR.g 53 rfl (fun hg => OpY.move) rfl ?_
      refine TR.g 53 rfl (fun hg => (OpY.call2 fun w v0 v1 hB h0 h1 => sum_Put_c (A := fun _ => True) w v0 v1 hB h0 h1)) rfl ?_
      refine TR.g 53 rfl (fun hg => OpY.conv_slice_string) rfl ?_
      refine TR.g 53 rfl (fun hg => OpY.move) rfl ?_
      refine TR.g 53 rfl (fun hg => OpY.move) rfl ?_
      refine TR.g 53 rfl (fun hg => (OpY.call2 fun w v0 v1 hB h0 h1 => bywayref05_Put_c (A := fun _ => True) w v0 v1 hB h0 h1)) rfl ?_
      refine TR.g 53 rfl (fun hg => OpY.conv_slice_string) rfl ?_
      refine TR.g 53 rfl (fun hg => OpY.eql_string) rfl ?_
      refine TR.s OpY.pickAnd rfl ?_
      refine TR.s OpY.move rfl ?_
      refine TR.g 64 rfl (fun hg => OpY.move) rfl ?_
      refine TR.g 64 rfl (fun hg => (OpY.call1 fun w v0 hB h0 => sum_Get_c w v0 h0)) rfl ?_
      refine TR.g 64 rfl (fun hg => OpY.move) rfl ?_
      refine TR.g 64 rfl (fun hg => (OpY.call1 fun w v0 hB h0 => bywayref05_Get_c w v0 h0)) rfl ?_
      refine TR.g 64 rfl (fun hg => OpY.eql64) rfl ?_
      refine TR.s OpY.pickAnd rfl ?_
      refine TR.s OpY.move rfl ?_
      refine TR.g 71 rfl (fun hg => OpY.move) rfl ?_
      refine TR.g 71 rfl (fun hg => (OpY.call1 fun w v0 hB h0 => sum_Sealed_c (A := fun _ => True) w v0 hB (by omega) h0)) rfl ?_
      refine TR.g 71 rfl (fun hg => OpY.conv_slice_string) rfl ?_
      refine TR.g 71 rfl (fun hg => OpY.move) rfl ?_
      refine TR.g 71 rfl (fun hg => (OpY.call1 fun w v0 hB h0 => bywayref05_Sealed_c (A := fun _ => True) w v0 hB (by omega) h0)) rfl ?_
      refine TR.g 71 rfl (fun hg => OpY.conv_slice_string) rfl ?_
      refine TR.g 71 rfl (fun hg => OpY.eql_string) rfl ?_
      refine TR.s OpY.pickAnd rfl ?_
      refine TR.s OpY.move rfl ?_
      refine TR.g 80 rfl (fun hg => OpY.move) rfl ?_
      refine TR.g 80 rfl (fun hg => OpY.conv_slice_string) rfl ?_
      refine TR.g 80 rfl (fun hg => OpY.move) rfl ?_
      refine TR.g 80 rfl (fun hg => OpY.conv_slice_string) rfl ?_
      refine TR.g 80 rfl (fun hg => OpY.eql_string) rfl ?_
      refine TR.s OpY.pickAnd rfl ?_
      refine TR.s OpY.move rfl ?_
      refine TR.g 87 rfl (fun hg => OpY.move) rfl ?_
      refine TR.g 87 rfl (fun hg => OpY.move) rfl ?_
      refine TR.g 87 rfl (fun hg => OpY.eql) rfl ?_
      refine TR.s OpY.pickAnd rfl ?_
      refine TR.s OpY.assign rfl ?_
      refine TR.nil ?_
      refine TC.keep [8] ?_
      refine TC.ret ?_
      refine TE.rb hg1 ?_
      exact TE.ret1 rfl (B_le (by simp [crc_two]))
/-- bywaylaw05.SumNumbers -/
theorem sumNumbers_c {A : Nat → Prop} {n : UInt64} {q : UInt8} {b : List UInt8} (w : World) (v0 v1 v2 : Value)  (h0 : (U64 n).p w v0) (h1 : (U8 q).p w v1) (h2 : (D A b).p w v2) :
    Calls Try.prog 5 #[v0, v1, v2] w (Ret w (B true)) := by
  have hlen := (D.wf h2).1
  unfold most at hlen
  have hq : (q % 8).toNat < 8 := by rw [UInt8.toNat_mod]; exact Nat.mod_lt _ (by decide)
  have hq1 : (q % UInt8.ofNat 8).toNat < 8 := hq
  refine enter3 Try.func5 rfl Try.ntmps5 rfl h0 h1 h2 ?_
  refine TC.seqR mix rfl ?_
  refine TR.s OpY.assign rfl ?_
  refine TR.nil ?_
  refine TC.keep [0, 1, 2] ?_
  refine TC.seq ?_
  refine TC.seqR mix rfl ?_
  refine TR.s (OpY.call0 fun w  hB  => sum_awake_c w) rfl ?_
  refine TR.s OpY.notB rfl ?_
  refine TR.nil ?_
  refine TC.keep [0, 1, 2, 10] ?_
  refine TC.cond (fun hc => ?_) (fun hc => ?_)
  · exact absurd hc (by decide)
  · skip
    refine TC.skip ?_
    refine TE.then ?_
    refine TC.keep [0, 1, 2] ?_
    refine TC.seqR mix rfl ?_
    refine TR.s OpY.move rfl ?_
    refine TR.s (OpY.rem8 (by decide)) rfl ?_
    refine TR.s OpY.conv8_i rfl ?_
    refine TR.s (OpY.add (u8_add_lo (by decide)) (u8_add_hi (by decide))) rfl ?_
    refine TR.s OpY.assign rfl ?_
    refine TR.nil ?_
    refine TC.keep [0, 2, 7] ?_
    refine TC.seqR mix rfl ?_
    refine TR.s OpY.move rfl ?_
    refine TR.s OpY.assign rfl ?_
    refine TR.nil ?_
    refine TC.keep [0, 2, 7, 8] ?_
    refine TC.seqJ (γ := Unit) (fun _ => (Env.set (Env.set (Env.set (Env.set Env.nil 0 (U64 n)) 2 (D A b)) 7 (I ((q % 8).toNat + 1))) 8 (U64 (UInt64.ofNat (n.toNat % 256 ^ ((q % 8).toNat + 1)))))) ?_ ?_
    · skip
      refine TC.seqR mix rfl ?_
      refine TR.s OpY.move rfl ?_
      refine TR.s OpY.lss rfl ?_
      refine TR.nil ?_
      refine TC.keep [0, 2, 7, 8, 17] ?_
      refine TC.cond (fun hc => ?_) (fun hc => ?_)
      · skip
        have hk : (q % 8).toNat + 1 < 8 := Int.ofNat_lt.1 (of_decide_eq_true hc)
        refine TC.region mix rfl ?_
        refine TR.s OpY.move rfl ?_
        refine TR.s OpY.move rfl ?_
        refine TR.s (OpY.mul u8_mul_lo u8_mul_hi) rfl ?_
        refine TR.s OpY.convi_64 rfl ?_
        refine TR.s (OpY.shl64 (by omega)) rfl ?_
        refine TR.s (OpY.rem64 (fun e => pow_ne hk ((shl_pow (k := (q % 8).toNat + 1) rfl hk).symm.trans e))) rfl ?_
        refine TR.s OpY.assign rfl ?_
        refine TR.nil ?_
        refine TE.keep [0, 2, 7, 8] ?_
        refine TE.join () ?_
        exact Env.le_set (Has.leAt (by exact U64_le ((congrArg (fun z => n % z) (shl_pow (k := (q % 8).toNat + 1) rfl hk)).trans (rest_lt hk)))) (Env.le_set (Has.leAt (by (first | exact Ty.le.refl _ | exact I_le (by omega)))) (Env.le_set (Has.leAt (by (first | exact Ty.le.refl _ | exact I_le (by omega)))) (Env.le_set (Has.leAt (by (first | exact Ty.le.refl _ | exact I_le (by omega)))) (Env.le_nil _))))
      · skip
        have hk : (q % 8).toNat + 1 = 8 := by have h1 : ¬ (q % 8).toNat + 1 < 8 := fun h => of_decide_eq_false hc (Int.ofNat_lt.2 h); omega
        refine TC.skip ?_
        refine TE.join () ?_
        exact Env.le_set (Has.leAt (by exact U64_le (rest_eight n hk))) (Env.le_set (Has.leAt (by (first | exact Ty.le.refl _ | exact I_le (by omega)))) (Env.le_set (Has.leAt (by (first | exact Ty.le.refl _ | exact I_le (by omega)))) (Env.le_set (Has.leAt (by (first | exact Ty.le.refl _ | exact I_le (by omega)))) (Env.le_nil _))))
    rintro ⟨⟩
    refine TC.seq ?_
    refine TC.seqR mix rfl ?_
    refine TR.s OpY.move rfl ?_
    refine TR.s OpY.move rfl ?_
    refine TR.s (OpY.call2 fun w v0 v1 hB h0 h1 => sum_Put_c (A := fun _ => True) w v0 v1 hB h0 h1) rfl ?_
    refine TR.s (OpY.call1 fun w v0 hB h0 => sum_Get_c w v0 (Own.le _ _ h0)) rfl ?_
    refine TR.s OpY.move rfl ?_
    refine TR.s OpY.neq64 rfl ?_
    refine TR.s OpY.move rfl ?_
    refine TR.g 30 rfl (fun hg => OpY.move) rfl ?_
    refine TR.g 30 rfl (fun hg => OpY.move) rfl ?_
    refine TR.g 30 rfl (fun hg => (OpY.call2 fun w v0 v1 hB h0 h1 => sum_Put_c (A := fun _ => True) w v0 v1 hB h0 h1)) rfl ?_
    refine TR.g 30 rfl (fun hg => OpY.len) rfl ?_
    refine TR.g 30 rfl (fun hg => OpY.move) rfl ?_
    refine TR.g 30 rfl (fun hg => OpY.neq) rfl ?_
    refine TR.s OpY.pickOr rfl ?_
    refine TR.s OpY.move rfl ?_
    refine TR.g 38 rfl (fun hg => OpY.move) rfl ?_
    refine TR.g 38 rfl (fun hg => (OpY.call2 fun w v0 v1 hB h0 h1 => sum_Put_c (A := fun _ => True) w v0 v1 hB h0 h1)) rfl ?_
    refine TR.g 38 rfl (fun hg => OpY.len) rfl ?_
    refine TR.g 38 rfl (fun hg => OpY.neq) rfl ?_
    refine TR.s OpY.pickOr rfl ?_
    refine TR.nil ?_
    refine TC.keep [2, 43] ?_
    refine TC.cond (fun hc => ?_) (fun hc => ?_)
    · rw [get_putOf (z := ((q % 8).toNat : Int) + 1) (k := (q % 8).toNat + 1) rfl (by omega) (by omega), putOf_length (z := ((q % 8).toNat : Int) + 1) (k := (q % 8).toNat + 1) rfl (by omega) (by omega), putOf_nine] at hc; simp at hc
    · skip
      skip
      refine TC.skip ?_
      refine TE.then ?_
      refine TC.keep [2] ?_
      refine TC.seqR mix rfl ?_
      refine TR.s OpY.move rfl ?_
      refine TR.s OpY.move rfl ?_
      refine TR.s OpY.len rfl ?_
      refine TR.s OpY.minI rfl ?_
      refine TR.s (OpY.sliceTo (by omega) (by omega)) rfl ?_
      refine TR.s OpY.assign rfl ?_
      refine TR.nil ?_
      refine TC.keep [2] ?_
      refine TC.seqR mix (by kernel_rfl) ?_
      refine TR.s OpY.move rfl ?_
      refine TR.s OpY.len rfl ?_
      refine TR.s OpY.eql rfl ?_
      refine TR.s OpY.move rfl ?_
      refine TR.g 52 rfl (fun hg => OpY.move) rfl ?_
      refine TR.g 52 rfl (fun hg => (OpY.call1 fun w v0 hB h0 => sum_Get_c w v0 h0)) rfl ?_
      refine TR.g 52 rfl (fun hg => OpY.move) rfl ?_
      refine TR.g 52 rfl (fun hg => OpY.len) rfl ?_
      refine TR.g 52 rfl (fun hg => (OpY.call2 fun w v0 v1 hB h0 h1 => sum_Put_c (A := fun _ => True) w v0 v1 hB h0 h1)) rfl ?_
      refine TR.g 52 rfl (fun hg => OpY.conv_slice_string) rfl ?_
      refine TR.g 52 rfl (fun hg => OpY.move) rfl ?_
      refine TR.g 52 rfl (fun hg => OpY.conv_slice_string) rfl ?_
      refine TR.g 52 rfl (fun hg => OpY.eql_string) rfl ?_
      refine TR.s OpY.pickOr rfl ?_
      refine TR.s OpY.assign rfl ?_
      refine TR.nil ?_
      refine TC.keep [6] ?_
      refine TC.ret ?_
      exact TE.ret1 rfl (B_le (numbers_end b))
/-- bywaylaw05.SumParts -/
theorem sumParts_c {A : Nat → Prop} {b c : List UInt8} {x y : UInt8} (w : World) (v0 v1 v2 v3 : Value)  (h0 : (D A b).p w v0) (h1 : (D A c).p w v1) (h2 : (U8 x).p w v2) (h3 : (U8 y).p w v3) :
    Calls Try.prog 6 #[v0, v1, v2, v3] w (Ret w (B true)) := by
  have hlen := (D.wf h0).1
  unfold most at hlen
  have hlen1 := (D.wf h1).1
  unfold most at hlen1
  refine enter4 Try.func6 rfl Try.ntmps6 rfl h0 h1 h2 h3 ?_
  refine TC.seqR mix rfl ?_
  refine TR.s OpY.assign rfl ?_
  refine TR.nil ?_
  refine TC.keep [0, 1, 2, 3] ?_
  refine TC.seq ?_
  refine TC.seqR mix rfl ?_
  refine TR.s (OpY.call0 fun w  hB  => sum_awake_c w) rfl ?_
  refine TR.s OpY.notB rfl ?_
  refine TR.nil ?_
  refine TC.keep [0, 1, 2, 3, 14] ?_
  refine TC.cond (fun hc => ?_) (fun hc => ?_)
  · exact absurd hc (by decide)
  · skip
    refine TC.skip ?_
    refine TE.then ?_
    refine TC.keep [0, 1, 2, 3] ?_
    refine TC.seq ?_
    refine TC.seqR mix rfl ?_
    refine TR.s OpY.move rfl ?_
    refine TR.s OpY.len rfl ?_
    refine TR.s OpY.gtr rfl ?_
    refine TR.s OpY.move rfl ?_
    refine TR.g 18 rfl (fun hg => OpY.move) rfl ?_
    refine TR.g 18 rfl (fun hg => OpY.len) rfl ?_
    refine TR.g 18 rfl (fun hg => OpY.gtr) rfl ?_
    refine TR.s OpY.pickOr rfl ?_
    refine TR.nil ?_
    refine TC.keep [0, 1, 2, 3, 22] ?_
    refine TC.cond (fun hc => ?_) (fun hc => ?_)
    · skip
      refine TC.seqR mix rfl ?_
      refine TR.s OpY.assign rfl ?_
      refine TR.nil ?_
      refine TC.keep [8] ?_
      refine TC.ret ?_
      refine TE.then_ret ?_
      exact TE.ret1 rfl (B_le rfl)
    · skip
      refine TC.skip ?_
      refine TE.then ?_
      refine TC.keep [0, 1, 2, 3] ?_
      refine TC.seqR mix rfl ?_
      refine TR.s (OpY.call1 fun w v0 hB h0 => sum_Of_c (A := A) (xs := []) w v0 (NilS.le _ _ h0)) rfl ?_
      refine TR.s OpY.assign rfl ?_
      refine TR.nil ?_
      refine TC.keep [0, 1, 2, 3, 9] ?_
      refine TC.seqR mix rfl ?_
      refine TR.s OpY.move rfl ?_
      refine TR.s OpY.assign rfl ?_
      refine TR.nil ?_
      refine TC.keep [0, 1, 2, 3, 9, 10] ?_
      refine TC.seq ?_
      refine TC.seqR mix rfl ?_
      refine TR.s OpY.assign rfl ?_
      refine TR.nil ?_
      refine TC.keep [0, 1, 2, 3, 9, 10, 11] ?_
      refine TC.block ?_
      refine TC.loop (γ := {p : Nat × Nat // p.2 ≤ c.length ∧ p.1 ≤ b.length}) (fun ⟨⟨p, k⟩, hk, hp⟩ => (Env.set (Env.set (Env.set (Env.set (Env.set (Env.set (Env.set Env.nil 0 (D A b)) 1 (D A c)) 2 (U8 x)) 3 (U8 y)) 9 (U32 (crcOn 0 (b.take p)))) 10 (D A (b.drop p))) 11 (I (k : Nat)))) (fun ⟨⟨p, k⟩, hk, hp⟩ => c.length - k) ⟨⟨0, 0⟩, Nat.zero_le _, Nat.zero_le _⟩ ?_ ?_
      · exact Env.le_set (Has.leAt (by (first | exact Ty.le.refl _ | exact I_le (by omega)))) (Env.le_set (Has.leAt (by (first | exact Ty.le.refl _ | exact I_le (by omega)))) (Env.le_set (Has.leAt (by (first | exact Ty.le.refl _ | exact I_le (by omega)))) (Env.le_set (Has.leAt (by (first | exact Ty.le.refl _ | exact I_le (by omega)))) (Env.le_set (Has.leAt (by (first | exact Ty.le.refl _ | exact I_le (by omega)))) (Env.le_set (Has.leAt (by (first | exact Ty.le.refl _ | exact I_le (by omega)))) (Env.le_set (Has.leAt (by (first | exact Ty.le.refl _ | exact I_le (by omega)))) (Env.le_nil _)))))))
      rintro ⟨⟨p, k⟩, hk, hp⟩
      dsimp only at hk hp
      have hd : (b.drop p).length = b.length - p := List.length_drop
      refine TC.seq ?_
      refine TC.seqR mix rfl ?_
      refine TR.s OpY.move rfl ?_
      refine TR.s OpY.move rfl ?_
      refine TR.s OpY.len rfl ?_
      refine TR.s OpY.lss rfl ?_
      refine TR.nil ?_
      refine TC.keep [0, 1, 2, 3, 9, 10, 11, 28] ?_
      refine TC.cond (fun hc => ?_) (fun hc => ?_)
      · replace hc := of_decide_eq_true hc
        refine TC.skip ?_
        refine TE.then ?_
        refine TC.keep [0, 1, 2, 3, 9, 10, 11] ?_
        refine TC.seq ?_
        refine TC.block ?_
        refine TC.seqR mix rfl ?_
        refine TR.s OpY.move rfl ?_
        refine TR.s OpY.move rfl ?_
        refine TR.s (OpY.indexN (List.getElem?_eq_getElem (by omega))) rfl ?_
        refine TR.s OpY.load rfl ?_
        refine TR.s OpY.conv8_i rfl ?_
        refine TR.s OpY.move rfl ?_
        refine TR.s OpY.len rfl ?_
        refine TR.s OpY.minI rfl ?_
        refine TR.s OpY.assign rfl ?_
        refine TR.nil ?_
        refine TC.keep [0, 1, 2, 3, 9, 10, 11, 12] ?_
        refine TC.seqR mix rfl ?_
        refine TR.s OpY.move rfl ?_
        refine TR.s OpY.move rfl ?_
        refine TR.s OpY.move rfl ?_
        refine TR.s (OpY.sliceTo (by omega) (by omega)) rfl ?_
        refine TR.s (OpY.call2 fun w v0 v1 hB h0 h1 => sum_On_c w v0 v1 h0 h1) rfl ?_
        refine TR.s OpY.assign rfl ?_
        refine TR.nil ?_
        refine TC.keep [0, 1, 2, 3, 9, 10, 11, 12] ?_
        refine TC.region mix rfl ?_
        refine TR.s OpY.move rfl ?_
        refine TR.s OpY.move rfl ?_
        refine TR.s (OpY.sliceFrom (by omega) (by omega)) rfl ?_
        refine TR.s OpY.assign rfl ?_
        refine TR.nil ?_
        refine TE.keep [0, 1, 2, 3, 9, 10, 11] ?_
        refine TE.inBlock_normal ?_
        refine TE.then ?_
        refine TC.keep [0, 1, 2, 3, 9, 10, 11] ?_
        refine TC.region mix rfl ?_
        refine TR.s OpY.move rfl ?_
        refine TR.s (OpY.add (by omega) (by omega)) rfl ?_
        refine TR.s OpY.assign rfl ?_
        refine TR.nil ?_
        refine TE.keep [0, 1, 2, 3, 9, 10, 11] ?_
        refine TE.back (γ := {p : Nat × Nat // p.2 ≤ c.length ∧ p.1 ≤ b.length}) (μ := fun ⟨⟨p, k⟩, hk, hp⟩ => c.length - k) (g := ⟨⟨p, k⟩, hk, hp⟩) ⟨⟨p + (min ((c[k]'(by omega)).toNat : Int) ((b.drop p).length : Int)).toNat, k + 1⟩, by dsimp only; omega, by dsimp only; omega⟩ (by first | omega | (dsimp only; omega)) ?_
        exact Env.le_set (Has.leAt (by (first | exact Ty.le.refl _ | exact I_le (by omega)))) (Env.le_set (Has.leAt (by exact D_le List.drop_drop)) (Env.le_set (Has.leAt (by exact U32_le (crc_take _ _ _))) (Env.le_set (Has.leAt (by (first | exact Ty.le.refl _ | exact I_le (by omega)))) (Env.le_set (Has.leAt (by (first | exact Ty.le.refl _ | exact I_le (by omega)))) (Env.le_set (Has.leAt (by (first | exact Ty.le.refl _ | exact I_le (by omega)))) (Env.le_set (Has.leAt (by (first | exact Ty.le.refl _ | exact I_le (by omega)))) (Env.le_nil _)))))))
      · replace hc := of_decide_eq_false hc
        refine TC.exit ?_
        refine TE.then_exit ?_
        refine TE.then_exit ?_
        refine TE.inBlock_here ?_
        refine TE.then ?_
        refine TC.keep [0, 2, 3, 9, 10] ?_
        refine TC.seqR mix rfl ?_
        refine TR.s OpY.move rfl ?_
        refine TR.s OpY.move rfl ?_
        refine TR.s (OpY.call2 fun w v0 v1 hB h0 h1 => sum_On_c w v0 v1 h0 h1) rfl ?_
        refine TR.s OpY.assign rfl ?_
        refine TR.nil ?_
        refine TC.keep [0, 2, 3, 9] ?_
        refine TC.seqR mix rfl ?_
        refine TR.s OpY.move rfl ?_
        refine TR.s OpY.move rfl ?_
        refine TR.s (OpY.call1 fun w v0 hB h0 => sum_Of_c w v0 h0) rfl ?_
        refine TR.s OpY.eql32 rfl ?_
        refine TR.s OpY.move rfl ?_
        refine TR.g 54 rfl (fun hg => OpY.move) rfl ?_
        refine TR.g 54 rfl (fun hg => OpY.move) rfl ?_
        refine TR.g 54 rfl (fun hg => (OpY.buildSlice (A := fun _ => True) [.tmp 56] rfl rfl (by decide))) rfl ?_
        refine TR.g 54 rfl (fun hg => (OpY.call2 fun w v0 v1 hB h0 h1 => sum_On_c w v0 v1 h0 (Own.le _ _ (Full.own _ _ h1)))) rfl ?_
        refine TR.g 54 rfl (fun hg => OpY.move) rfl ?_
        refine TR.g 54 rfl (fun hg => OpY.move) rfl ?_
        refine TR.g 54 rfl (fun hg => (OpY.buildSlice (A := fun _ => True) [.tmp 60] rfl rfl (by decide))) rfl ?_
        refine TR.g 54 rfl (fun hg => (OpY.call2 fun w v0 v1 hB h0 h1 => sum_On_c w v0 v1 h0 (Own.le _ _ (Full.own _ _ h1)))) rfl ?_
        refine TR.g 54 rfl (fun hg => OpY.eql32) rfl ?_
        refine TR.g 54 rfl (fun hg => OpY.move) rfl ?_
        refine TR.g 54 rfl (fun hg => OpY.move) rfl ?_
        refine TR.g 54 rfl (fun hg => OpY.eql8) rfl ?_
        refine TR.g 54 rfl (fun hg => (OpY.eql_bool (by kernel_rfl))) rfl ?_
        refine TR.s OpY.pickAnd rfl ?_
        refine TR.s OpY.assign rfl ?_
        refine TR.nil ?_
        refine TC.keep [8] ?_
        refine TC.ret ?_
        exact TE.ret1 rfl (B_le (by rw [crc_drop]; simp [crc_last]))
/-- bywaylaw05.SumFinds -/
theorem sumFinds_c {A : Nat → Prop} {bs : List UInt8} {p q : UInt16} (w : World) (v0 v1 v2 : Value)  (h0 : (D A bs).p w v0) (h1 : (U16 p).p w v1) (h2 : (U16 q).p w v2) :
    Calls Try.prog 4 #[v0, v1, v2] w (Ret w (B true)) := by
  have hlen := (D.wf h0).1
  unfold most at hlen
  have hsl := sealed_length bs
  refine enter3 Try.func4 rfl Try.ntmps4 rfl h0 h1 h2 ?_
  refine TC.seqR mix rfl ?_
  refine TR.s OpY.assign rfl ?_
  refine TR.nil ?_
  refine TC.keep [0, 1, 2] ?_
  refine TC.seq ?_
  refine TC.seqR mix rfl ?_
  refine TR.s (OpY.call0 fun w  hB  => sum_awake_c w) rfl ?_
  refine TR.s OpY.notB rfl ?_
  refine TR.nil ?_
  refine TC.keep [0, 1, 2, 16] ?_
  refine TC.cond (fun hc => ?_) (fun hc => ?_)
  · exact absurd hc (by decide)
  · skip
    refine TC.skip ?_
    refine TE.then ?_
    refine TC.keep [0, 1, 2] ?_
    refine TC.seq ?_
    refine TC.seqR mix rfl ?_
    refine TR.s OpY.move rfl ?_
    refine TR.s OpY.len rfl ?_
    refine TR.s OpY.gtr rfl ?_
    refine TR.nil ?_
    refine TC.keep [0, 1, 2, 19] ?_
    refine TC.cond (fun hc => ?_) (fun hc => ?_)
    · replace hc := of_decide_eq_true hc
      refine TC.seqR mix rfl ?_
      refine TR.s OpY.assign rfl ?_
      refine TR.nil ?_
      refine TC.keep [6] ?_
      refine TC.ret ?_
      refine TE.then_ret ?_
      exact TE.ret1 rfl (B_le rfl)
    · replace hc := of_decide_eq_false hc
      refine TC.skip ?_
      refine TE.then ?_
      refine TC.keep [0, 1, 2] ?_
      refine TC.rebase fun w1 hg1 => ?_
      refine TC.seqR mix rfl ?_
      refine TR.s OpY.move rfl ?_
      refine TR.s (OpY.call1 fun w v0 hB h0 => sum_Sealed_c (A := fun _ => True) w v0 hB (by omega) h0) rfl ?_
      refine TR.s OpY.assign rfl ?_
      refine TR.nil ?_
      refine TC.keep [0, 1, 2, 7] ?_
      refine TC.open 7 fun bk hb => ?_
      have hbf : Ft (w1.heap.size ≤ bk) := ⟨hb⟩
      refine TC.seqR mix rfl ?_
      refine TR.s OpY.move rfl ?_
      refine TR.s (OpY.call1 fun w v0 hB h0 => sum_Open_c (A := fun _ => True) w v0 hB (by omega) (OwnB.le trivial _ _ h0)) rfl ?_
      refine TR.s OpY.move rfl ?_
      refine TR.s (OpY.extract rfl) rfl ?_
      refine TR.s (OpY.extract rfl) rfl ?_
      refine TR.s OpY.assign rfl ?_
      refine TR.s OpY.assign rfl ?_
      refine TR.nil ?_
      refine TC.keep [0, 1, 2, 7, 8, 9] ?_
      refine TC.seq ?_
      refine TC.seqR mix rfl ?_
      refine TR.s OpY.move rfl ?_
      refine TR.s OpY.neq rfl ?_
      refine TR.s OpY.move rfl ?_
      refine TR.g 29 rfl (fun hg => OpY.move) rfl ?_
      refine TR.g 29 rfl (fun hg => OpY.conv_slice_string) rfl ?_
      refine TR.g 29 rfl (fun hg => OpY.move) rfl ?_
      refine TR.g 29 rfl (fun hg => OpY.conv_slice_string) rfl ?_
      refine TR.g 29 rfl (fun hg => OpY.neq_string) rfl ?_
      refine TR.s OpY.pickOr rfl ?_
      refine TR.s OpY.move rfl ?_
      refine TR.g 36 rfl (fun hg => OpY.move) rfl ?_
      refine TR.g 36 rfl (fun hg => OpY.len) rfl ?_
      refine TR.g 36 rfl (fun hg => OpY.move) rfl ?_
      refine TR.g 36 rfl (fun hg => OpY.len) rfl ?_
      refine TR.g 36 rfl (fun hg => (OpY.add (by omega) (by omega))) rfl ?_
      refine TR.g 36 rfl (fun hg => OpY.neq) rfl ?_
      refine TR.s OpY.pickOr rfl ?_
      refine TR.nil ?_
      refine TC.keep [0, 1, 2, 7, 43] ?_
      refine TC.cond (fun hc => ?_) (fun hc => ?_)
      · rw [find_none, hsl] at hc; simp at hc
      · skip
        refine TC.skip ?_
        refine TE.then ?_
        refine TC.keep [0, 1, 2, 7] ?_
        refine TC.seqR mix (by kernel_rfl) ?_
        refine TR.s OpY.move rfl ?_
        refine TR.s OpY.conv16_i rfl ?_
        refine TR.s OpY.move rfl ?_
        refine TR.s OpY.len rfl ?_
        refine TR.s (OpY.mul (by omega) (by omega)) rfl ?_
        refine TR.s (OpY.rem (by omega) (by omega)) rfl ?_
        refine TR.s OpY.move rfl ?_
        refine TR.s OpY.conv16_i rfl ?_
        refine TR.s OpY.move rfl ?_
        refine TR.s OpY.len rfl ?_
        refine TR.s (OpY.mul (by omega) (by omega)) rfl ?_
        refine TR.s (OpY.rem (by omega) (by omega)) rfl ?_
        refine TR.s OpY.assign rfl ?_
        refine TR.s OpY.assign rfl ?_
        refine TR.nil ?_
        refine TC.keep [0, 7, 10, 11] ?_
        obtain ⟨x, hx, hxl⟩ := bit_at p hsl
        obtain ⟨y, hy, hyl⟩ := bit_at q hsl
        rw [hx, hy]
        refine TC.seqS ?_
        refine TS.s OpY.move rfl ?_
        refine TS.s OpY.move rfl ?_
        refine TS.s (OpY.quo (by omega) (by omega) (by omega)) rfl ?_
        refine TS.s OpY.move rfl ?_
        refine TS.s OpY.move rfl ?_
        refine TS.s (OpY.quo (by omega) (by omega) (by omega)) rfl ?_
        refine TS.s (OpY.indexAddr (by omega) (List.getElem?_eq_getElem (by omega))) rfl ?_
        refine TS.s OpY.load rfl ?_
        refine TS.s OpY.move rfl ?_
        refine TS.s (OpY.rem (by omega) (by omega)) rfl ?_
        refine TS.s OpY.convi_64 rfl ?_
        refine TS.s (OpY.shl8 (by omega)) rfl ?_
        refine TS.s OpY.xor8 rfl ?_
        refine TS.s (OpY.indexOwn (by omega) (by omega)) rfl ?_
        refine (TS.store 7 hb (by omega)) rfl ?_
        refine TS.nil ?_
        refine TE.then ?_
        refine TC.keep [0, 7, 10, 11] ?_
        rw [flip_raw]
        refine TC.seqR mix rfl ?_
        refine TR.s OpY.move rfl ?_
        refine TR.s (OpY.call1 fun w v0 hB h0 => sum_Open_c (A := fun _ => True) w v0 hB (by rw [flip_length, hsl]; omega) (OwnB.le trivial _ _ h0)) rfl ?_
        refine TR.s OpY.move rfl ?_
        refine TR.s (OpY.extract rfl) rfl ?_
        refine TR.s (OpY.extract rfl) rfl ?_
        refine TR.s OpY.assign rfl ?_
        refine TR.s OpY.assign rfl ?_
        refine TR.nil ?_
        refine TC.keep [0, 7, 10, 11, 13] ?_
        refine TC.seq ?_
        refine TC.seqR mix rfl ?_
        refine TR.s OpY.move rfl ?_
        refine TR.s OpY.neq rfl ?_
        refine TR.nil ?_
        refine TC.keep [0, 7, 10, 11, 76] ?_
        refine TC.cond (fun hc => ?_) (fun hc => ?_)
        · rw [find_one hxl] at hc; simp at hc
        · skip
          skip
          refine TC.skip ?_
          refine TE.then ?_
          refine TC.keep [0, 7, 10, 11] ?_
          refine TC.seqS ?_
          refine TS.s OpY.move rfl ?_
          refine TS.s OpY.move rfl ?_
          refine TS.s (OpY.quo (by omega) (by omega) (by omega)) rfl ?_
          refine TS.s OpY.move rfl ?_
          refine TS.s OpY.move rfl ?_
          refine TS.s (OpY.quo (by omega) (by omega) (by omega)) rfl ?_
          refine TS.s (OpY.indexAddr (by omega) (List.getElem?_eq_getElem (by rw [flip_length]; omega))) rfl ?_
          refine TS.s OpY.load rfl ?_
          refine TS.s OpY.move rfl ?_
          refine TS.s (OpY.rem (by omega) (by omega)) rfl ?_
          refine TS.s OpY.convi_64 rfl ?_
          refine TS.s (OpY.shl8 (by omega)) rfl ?_
          refine TS.s OpY.xor8 rfl ?_
          refine TS.s (OpY.indexOwn (by omega) (by rw [flip_length]; omega)) rfl ?_
          refine (TS.store 7 hb (by rw [flip_length]; omega)) rfl ?_
          refine TS.nil ?_
          refine TE.then ?_
          refine TC.keep [0, 7, 10, 11] ?_
          rw [flip_raw]
          refine TC.seqR mix rfl ?_
          refine TR.s OpY.move rfl ?_
          refine TR.s (OpY.call1 fun w v0 hB h0 => sum_Open_c (A := fun _ => True) w v0 hB (by rw [flip_length, flip_length, hsl]; omega) (OwnB.le trivial _ _ h0)) rfl ?_
          refine TR.s OpY.move rfl ?_
          refine TR.s (OpY.extract rfl) rfl ?_
          refine TR.s (OpY.extract rfl) rfl ?_
          refine TR.s OpY.assign rfl ?_
          refine TR.s OpY.assign rfl ?_
          refine TR.nil ?_
          refine TC.keep [0, 8, 10, 11, 14] ?_
          refine TC.seq ?_
          refine TC.seqR mix rfl ?_
          refine TR.s OpY.move rfl ?_
          refine TR.s OpY.move rfl ?_
          refine TR.s OpY.eql rfl ?_
          refine TR.nil ?_
          refine TC.keep [0, 8, 14, 98] ?_
          refine TC.cond (fun hc => ?_) (fun hc => ?_)
          · skip
            refine TC.seqR mix rfl ?_
            refine TR.s OpY.move rfl ?_
            refine TR.s OpY.eql rfl ?_
            refine TR.s OpY.move rfl ?_
            refine TR.g 101 rfl (fun hg => OpY.move) rfl ?_
            refine TR.g 101 rfl (fun hg => OpY.conv_slice_string) rfl ?_
            refine TR.g 101 rfl (fun hg => OpY.move) rfl ?_
            refine TR.g 101 rfl (fun hg => OpY.conv_slice_string) rfl ?_
            refine TR.g 101 rfl (fun hg => OpY.eql_string) rfl ?_
            refine TR.s OpY.pickAnd rfl ?_
            refine TR.s OpY.assign rfl ?_
            refine TR.nil ?_
            refine TC.keep [6] ?_
            refine TC.ret ?_
            refine TE.then_ret ?_
            refine TE.rb hg1 ?_
            have hxy : x = y := Int.ofNat_inj.1 (of_decide_eq_true hc)
            subst hxy
            exact TE.ret1 rfl (B_le (by rw [find_same hxl]; simp))
          · skip
            refine TC.skip ?_
            refine TE.then ?_
            refine TC.keep [8, 14] ?_
            refine TC.seqR mix rfl ?_
            refine TR.s OpY.move rfl ?_
            refine TR.s OpY.eql rfl ?_
            refine TR.s OpY.move rfl ?_
            refine TR.g 110 rfl (fun hg => OpY.move) rfl ?_
            refine TR.g 110 rfl (fun hg => OpY.len) rfl ?_
            refine TR.g 110 rfl (fun hg => OpY.eql) rfl ?_
            refine TR.s OpY.pickAnd rfl ?_
            refine TR.s OpY.assign rfl ?_
            refine TR.nil ?_
            refine TC.keep [6] ?_
            refine TC.ret ?_
            refine TE.rb hg1 ?_
            have hxy : ¬ x = y := fun e => of_decide_eq_false hc (congrArg Int.ofNat e)
            exact TE.ret1 rfl (B_le (by rw [find_two (by omega) hxl hyl hxy]; simp))
end Go.Proofs.Ytkohjmiipameeaa.Tr
