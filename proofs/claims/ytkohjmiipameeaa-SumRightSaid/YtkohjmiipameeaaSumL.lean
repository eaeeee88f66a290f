/- The laws of layer 5: that each answers true. Conditions: none. -/
import Derived.Test.YtkohjmiipameeaaSumA
import Derived.Test.YtkohjmiipameeaaSumQ
namespace Go.Proofs.Ytkohjmiipameeaa.Tr
open Go Go.RowKit
set_option synthInstance.maxHeartbeats 400000
set_option synthInstance.maxSize 4096
set_option linter.unusedVariables false
set_option linter.unnecessarySimpa false

/-- bywaylaw05.awake -/
theorem sum_awake_c  (w : World)    :
    Calls Try.prog 7 #[] w (Ret w (B true)) := by
  refine enter0 Try.func7 rfl Try.ntmps7 rfl  ?_
  refine TC.seqR mix rfl ?_
  refine TR.s OpY.assign rfl ?_
  refine TR.nil ?_
  refine TC.keep [] ?_
  refine TC.seqR mix rfl ?_
  refine TR.s (OpY.buildSlice (A := fun _ => True) [.const (.int .u8 97), .const (.int .u8 98), .const (.int .u8 99)] rfl rfl (by decide)) rfl ?_
  refine TR.s (OpY.conv_slice_slice (by decide)) rfl ?_
  refine TR.s (OpY.call1 fun w v0 hB h0 => sum_Sealed_c (A := fun _ => True) w v0 hB (by decide) (Own.le _ _ h0)) rfl ?_
  refine TR.s (OpY.call1 fun w v0 hB h0 => sum_Open_c (A := fun _ => True) w v0 hB (by decide +kernel) (Own.le _ _ h0)) rfl ?_
  refine TR.s OpY.move rfl ?_
  refine TR.s (OpY.extract rfl) rfl ?_
  refine TR.s (OpY.extract rfl) rfl ?_
  refine TR.s OpY.assign rfl ?_
  refine TR.s OpY.assign rfl ?_
  refine TR.nil ?_
  refine TC.keep [1, 2] ?_
  refine TC.seqR mix rfl ?_
  refine TR.s (OpY.buildSlice (A := fun _ => True) [.const (.int .u8 49), .const (.int .u8 50), .const (.int .u8 51), .const (.int .u8 52), .const (.int .u8 53), .const (.int .u8 54), .const (.int .u8 55), .const (.int .u8 56), .const (.int .u8 57)] rfl rfl (by decide)) rfl ?_
  refine TR.s (OpY.conv_slice_slice (by decide)) rfl ?_
  refine TR.s (OpY.call1 fun w v0 hB h0 => sum_Of_c w v0 (Own.le _ _ h0)) rfl ?_
  refine TR.s OpY.eql32 rfl ?_
  refine TR.s OpY.move rfl ?_
  refine TR.g 14 rfl (fun hg => OpY.move) rfl ?_
  refine TR.g 14 rfl (fun hg => OpY.eql) rfl ?_
  refine TR.s OpY.pickAnd rfl ?_
  refine TR.s OpY.move rfl ?_
  refine TR.g 18 rfl (fun hg => OpY.move) rfl ?_
  refine TR.g 18 rfl (fun hg => OpY.conv_slice_string) rfl ?_
  refine TR.g 18 rfl (fun hg => OpY.eql_string) rfl ?_
  refine TR.s OpY.pickAnd rfl ?_
  refine TR.s OpY.move rfl ?_
  refine TR.g 23 rfl (fun hg => (OpY.call2 fun w v0 v1 hB h0 h1 => sum_Put_c (A := fun _ => True) w v0 v1 hB h0 h1)) rfl ?_
  refine TR.g 23 rfl (fun hg => (OpY.call1 fun w v0 hB h0 => sum_Get_c w v0 (Own.le _ _ h0))) rfl ?_
  refine TR.g 23 rfl (fun hg => OpY.eql64) rfl ?_
  refine TR.s OpY.pickAnd rfl ?_
  refine TR.s OpY.assign rfl ?_
  refine TR.nil ?_
  refine TC.keep [0] ?_
  refine TC.ret ?_
  exact TE.ret1 rfl (B_le (by decide +kernel))
/-- bywaylaw05.SumRight -/
theorem sumRight_c {A : Nat → Prop} {a b : List UInt8} {n : UInt64} {m : Int} (w : World) (v0 v1 v2 v3 : Value)  (h0 : (D A a).p w v0) (h1 : (D A b).p w v1) (h2 : (U64 n).p w v2) (h3 : (I m).p w v3) :
    Calls Try.prog 3 #[v0, v1, v2, v3] w (Ret w (B true)) := by
  refine enter4 Try.func3 rfl Try.ntmps3 rfl h0 h1 h2 h3 ?_
  refine TC.seqR mix rfl ?_
  refine TR.s OpY.assign rfl ?_
  refine TR.nil ?_
  refine TC.keep [0, 1, 2, 3] ?_
  refine TC.seq ?_
  refine TC.seqR mix rfl ?_
  refine TR.s (OpY.call0 fun w  hB  => sum_awake_c w) rfl ?_
  refine TR.s OpY.notB rfl ?_
  refine TR.nil ?_
  refine TC.keep [0, 1, 2, 3, 15] ?_
  refine TC.cond (fun hc => ?_) (fun hc => ?_)
  · exact absurd hc (by decide)
  · skip
    refine TC.skip ?_
    refine TE.then ?_
    refine TC.keep [0, 1, 2, 3] ?_
    refine TC.seq ?_
    refine TC.seqR mix rfl ?_
    refine TR.s OpY.move rfl ?_
    refine TR.s OpY.len rfl ?_
    refine TR.s OpY.gtr rfl ?_
    refine TR.s OpY.move rfl ?_
    refine TR.g 19 rfl (fun hg => OpY.move) rfl ?_
    refine TR.g 19 rfl (fun hg => OpY.len) rfl ?_
    refine TR.g 19 rfl (fun hg => OpY.gtr) rfl ?_
    refine TR.s OpY.pickOr rfl ?_
    refine TR.nil ?_
    refine TC.keep [0, 1, 2, 3, 23] ?_
    refine TC.cond (fun hc => ?_) (fun hc => ?_)
    · skip
      refine TC.seqR mix rfl ?_
      refine TR.s OpY.assign rfl ?_
      refine TR.nil ?_
      refine TC.keep [8] ?_
      refine TC.ret ?_
      refine TE.then_ret ?_
      exact TE.ret1 rfl (B_le rfl)
    · skip
      simp only [Bool.or_eq_false_iff, decide_eq_false_iff_not] at hc
      obtain ⟨hc1, hc2⟩ := hc
      refine TC.skip ?_
      refine TE.then ?_
      refine TC.keep [0, 1, 2, 3] ?_
      refine TC.seqR mix rfl ?_
      refine TR.s OpY.move rfl ?_
      refine TR.s (OpY.call1 fun w v0 hB h0 => sum_Open_c (A := fun _ => True) w v0 hB (by omega) h0) rfl ?_
      refine TR.s OpY.move rfl ?_
      refine TR.s (OpY.extract rfl) rfl ?_
      refine TR.s (OpY.extract rfl) rfl ?_
      refine TR.s OpY.assign rfl ?_
      refine TR.s OpY.assign rfl ?_
      refine TR.nil ?_
      refine TC.keep [0, 1, 2, 3, 9, 10] ?_
      refine TC.seqR mix rfl ?_
      refine TR.s OpY.move rfl ?_
      refine TR.s (OpY.call1 fun w v0 hB h0 => bywayref05_Open_c w v0 (by omega) h0) rfl ?_
      refine TR.s OpY.move rfl ?_
      refine TR.s (OpY.extract rfl) rfl ?_
      refine TR.s (OpY.extract rfl) rfl ?_
      refine TR.s OpY.assign rfl ?_
      refine TR.s OpY.assign rfl ?_
      refine TR.nil ?_
      refine TC.keep [0, 1, 2, 3, 9, 10, 11, 12] ?_
      refine TC.rebase fun w1 hg1 => ?_
      refine TC.seqS ?_
      refine TS.s (OpY.buildSlice (A := fun _ => True) [] rfl rfl (by decide)) rfl ?_
      refine TS.s OpY.move rfl ?_
      refine TS.s (OpY.appendFull (by simp; omega) (by simp; unfold most; omega)) rfl ?_
      refine TS.s OpY.move rfl ?_
      refine TS.append (by simp; omega) (by simp; unfold most; omega) rfl ?_
      refine TS.s OpY.assign rfl ?_
      refine TS.nil ?_
      refine TE.then ?_
      refine TC.keep [0, 1, 2, 3, 9, 10, 11, 12, 13] ?_
      refine TC.seqR mix (by kernel_rfl) ?_
      refine TR.s OpY.move rfl ?_
      refine TR.s (OpY.call1 fun w v0 hB h0 => sum_Of_c w v0 h0) rfl ?_
      refine TR.s OpY.move rfl ?_
      refine TR.s (OpY.call1 fun w v0 hB h0 => bywayref05_Of_c w v0 h0) rfl ?_
      refine TR.s OpY.eql32 rfl ?_
      refine TR.s OpY.move rfl ?_
      refine TR.g 44 rfl (fun hg => OpY.move) rfl ?_
      refine TR.g 44 rfl (fun hg => (OpY.call1 fun w v0 hB h0 => sum_Of_c w v0 h0)) rfl ?_
      refine TR.g 44 rfl (fun hg => OpY.move) rfl ?_
      refine TR.g 44 rfl (fun hg => (OpY.call2 fun w v0 v1 hB h0 h1 => sum_On_c w v0 v1 h0 h1)) rfl ?_
      refine TR.g 44 rfl (fun hg => OpY.move) rfl ?_
      refine TR.g 44 rfl (fun hg => (OpY.call1 fun w v0 hB h0 => bywayref05_Of_c w v0 (Own.le _ _ h0))) rfl ?_
      refine TR.g 44 rfl (fun hg => OpY.eql32) rfl ?_
      refine TR.s OpY.pickAnd rfl ?_
      refine TR.s OpY.move rfl ?_
      refine TR.g 53 rfl (fun hg => OpY.move) rfl ?_
      refine TR.g 53 rfl (fun hg => OpY.move) rfl ?_
      refine TR.g 53 rfl (fun hg => (OpY.call2 fun w v0 v1 hB h0 h1 => sum_Put_c (A := fun _ => True) w v0 v1 hB h0 h1)) rfl ?_
      refine TR.g 53 rfl (fun hg => OpY.conv_slice_string) rfl ?_
      refine TR.g 53 rfl (fun hg => OpY.move) rfl ?_
      refine TR.g 53 rfl (fun hg => OpY.move) rfl ?_
      refine TR.g 53 rfl (fun hg => (OpY.call2 fun w v0 v1 hB h0 h1 => bywayref05_Put_c (A := fun _ => True) w v0 v1 hB h0 h1)) rfl ?_
      refine TR.g 53 rfl (fun hg => OpY.conv_slice_string) rfl ?_
      refine TR.g 53 rfl (fun hg => OpY.eql_string) rfl ?_
      refine TR.s OpY.pickAnd rfl ?_
      refine TR.s OpY.move rfl ?_
      refine TR.g 64 rfl (fun hg => OpY.move) rfl ?_
      refine TR.g 64 rfl (fun hg => (OpY.call1 fun w v0 hB h0 => sum_Get_c w v0 h0)) rfl ?_
      refine TR.g 64 rfl (fun hg => OpY.move) rfl ?_
      refine TR.g 64 rfl (fun hg => (OpY.call1 fun w v0 hB h0 => bywayref05_Get_c w v0 h0)) rfl ?_
      refine TR.g 64 rfl (fun hg => OpY.eql64) rfl ?_
      refine TR.s OpY.pickAnd rfl ?_
      refine TR.s OpY.move rfl ?_
      refine TR.g 71 rfl (fun hg => OpY.move) rfl ?_
      refine TR.g 71 rfl (fun hg => (OpY.call1 fun w v0 hB h0 => sum_Sealed_c (A := fun _ => True) w v0 hB (by omega) h0)) rfl ?_
      refine TR.g 71 rfl (fun hg => OpY.conv_slice_string) rfl ?_
      refine TR.g 71 rfl (fun hg => OpY.move) rfl ?_
      refine TR.g 71 rfl (fun hg => (OpY.call1 fun w v0 hB h0 => bywayref05_Sealed_c (A := fun _ => True) w v0 hB (by omega) h0)) rfl ?_
      refine TR.g 71 rfl (fun hg => OpY.conv_slice_string) rfl ?_
      refine TR.g 71 rfl (fun hg => OpY.eql_string) rfl ?_
      refine TR.s OpY.pickAnd rfl ?_
      refine TR.s OpY.move rfl ?_
      refine TR.g 80 rfl (fun hg => OpY.move) rfl ?_
      refine TR.g 80 rfl (fun hg => OpY.conv_slice_string) rfl ?_
      refine TR.g 80 rfl (fun hg => OpY.move) rfl ?_
      refine TR.g 80 rfl (fun hg => OpY.conv_slice_string) rfl ?_
      refine TR.g 80 rfl (fun hg => OpY.eql_string) rfl ?_
      refine TR.s OpY.pickAnd rfl ?_
      refine TR.s OpY.move rfl ?_
      refine TR.g 87 rfl (fun hg => OpY.move) rfl ?_
      refine TR.g 87 rfl (fun hg => OpY.move) rfl ?_
      refine TR.g 87 rfl (fun hg => OpY.eql) rfl ?_
      refine TR.s OpY.pickAnd rfl ?_
      refine TR.s OpY.assign rfl ?_
      refine TR.nil ?_
      refine TC.keep [8] ?_
      refine TC.ret ?_
      refine TE.rb hg1 ?_
      exact TE.ret1 rfl (B_le (by simp [crc_two]))
end Go.Proofs.Ytkohjmiipameeaa.Tr
