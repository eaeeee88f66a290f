/- What the proof leans on. Conditions: none. -/
import Derived.Test.YtpknphecmahkaaaZSB2
set_option linter.all false
set_option linter.unusedSimpArgs false
set_option linter.unusedVariables false
set_option linter.unusedSectionVars false
namespace Go.Proofs.Ytpknphecmahkaaa.Tr
open Go Go.RowKit
set_option maxRecDepth 100000
set_option synthInstance.maxHeartbeats 400000
set_option synthInstance.maxSize 4096
def math_bits_Len32_t1 : List UInt8 := ([0, 1, 2, 2, 3, 3, 3, 3, 4, 4, 4, 4, 4, 4, 4, 4, 5, 5, 5, 5, 5, 5, 5, 5, 5, 5, 5, 5, 5, 5, 5, 5, 6, 6, 6, 6, 6, 6, 6, 6, 6, 6, 6, 6, 6, 6, 6, 6, 6, 6, 6, 6, 6, 6, 6, 6, 6, 6, 6, 6, 6, 6, 6, 6, 7, 7, 7, 7, 7, 7, 7, 7, 7, 7, 7, 7, 7, 7, 7, 7, 7, 7, 7, 7, 7, 7, 7, 7, 7, 7, 7, 7, 7, 7, 7, 7, 7, 7, 7, 7, 7, 7, 7, 7, 7, 7, 7, 7, 7, 7, 7, 7, 7, 7, 7, 7, 7, 7, 7, 7, 7, 7, 7, 7, 7, 7, 7, 7, 8, 8, 8, 8, 8, 8, 8, 8, 8, 8, 8, 8, 8, 8, 8, 8, 8, 8, 8, 8, 8, 8, 8, 8, 8, 8, 8, 8, 8, 8, 8, 8, 8, 8, 8, 8, 8, 8, 8, 8, 8, 8, 8, 8, 8, 8, 8, 8, 8, 8, 8, 8, 8, 8, 8, 8, 8, 8, 8, 8, 8, 8, 8, 8, 8, 8, 8, 8, 8, 8, 8, 8, 8, 8, 8, 8, 8, 8, 8, 8, 8, 8, 8, 8, 8, 8, 8, 8, 8, 8, 8, 8, 8, 8, 8, 8, 8, 8, 8, 8, 8, 8, 8, 8, 8, 8, 8, 8, 8, 8, 8, 8, 8, 8, 8, 8, 8, 8, 8, 8, 8, 8, 8, 8, 8, 8, 8, 8] : List UInt8)
def math_bits_Len32 (x0 : UInt32) : Option Int :=
  (bif (decide ((UInt32.ofNat 65536) ≤ x0)) then (some ((shr32 x0 ((UInt64.ofNat 16).toNat : Int)), (16 : Int))) else (some (x0, (0 : Int)))).bind fun o_3 => el2 o_3 (fun x_1 n_2 => (bif (decide ((UInt32.ofNat 256) ≤ x_1)) then ((addI n_2 (8 : Int)).bind fun x_7 => some ((shr32 x_1 ((UInt64.ofNat 8).toNat : Int)), x_7)) else (some (x_1, n_2))).bind fun o_6 => el2 o_6 (fun x_4 n_5 => (idx math_bits_Len32_t1 ((x_4.toUInt8).toNat : Int)).bind fun x_8 => (addI n_5 (x_8.toNat : Int)).bind fun x_9 => some x_9))
theorem math_bits_Len32_c {A : Nat → Prop} {x0 : UInt32}  {r : Int} (w : World) (v0 : Value) (hA : ∀ k, w.heap.size ≤ k → A k)  (h0 : (D (x0 : UInt32)).p A w v0) (H : math_bits_Len32 x0 = some r) :
    Calls Try.prog 59 #[v0] w (Ret A w (D (r : Int))) := by
  unfold math_bits_Len32 at H
  refine enter1 hA Try.func59 rfl Try.ntmps59 rfl h0 ?_; refine TC.seqS ?_; refine TS.s OpY.assign rfl ?_; refine TS.nil ?_; refine TE.then ?_; refine TC.kp [0, 2] [] ?_; refine TC.seq ?_
  obtain ⟨o_3, H3, H⟩ := bnd H
  refine TC.cutP (fun s : (UInt32 × Int) => o_3 = s) (fun ⟨x_1, n_2⟩ (_ : Unit) => (Env.set (Env.set Env.nil 0 (D (x_1 : UInt32))) 2 (D (n_2 : Int)))) (fun ⟨x_1, n_2⟩ (_ : Unit) => []) ?_ ?_
  · skip
    refine TC.seqS ?_; refine TS.s OpY.move rfl ?_; refine TS.s OpY.geq32 rfl ?_; refine TS.nil ?_; refine TE.then ?_; refine TC.kp [0, 2, 4] [] ?_; refine TC.cond (fun hc => ?_) (fun hc => ?_)
    · replace H3 := cT H3 hc
      refine TC.seqS ?_; refine TS.s OpY.move rfl ?_; refine TS.s (OpD.shr32 (Int.natCast_nonneg _)) rfl ?_; refine TS.s OpY.assign rfl ?_; refine TS.nil ?_; refine TE.then ?_; refine TC.kp [0] [] ?_; refine TC.regionS ?_; refine TS.s OpY.assign rfl ?_; refine TS.nil ?_; refine TE.kp [0, 2] [] ?_; exact TE.cutP ⟨(shr32 x0 ((UInt64.ofNat 16).toNat : Int)), (16 : Int)⟩ () (Option.some.inj H3).symm (Env.cv (Env.cv (Env.le_nil _))) (Less.nil _)
    · replace H3 := cF H3 hc
      refine TC.skip ?_; exact TE.cutP ⟨x0, (0 : Int)⟩ () (Option.some.inj H3).symm (Env.cv (Env.cv (Env.le_nil _))) (Less.nil _)
  rintro ⟨x_1, n_2⟩ ⟨⟩ hp
  replace hp := hp.symm
  subst hp
  replace H := el2_mk H
  refine TE.then ?_; refine TC.kp [0, 2] [] ?_; refine TC.seq ?_
  obtain ⟨o_6, H6, H⟩ := bnd H
  refine TC.cutP (fun s : (UInt32 × Int) => o_6 = s) (fun ⟨x_4, n_5⟩ (_ : Unit) => (Env.set (Env.set Env.nil 0 (D (x_4 : UInt32))) 2 (D (n_5 : Int)))) (fun ⟨x_4, n_5⟩ (_ : Unit) => []) ?_ ?_
  · skip
    refine TC.seqS ?_; refine TS.s OpY.move rfl ?_; refine TS.s OpY.geq32 rfl ?_; refine TS.nil ?_; refine TE.then ?_; refine TC.kp [0, 2, 8] [] ?_; refine TC.cond (fun hc => ?_) (fun hc => ?_)
    · replace H6 := cT H6 hc
      refine TC.seqS ?_; refine TS.s OpY.move rfl ?_; refine TS.s (OpD.shr32 (Int.natCast_nonneg _)) rfl ?_; refine TS.s OpY.assign rfl ?_; refine TS.nil ?_; refine TE.then ?_; refine TC.kp [0, 2] [] ?_; refine TC.regionS ?_; refine TS.s OpY.move rfl ?_
      obtain ⟨x_7, ex_7, H6⟩ := bnd H6
      refine TS.s (OpD.add ex_7) rfl ?_; refine TS.s OpY.assign rfl ?_; refine TS.nil ?_; refine TE.kp [0, 2] [] ?_; exact TE.cutP ⟨(shr32 x_1 ((UInt64.ofNat 8).toNat : Int)), x_7⟩ () (Option.some.inj H6).symm (Env.cv (Env.cv (Env.le_nil _))) (Less.nil _)
    · replace H6 := cF H6 hc
      refine TC.skip ?_; exact TE.cutP ⟨x_1, n_2⟩ () (Option.some.inj H6).symm (Env.cv (Env.cv (Env.le_nil _))) (Less.nil _)
  rintro ⟨x_4, n_5⟩ ⟨⟩ hp
  replace hp := hp.symm
  subst hp
  replace H := el2_mk H
  refine TE.then ?_; refine TC.kp [0, 2] [] ?_; refine TC.seqS ?_; refine TS.s OpY.move rfl ?_; refine TS.s OpY.move rfl ?_; refine TS.s OpY.conv32_8 rfl ?_
  obtain ⟨x_8, ex_8, H⟩ := bnd H
  refine TS.s (OpY.indexStr rfl ex_8) rfl ?_; refine TS.s OpD.conv8_i rfl ?_
  obtain ⟨x_9, ex_9, H⟩ := bnd H
  refine TS.s (OpD.add ex_9) rfl ?_; refine TS.s OpY.assign rfl ?_; refine TS.nil ?_; refine TE.then ?_; refine TC.kp [2] [] ?_; refine TC.ret ?_
  obtain rfl := (Option.some.inj H)
  exact TE.ret1 rfl Cv.le
def math_bits_Len64_t1 : List UInt8 := ([0, 1, 2, 2, 3, 3, 3, 3, 4, 4, 4, 4, 4, 4, 4, 4, 5, 5, 5, 5, 5, 5, 5, 5, 5, 5, 5, 5, 5, 5, 5, 5, 6, 6, 6, 6, 6, 6, 6, 6, 6, 6, 6, 6, 6, 6, 6, 6, 6, 6, 6, 6, 6, 6, 6, 6, 6, 6, 6, 6, 6, 6, 6, 6, 7, 7, 7, 7, 7, 7, 7, 7, 7, 7, 7, 7, 7, 7, 7, 7, 7, 7, 7, 7, 7, 7, 7, 7, 7, 7, 7, 7, 7, 7, 7, 7, 7, 7, 7, 7, 7, 7, 7, 7, 7, 7, 7, 7, 7, 7, 7, 7, 7, 7, 7, 7, 7, 7, 7, 7, 7, 7, 7, 7, 7, 7, 7, 7, 8, 8, 8, 8, 8, 8, 8, 8, 8, 8, 8, 8, 8, 8, 8, 8, 8, 8, 8, 8, 8, 8, 8, 8, 8, 8, 8, 8, 8, 8, 8, 8, 8, 8, 8, 8, 8, 8, 8, 8, 8, 8, 8, 8, 8, 8, 8, 8, 8, 8, 8, 8, 8, 8, 8, 8, 8, 8, 8, 8, 8, 8, 8, 8, 8, 8, 8, 8, 8, 8, 8, 8, 8, 8, 8, 8, 8, 8, 8, 8, 8, 8, 8, 8, 8, 8, 8, 8, 8, 8, 8, 8, 8, 8, 8, 8, 8, 8, 8, 8, 8, 8, 8, 8, 8, 8, 8, 8, 8, 8, 8, 8, 8, 8, 8, 8, 8, 8, 8, 8, 8, 8, 8, 8, 8, 8, 8, 8] : List UInt8)
def math_bits_Len64 (x0 : UInt64) : Option Int :=
  (bif (decide ((UInt64.ofNat 4294967296) ≤ x0)) then (some ((shr64 x0 ((UInt64.ofNat 32).toNat : Int)), (32 : Int))) else (some (x0, (0 : Int)))).bind fun o_3 => el2 o_3 (fun x_1 n_2 => (bif (decide ((UInt64.ofNat 65536) ≤ x_1)) then ((addI n_2 (16 : Int)).bind fun x_7 => some ((shr64 x_1 ((UInt64.ofNat 16).toNat : Int)), x_7)) else (some (x_1, n_2))).bind fun o_6 => el2 o_6 (fun x_4 n_5 => (bif (decide ((UInt64.ofNat 256) ≤ x_4)) then ((addI n_5 (8 : Int)).bind fun x_11 => some ((shr64 x_4 ((UInt64.ofNat 8).toNat : Int)), x_11)) else (some (x_4, n_5))).bind fun o_10 => el2 o_10 (fun x_8 n_9 => (idx math_bits_Len64_t1 ((x_8.toUInt8).toNat : Int)).bind fun x_12 => (addI n_9 (x_12.toNat : Int)).bind fun x_13 => some x_13)))
theorem math_bits_Len64_c {A : Nat → Prop} {x0 : UInt64}  {r : Int} (w : World) (v0 : Value) (hA : ∀ k, w.heap.size ≤ k → A k)  (h0 : (D (x0 : UInt64)).p A w v0) (H : math_bits_Len64 x0 = some r) :
    Calls Try.prog 60 #[v0] w (Ret A w (D (r : Int))) := by
  unfold math_bits_Len64 at H
  refine enter1 hA Try.func60 rfl Try.ntmps60 rfl h0 ?_; refine TC.seqS ?_; refine TS.s OpY.assign rfl ?_; refine TS.nil ?_; refine TE.then ?_; refine TC.kp [0, 2] [] ?_; refine TC.seq ?_
  obtain ⟨o_3, H3, H⟩ := bnd H
  refine TC.cutP (fun s : (UInt64 × Int) => o_3 = s) (fun ⟨x_1, n_2⟩ (_ : Unit) => (Env.set (Env.set Env.nil 0 (D (x_1 : UInt64))) 2 (D (n_2 : Int)))) (fun ⟨x_1, n_2⟩ (_ : Unit) => []) ?_ ?_
  · skip
    refine TC.seqS ?_; refine TS.s OpY.move rfl ?_; refine TS.s OpY.geq64 rfl ?_; refine TS.nil ?_; refine TE.then ?_; refine TC.kp [0, 2, 4] [] ?_; refine TC.cond (fun hc => ?_) (fun hc => ?_)
    · replace H3 := cT H3 hc
      refine TC.seqS ?_; refine TS.s OpY.move rfl ?_; refine TS.s (OpD.shr64 (Int.natCast_nonneg _)) rfl ?_; refine TS.s OpY.assign rfl ?_; refine TS.nil ?_; refine TE.then ?_; refine TC.kp [0] [] ?_; refine TC.regionS ?_; refine TS.s OpY.assign rfl ?_; refine TS.nil ?_; refine TE.kp [0, 2] [] ?_; exact TE.cutP ⟨(shr64 x0 ((UInt64.ofNat 32).toNat : Int)), (32 : Int)⟩ () (Option.some.inj H3).symm (Env.cv (Env.cv (Env.le_nil _))) (Less.nil _)
    · replace H3 := cF H3 hc
      refine TC.skip ?_; exact TE.cutP ⟨x0, (0 : Int)⟩ () (Option.some.inj H3).symm (Env.cv (Env.cv (Env.le_nil _))) (Less.nil _)
  rintro ⟨x_1, n_2⟩ ⟨⟩ hp
  replace hp := hp.symm
  subst hp
  replace H := el2_mk H
  refine TE.then ?_; refine TC.kp [0, 2] [] ?_; refine TC.seq ?_
  obtain ⟨o_6, H6, H⟩ := bnd H
  refine TC.cutP (fun s : (UInt64 × Int) => o_6 = s) (fun ⟨x_4, n_5⟩ (_ : Unit) => (Env.set (Env.set Env.nil 0 (D (x_4 : UInt64))) 2 (D (n_5 : Int)))) (fun ⟨x_4, n_5⟩ (_ : Unit) => []) ?_ ?_
  · skip
    refine TC.seqS ?_; refine TS.s OpY.move rfl ?_; refine TS.s OpY.geq64 rfl ?_; refine TS.nil ?_; refine TE.then ?_; refine TC.kp [0, 2, 8] [] ?_; refine TC.cond (fun hc => ?_) (fun hc => ?_)
    · replace H6 := cT H6 hc
      refine TC.seqS ?_; refine TS.s OpY.move rfl ?_; refine TS.s (OpD.shr64 (Int.natCast_nonneg _)) rfl ?_; refine TS.s OpY.assign rfl ?_; refine TS.nil ?_; refine TE.then ?_; refine TC.kp [0, 2] [] ?_; refine TC.regionS ?_; refine TS.s OpY.move rfl ?_
      obtain ⟨x_7, ex_7, H6⟩ := bnd H6
      refine TS.s (OpD.add ex_7) rfl ?_; refine TS.s OpY.assign rfl ?_; refine TS.nil ?_; refine TE.kp [0, 2] [] ?_; exact TE.cutP ⟨(shr64 x_1 ((UInt64.ofNat 16).toNat : Int)), x_7⟩ () (Option.some.inj H6).symm (Env.cv (Env.cv (Env.le_nil _))) (Less.nil _)
    · replace H6 := cF H6 hc
      refine TC.skip ?_; exact TE.cutP ⟨x_1, n_2⟩ () (Option.some.inj H6).symm (Env.cv (Env.cv (Env.le_nil _))) (Less.nil _)
  rintro ⟨x_4, n_5⟩ ⟨⟩ hp
  replace hp := hp.symm
  subst hp
  replace H := el2_mk H
  refine TE.then ?_; refine TC.kp [0, 2] [] ?_; refine TC.seq ?_
  obtain ⟨o_10, H10, H⟩ := bnd H
  refine TC.cutP (fun s : (UInt64 × Int) => o_10 = s) (fun ⟨x_8, n_9⟩ (_ : Unit) => (Env.set (Env.set Env.nil 0 (D (x_8 : UInt64))) 2 (D (n_9 : Int)))) (fun ⟨x_8, n_9⟩ (_ : Unit) => []) ?_ ?_
  · skip
    refine TC.seqS ?_; refine TS.s OpY.move rfl ?_; refine TS.s OpY.geq64 rfl ?_; refine TS.nil ?_; refine TE.then ?_; refine TC.kp [0, 2, 14] [] ?_; refine TC.cond (fun hc => ?_) (fun hc => ?_)
    · replace H10 := cT H10 hc
      refine TC.seqS ?_; refine TS.s OpY.move rfl ?_; refine TS.s (OpD.shr64 (Int.natCast_nonneg _)) rfl ?_; refine TS.s OpY.assign rfl ?_; refine TS.nil ?_; refine TE.then ?_; refine TC.kp [0, 2] [] ?_; refine TC.regionS ?_; refine TS.s OpY.move rfl ?_
      obtain ⟨x_11, ex_11, H10⟩ := bnd H10
      refine TS.s (OpD.add ex_11) rfl ?_; refine TS.s OpY.assign rfl ?_; refine TS.nil ?_; refine TE.kp [0, 2] [] ?_; exact TE.cutP ⟨(shr64 x_4 ((UInt64.ofNat 8).toNat : Int)), x_11⟩ () (Option.some.inj H10).symm (Env.cv (Env.cv (Env.le_nil _))) (Less.nil _)
    · replace H10 := cF H10 hc
      refine TC.skip ?_; exact TE.cutP ⟨x_4, n_5⟩ () (Option.some.inj H10).symm (Env.cv (Env.cv (Env.le_nil _))) (Less.nil _)
  rintro ⟨x_8, n_9⟩ ⟨⟩ hp
  replace hp := hp.symm
  subst hp
  replace H := el2_mk H
  refine TE.then ?_; refine TC.kp [0, 2] [] ?_; refine TC.seqS ?_; refine TS.s OpY.move rfl ?_; refine TS.s OpY.move rfl ?_; refine TS.s OpY.conv64_8 rfl ?_
  obtain ⟨x_12, ex_12, H⟩ := bnd H
  refine TS.s (OpY.indexStr rfl ex_12) rfl ?_; refine TS.s OpD.conv8_i rfl ?_
  obtain ⟨x_13, ex_13, H⟩ := bnd H
  refine TS.s (OpD.add ex_13) rfl ?_; refine TS.s OpY.assign rfl ?_; refine TS.nil ?_; refine TE.then ?_; refine TC.kp [2] [] ?_; refine TC.ret ?_
  obtain rfl := (Option.some.inj H)
  exact TE.ret1 rfl Cv.le
def math_bits_Len (x0 : UInt64) : Option Int :=
  bif false then ((math_bits_Len32 (x0.toUInt32)).bind fun x_1 => some x_1) else ((math_bits_Len64 x0).bind fun x_2 => some x_2)
theorem math_bits_Len_c {A : Nat → Prop} {x0 : UInt64}  {r : Int} (w : World) (v0 : Value) (hA : ∀ k, w.heap.size ≤ k → A k)  (h0 : (D (x0 : UInt64)).p A w v0) (H : math_bits_Len x0 = some r) :
    Calls Try.prog 46 #[v0] w (Ret A w (D (r : Int))) := by
  unfold math_bits_Len at H
  refine enter1 hA Try.func46 rfl Try.ntmps46 rfl h0 ?_; refine TC.seqS ?_; refine TS.s OpY.assign rfl ?_; refine TS.nil ?_; refine TE.then ?_; refine TC.kp [0] [] ?_; refine TC.seq ?_; refine TC.cond (fun hc => ?_) (fun hc => ?_)
  · replace H := cT H hc
    refine TC.seqS ?_; refine TS.s OpY.move rfl ?_; refine TS.s OpY.conv64_32 rfl ?_
    obtain ⟨x_1, ex_1, H⟩ := bnd H
    refine TS.s (OpY.call1 fun w v0 hA h0 => math_bits_Len32_c w v0 hA (toD h0) ex_1) rfl ?_; refine TS.s OpY.assign rfl ?_; refine TS.nil ?_; refine TE.then ?_; refine TC.kp [2] [] ?_; refine TC.ret ?_; refine TE.then_ret ?_
    obtain rfl := (Option.some.inj H)
    exact TE.ret1 rfl Cv.le
  · replace H := cF H hc
    refine TC.skip ?_; refine TE.then ?_; refine TC.kp [0] [] ?_; refine TC.seqS ?_; refine TS.s OpY.move rfl ?_
    obtain ⟨x_2, ex_2, H⟩ := bnd H
    refine TS.s (OpY.call1 fun w v0 hA h0 => math_bits_Len64_c w v0 hA (toD h0) ex_2) rfl ?_; refine TS.s OpY.assign rfl ?_; refine TS.nil ?_; refine TE.then ?_; refine TC.kp [2] [] ?_; refine TC.ret ?_
    obtain rfl := (Option.some.inj H)
    exact TE.ret1 rfl Cv.le
def slices_insertionSortCmpFunc_api_Prefix_l2 (a0 : Int) (cmp0 : (F2 Try.prog Prefix Prefix Int)) (j_9 : Int) (data_10 : (List Prefix)) : Option ((Int × (List Prefix)) ⊕ (List Prefix)) :=
  (gb (decide (j_9 > a0)) (idx data_10 j_9)).bind fun x_12 => (gb (decide (j_9 > a0)) (subI j_9 (1 : Int))).bind fun x_13 => (gb (decide (j_9 > a0)) (idx data_10 x_13)).bind fun x_14 => (gb (decide (j_9 > a0)) ((cmp0).f x_12 x_14)).bind fun x_15 => bif ((decide (j_9 > a0)) && (decide (x_15 < (0 : Int)))) then ((subI j_9 (1 : Int)).bind fun x_16 => (subI j_9 (1 : Int)).bind fun x_17 => (idx data_10 x_17).bind fun x_18 => (idx data_10 j_9).bind fun x_19 => (idx data_10 j_9).bind fun x_20 => (idx (data_10.set (Int.toNat j_9) x_18) x_16).bind fun x_21 => (some (((data_10.set (Int.toNat j_9) x_18).set (Int.toNat x_16) x_19) : (List Prefix))).bind fun l_22 => (subI j_9 (1 : Int)).bind fun x_23 => some (.inl (x_23, l_22))) else (some (.inr data_10))
def slices_insertionSortCmpFunc_api_Prefix_l1 (a0 : Int) (b0x : Int) (cmp0 : (F2 Try.prog Prefix Prefix Int)) (i_4 : Int) (data_5 : (List Prefix)) : Option ((Int × (List Prefix)) ⊕ (List Prefix)) :=
  bif (decide (i_4 < b0x)) then ((loopO (fun s => slices_insertionSortCmpFunc_api_Prefix_l2 a0 cmp0 s.1 s.2) (i_4, data_5)).bind fun data_7 => (addI i_4 (1 : Int)).bind fun x_24 => some (.inl (x_24, data_7))) else (some (.inr data_5))
def slices_insertionSortCmpFunc_api_Prefix (data0 : (List Prefix)) (a0 : Int) (b0x : Int) (cmp0 : (F2 Try.prog Prefix Prefix Int)) : Option (List Prefix) :=
  (addI a0 (1 : Int)).bind fun x_1 => (loopO (fun s => slices_insertionSortCmpFunc_api_Prefix_l1 a0 b0x cmp0 s.1 s.2) (x_1, data0)).bind fun data_2 => some data_2
theorem slices_insertionSortCmpFunc_api_Prefix_o {A : Nat → Prop} {data0 : (List Prefix)} {a0 : Int} {b0x : Int} {cmp0 : (F2 Try.prog Prefix Prefix Int)} {b0 c0 : Nat} {p0 : Prop} {r : (List Prefix)} (w : World) (v0 v1 v2 v3 : Value) (hA : ∀ k, w.heap.size ≤ k → A k) (hO : OwnIn A [⟨b0, p0, Row (data0 : List Prefix) c0⟩]) (hap : Apart [⟨b0, p0, Row (data0 : List Prefix) c0⟩]) (hks : Pks (Pub A [⟨b0, p0, Row (data0 : List Prefix) c0⟩]) [⟨b0, p0, Row (data0 : List Prefix) c0⟩] w) (h0 : (Sl b0 p0 0 data0.length c0).p (Pub A [⟨b0, p0, Row (data0 : List Prefix) c0⟩]) w v0) (h1 : (D (a0 : Int)).p (Pub A [⟨b0, p0, Row (data0 : List Prefix) c0⟩]) w v1) (h2 : (D (b0x : Int)).p (Pub A [⟨b0, p0, Row (data0 : List Prefix) c0⟩]) w v2) (h3 : (D (cmp0 : (F2 Try.prog Prefix Prefix Int))).p (Pub A [⟨b0, p0, Row (data0 : List Prefix) c0⟩]) w v3) (H : slices_insertionSortCmpFunc_api_Prefix data0 a0 b0x cmp0 = some r) :
    Calls Try.prog 51 #[v0, v1, v2, v3] w (RetO A w [⟨b0, p0, Row (data0 : List Prefix) c0⟩] (fun g : Unit => Tup []) fun g => [⟨b0, p0, Row (r : List Prefix) c0⟩]) := by
  unfold slices_insertionSortCmpFunc_api_Prefix at H
  refine enterO4 hA hap hks Try.func51 rfl Try.ntmps51 rfl h0 h1 h2 h3 ?_; refine TC.seqS ?_; refine TS.s OpY.move rfl ?_
  obtain ⟨x_1, ex_1, H⟩ := bnd H
  refine TS.s (OpD.add ex_1) rfl ?_; refine TS.s OpY.assign rfl ?_; refine TS.nil ?_; refine TE.then ?_; refine TC.kp [0, 1, 2, 3, 8] [b0] ?_
  obtain ⟨o_3, H3, H⟩ := bnd H
  refine TC.cutP (fun s : (List Prefix) => o_3 = s) (fun (data_2 : (List Prefix)) (_ : Unit) => Env.nil) (fun (data_2 : (List Prefix)) (_ : Unit) => [⟨b0, p0, (Row (data_2 : List Prefix) c0)⟩]) ?_ ?_
  · skip
    refine TC.block ?_; refine TC.loopP H3 (fun ⟨i_4, data_5⟩ (_ : Unit) => (Env.set (Env.set (Env.set (Env.set (Env.set Env.nil 0 (Sl b0 p0 0 data_5.length c0)) 1 (D (a0 : Int))) 2 (D (b0x : Int))) 3 (D (cmp0 : (F2 Try.prog Prefix Prefix Int)))) 8 (D (i_4 : Int)))) (fun ⟨i_4, data_5⟩ (_ : Unit) => [⟨b0, p0, (Row (data_5 : List Prefix) c0)⟩]) () (Env.cv (Env.cv (Env.cv (Env.cv (Env.cvBy (Sl_le rfl) (Env.le_nil _)))))) (Less.pk rfl (Less.nil _)) ?_
    rintro ⟨i_4, data_5⟩ ⟨⟩ x_6 H6 he6
    replace H6 : slices_insertionSortCmpFunc_api_Prefix_l1 a0 b0x cmp0 i_4 data_5 = some x_6 := H6
    unfold slices_insertionSortCmpFunc_api_Prefix_l1 at H6
    refine TC.seq ?_; refine TC.seqS ?_; refine TS.s OpY.move rfl ?_; refine TS.s OpY.move rfl ?_; refine TS.s OpY.lss rfl ?_; refine TS.nil ?_; refine TE.then ?_; refine TC.kp [0, 1, 2, 3, 8, 14] [b0] ?_; refine TC.cond (fun hc => ?_) (fun hc => ?_)
    · replace H6 := cT H6 hc
      refine TC.skip ?_; refine TE.then ?_; refine TC.kp [0, 1, 2, 3, 8] [b0] ?_; refine TC.seq ?_; refine TC.block ?_; refine TC.seqS ?_; refine TS.s OpY.move rfl ?_; refine TS.s OpY.assign rfl ?_; refine TS.nil ?_; refine TE.then ?_; refine TC.kp [0, 1, 2, 3, 8, 9] [b0] ?_
      obtain ⟨o_8, H8, H6⟩ := bnd H6
      refine TC.cutP (fun s : (List Prefix) => o_8 = s) (fun (data_7 : (List Prefix)) (_ : Unit) => (Env.set (Env.set (Env.set (Env.set (Env.set Env.nil 0 (Sl b0 p0 0 data_7.length c0)) 1 (D (a0 : Int))) 2 (D (b0x : Int))) 3 (D (cmp0 : (F2 Try.prog Prefix Prefix Int)))) 8 (D (i_4 : Int)))) (fun (data_7 : (List Prefix)) (_ : Unit) => [⟨b0, p0, (Row (data_7 : List Prefix) c0)⟩]) ?_ ?_
      · skip
        refine TC.block ?_; refine TC.loopP H8 (fun ⟨j_9, data_10⟩ (_ : Unit) => (Env.set (Env.set (Env.set (Env.set (Env.set (Env.set Env.nil 0 (Sl b0 p0 0 data_10.length c0)) 1 (D (a0 : Int))) 2 (D (b0x : Int))) 3 (D (cmp0 : (F2 Try.prog Prefix Prefix Int)))) 8 (D (i_4 : Int))) 9 (D (j_9 : Int)))) (fun ⟨j_9, data_10⟩ (_ : Unit) => [⟨b0, p0, (Row (data_10 : List Prefix) c0)⟩]) () (Env.cv (Env.cv (Env.cv (Env.cv (Env.cv (Env.cvBy (Sl_le rfl) (Env.le_nil _))))))) (Less.pk rfl (Less.nil _)) ?_
        rintro ⟨j_9, data_10⟩ ⟨⟩ x_11 H11 he11
        replace H11 : slices_insertionSortCmpFunc_api_Prefix_l2 a0 cmp0 j_9 data_10 = some x_11 := H11
        unfold slices_insertionSortCmpFunc_api_Prefix_l2 at H11
        refine TC.seq ?_; refine TC.seqD0 mix (by kernel_rfl) ?_; refine TR.s OpY.move rfl ?_; refine TR.s OpY.move rfl ?_; refine TR.s OpY.gtr rfl ?_; refine TR.s OpY.move rfl ?_; refine TR.g 21 rfl (fun hg => OpY.move) rfl ?_; refine TR.g 21 rfl (fun hg => OpY.move) rfl ?_; refine TR.g 21 rfl (fun hg => OpY.move) rfl ?_
        obtain ⟨x_12, ex_12, H11⟩ := bnd H11
        refine TR.g 21 rfl (fun hg => (OpD.indexq (idx_in (gb_some ex_12 hg.h) rfl))) rfl ?_; refine TR.g 21 rfl (fun hg => (OpD.ldq (Pl.rowz (gb_some ex_12 hg.h)))) rfl ?_; refine TR.g 21 rfl (fun hg => OpY.move) rfl ?_; refine TR.g 21 rfl (fun hg => OpY.move) rfl ?_
        obtain ⟨x_13, ex_13, H11⟩ := bnd H11
        refine TR.g 21 rfl (fun hg => (OpD.sub (gb_some ex_13 hg.h))) rfl ?_
        obtain ⟨x_14, ex_14, H11⟩ := bnd H11
        refine TR.g 21 rfl (fun hg => (OpD.indexq (idx_in (gb_some ex_14 hg.h) rfl))) rfl ?_; refine TR.g 21 rfl (fun hg => (OpD.ldq (Pl.rowz (gb_some ex_14 hg.h)))) rfl ?_
        obtain ⟨x_15, ex_15, H11⟩ := bnd H11
        refine TR.g 21 rfl (fun hg => (OpY.callV2 (gb_some ex_15 hg.h))) rfl ?_; refine TR.g 21 rfl (fun hg => OpY.lss) rfl ?_; refine TR.s OpY.pickAnd rfl ?_; refine TR.nil ?_; refine TC.kp [0, 1, 2, 3, 8, 9, 34] [b0] ?_; refine TC.cond (fun hc => ?_) (fun hc => ?_)
        · replace H11 := cT H11 hc
          refine TC.skip ?_; refine TE.then ?_; refine TC.kp [0, 1, 2, 3, 8, 9] [b0] ?_; refine TC.seq ?_; refine TC.block ?_; refine TC.regD2 [0, 0, 0, 0, 0, 0, 0, 0, 0, 2, 0, 0, 0, 2, 0, 1, 0, 1] [b0] mix (by kernel_rfl) (by kernel_rfl) ?_; refine TR2.s OpY.move rfl ?_; refine TR2.s OpY.move rfl ?_; refine TR2.s OpY.move rfl ?_; refine TR2.s OpY.move rfl ?_
          obtain ⟨x_16, ex_16, H11⟩ := bnd H11
          refine TR2.s (OpD.sub ex_16) rfl ?_; refine TR2.s OpY.move rfl ?_; refine TR2.s OpY.move rfl ?_
          obtain ⟨x_17, ex_17, H11⟩ := bnd H11
          refine TR2.s (OpD.sub ex_17) rfl ?_
          obtain ⟨x_18, ex_18, H11⟩ := bnd H11
          refine TR2.s (OpD.indexq (idx_in ex_18 rfl)) rfl ?_; refine TR2.r (fun g => OpG.s (OpD.ldq (Pl.rowz ex_18))) rfl ?_; refine TR2.s OpY.move rfl ?_; refine TR2.s OpY.move rfl ?_
          obtain ⟨x_19, ex_19, H11⟩ := bnd H11
          refine TR2.s (OpD.indexq (idx_in ex_19 rfl)) rfl ?_; refine TR2.r (fun g => OpG.s (OpD.ldq (Pl.rowz ex_19))) rfl ?_
          obtain ⟨x_20, ex_20, H11⟩ := bnd H11
          refine TR2.s (OpD.indexq (idx_in ex_20 rfl)) rfl ?_; refine TR2.tn (fun Ωr g => (OpT.storeq (y := (x_18 : Prefix)) (Pl.rowz ex_20))) rfl ?_
          obtain ⟨x_21, ex_21, H11⟩ := bnd H11
          refine TR2.s (OpD.indexq (idx_in ex_21 (by simp))) rfl ?_; refine TR2.tn (fun Ωr g => (OpT.storeq (y := (x_19 : Prefix)) (Pl.rowz ex_21))) rfl ?_; refine TR2.nil ?_
          rintro ⟨⟨⟨⟨_, _⟩, _⟩, _⟩, _⟩
          dsimp only [Fam.nextS, Fam.nextN, Fam.one, List.cons_append, List.nil_append]
          refine TE.kp [0, 1, 2, 3, 8, 9] [b0] ?_
          obtain ⟨l_22, el_22, H11⟩ := bnd H11
          refine TE.nmB b0 (nm_row el_22) ?_; refine TE.see 0 _ (nm_sl2 el_22 (by simp)) ?_; refine TE.inBlock_normal ?_; refine TE.then ?_; refine TC.kp [0, 1, 2, 3, 8, 9] [b0] ?_; refine TC.regionS ?_; refine TS.s OpY.move rfl ?_
          obtain ⟨x_23, ex_23, H11⟩ := bnd H11
          refine TS.s (OpD.sub ex_23) rfl ?_; refine TS.s OpY.assign rfl ?_; refine TS.nil ?_; refine TE.kp [0, 1, 2, 3, 8, 9] [b0] ?_; exact TE.backP ⟨x_23, l_22⟩ () (Option.some.inj H11).symm (Env.cv (Env.cv (Env.cv (Env.cv (Env.cv (Env.cvBy (Sl_le rfl) (Env.le_nil _))))))) (Less.pk rfl (Less.nil _))
        · replace H11 := cF H11 hc
          refine TC.exit ?_; refine TE.then_exit ?_; refine TE.then_exit ?_; refine TE.inBlock_here ?_; exact TE.cutP data_10 () (he11 _ (Option.some.inj H11).symm).symm (Env.cv (Env.cv (Env.cv (Env.cv (Env.cvBy (Sl_le rfl) (Env.le_nil _)))))) (Less.pk rfl (Less.nil _))
      rintro data_7 ⟨⟩ hp
      replace hp := hp.symm
      subst hp
      refine TE.inBlock_normal ?_; refine TE.then ?_; refine TC.kp [0, 1, 2, 3, 8] [b0] ?_; refine TC.regionS ?_; refine TS.s OpY.move rfl ?_
      obtain ⟨x_24, ex_24, H6⟩ := bnd H6
      refine TS.s (OpD.add ex_24) rfl ?_; refine TS.s OpY.assign rfl ?_; refine TS.nil ?_; refine TE.kp [0, 1, 2, 3, 8] [b0] ?_; exact TE.backP ⟨x_24, data_7⟩ () (Option.some.inj H6).symm (Env.cv (Env.cv (Env.cv (Env.cv (Env.cvBy (Sl_le rfl) (Env.le_nil _)))))) (Less.pk rfl (Less.nil _))
    · replace H6 := cF H6 hc
      refine TC.exit ?_; refine TE.then_exit ?_; refine TE.then_exit ?_; refine TE.inBlock_here ?_; exact TE.cutP data_5 () (he6 _ (Option.some.inj H6).symm).symm (Env.le_nil _) (Less.pk rfl (Less.nil _))
  rintro data_2 ⟨⟩ hp
  replace hp := hp.symm
  subst hp
  obtain rfl := (Option.some.inj H)
  exact TE.endON rfl rfl () .nil (Less.pk rfl (Less.nil _))
def slices_siftDownCmpFunc_api_Prefix_l1 (hi0 : Int) (first0 : Int) (cmp0 : (F2 Try.prog Prefix Prefix Int)) (root_3 : Int) (data_4 : (List Prefix)) : Option ((Int × (List Prefix)) ⊕ ((List Prefix) ⊕ (List Prefix))) :=
  (mulI (2 : Int) root_3).bind fun x_6 => (addI x_6 (1 : Int)).bind fun x_7 => bif (decide (x_7 ≥ hi0)) then (some (.inr (.inl data_4))) else (((addI x_7 (1 : Int)).bind fun x_10 => (gb (decide (x_10 < hi0)) (addI first0 x_7)).bind fun x_11 => (gb (decide (x_10 < hi0)) (idx data_4 x_11)).bind fun x_12 => (gb (decide (x_10 < hi0)) (addI first0 x_7)).bind fun x_13 => (gb (decide (x_10 < hi0)) (addI x_13 (1 : Int))).bind fun x_14 => (gb (decide (x_10 < hi0)) (idx data_4 x_14)).bind fun x_15 => (gb (decide (x_10 < hi0)) ((cmp0).f x_12 x_15)).bind fun x_16 => bif ((decide (x_10 < hi0)) && (decide (x_16 < (0 : Int)))) then ((addI x_7 (1 : Int)).bind fun x_17 => some x_17) else (some x_7)).bind fun child_8 => (addI first0 root_3).bind fun x_18 => (idx data_4 x_18).bind fun x_19 => (addI first0 child_8).bind fun x_20 => (idx data_4 x_20).bind fun x_21 => ((cmp0).f x_19 x_21).bind fun x_22 => bif (!(decide (x_22 < (0 : Int)))) then (some (.inr (.inr data_4))) else ((addI first0 root_3).bind fun x_24 => (addI first0 child_8).bind fun x_25 => (addI first0 child_8).bind fun x_26 => (idx data_4 x_26).bind fun x_27 => (addI first0 root_3).bind fun x_28 => (idx data_4 x_28).bind fun x_29 => (idx data_4 x_24).bind fun x_30 => (idx (data_4.set (Int.toNat x_24) x_27) x_25).bind fun x_31 => (some (((data_4.set (Int.toNat x_24) x_27).set (Int.toNat x_25) x_29) : (List Prefix))).bind fun l_32 => some (.inl (child_8, l_32))))
def slices_siftDownCmpFunc_api_Prefix (data0 : (List Prefix)) (lo0 : Int) (hi0 : Int) (first0 : Int) (cmp0 : (F2 Try.prog Prefix Prefix Int)) : Option (List Prefix) :=
  (loopO (fun s => slices_siftDownCmpFunc_api_Prefix_l1 hi0 first0 cmp0 s.1 s.2) (lo0, data0)).bind fun o_2 => elS o_2 (fun data_1 => some data_1) (fun q => some q)
theorem slices_siftDownCmpFunc_api_Prefix_o {A : Nat → Prop} {data0 : (List Prefix)} {lo0 : Int} {hi0 : Int} {first0 : Int} {cmp0 : (F2 Try.prog Prefix Prefix Int)} {b0 c0 : Nat} {p0 : Prop} {r : (List Prefix)} (w : World) (v0 v1 v2 v3 v4 : Value) (hA : ∀ k, w.heap.size ≤ k → A k) (hO : OwnIn A [⟨b0, p0, Row (data0 : List Prefix) c0⟩]) (hap : Apart [⟨b0, p0, Row (data0 : List Prefix) c0⟩]) (hks : Pks (Pub A [⟨b0, p0, Row (data0 : List Prefix) c0⟩]) [⟨b0, p0, Row (data0 : List Prefix) c0⟩] w) (h0 : (Sl b0 p0 0 data0.length c0).p (Pub A [⟨b0, p0, Row (data0 : List Prefix) c0⟩]) w v0) (h1 : (D (lo0 : Int)).p (Pub A [⟨b0, p0, Row (data0 : List Prefix) c0⟩]) w v1) (h2 : (D (hi0 : Int)).p (Pub A [⟨b0, p0, Row (data0 : List Prefix) c0⟩]) w v2) (h3 : (D (first0 : Int)).p (Pub A [⟨b0, p0, Row (data0 : List Prefix) c0⟩]) w v3) (h4 : (D (cmp0 : (F2 Try.prog Prefix Prefix Int))).p (Pub A [⟨b0, p0, Row (data0 : List Prefix) c0⟩]) w v4) (H : slices_siftDownCmpFunc_api_Prefix data0 lo0 hi0 first0 cmp0 = some r) :
    Calls Try.prog 62 #[v0, v1, v2, v3, v4] w (RetO A w [⟨b0, p0, Row (data0 : List Prefix) c0⟩] (fun g : Unit => Tup []) fun g => [⟨b0, p0, Row (r : List Prefix) c0⟩]) := by
  unfold slices_siftDownCmpFunc_api_Prefix at H
  refine enterO5 hA hap hks Try.func62 rfl Try.ntmps62 rfl h0 h1 h2 h3 h4 ?_; refine TC.seqS ?_; refine TS.s OpY.move rfl ?_; refine TS.s OpY.assign rfl ?_; refine TS.nil ?_; refine TE.then ?_; refine TC.kp [0, 2, 3, 4, 10] [b0] ?_
  obtain ⟨o_2, H2, H⟩ := bnd H
  refine TC.cutP (fun s : (List Prefix) => o_2 = .inl s) (fun (data_1 : (List Prefix)) (_ : Unit) => Env.nil) (fun (data_1 : (List Prefix)) (_ : Unit) => [⟨b0, p0, (Row (data_1 : List Prefix) c0)⟩]) ?_ ?_
  · skip
    refine TC.block ?_; refine TC.loopP H2 (fun ⟨root_3, data_4⟩ (_ : Unit) => (Env.set (Env.set (Env.set (Env.set (Env.set Env.nil 0 (Sl b0 p0 0 data_4.length c0)) 2 (D (hi0 : Int))) 3 (D (first0 : Int))) 4 (D (cmp0 : (F2 Try.prog Prefix Prefix Int)))) 10 (D (root_3 : Int)))) (fun ⟨root_3, data_4⟩ (_ : Unit) => [⟨b0, p0, (Row (data_4 : List Prefix) c0)⟩]) () (Env.cv (Env.cv (Env.cv (Env.cv (Env.cvBy (Sl_le rfl) (Env.le_nil _)))))) (Less.pk rfl (Less.nil _)) ?_
    rintro ⟨root_3, data_4⟩ ⟨⟩ x_5 H5 he5
    replace H5 : slices_siftDownCmpFunc_api_Prefix_l1 hi0 first0 cmp0 root_3 data_4 = some x_5 := H5
    unfold slices_siftDownCmpFunc_api_Prefix_l1 at H5
    refine TC.block ?_; refine TC.seqS ?_; refine TS.s OpY.move rfl ?_
    obtain ⟨x_6, ex_6, H5⟩ := bnd H5
    refine TS.s (OpD.mul ex_6) rfl ?_
    obtain ⟨x_7, ex_7, H5⟩ := bnd H5
    refine TS.s (OpD.add ex_7) rfl ?_; refine TS.s OpY.assign rfl ?_; refine TS.nil ?_; refine TE.then ?_; refine TC.kp [0, 2, 3, 4, 10, 11] [b0] ?_; refine TC.seq ?_; refine TC.seqS ?_; refine TS.s OpY.move rfl ?_; refine TS.s OpY.move rfl ?_; refine TS.s OpY.geq rfl ?_; refine TS.nil ?_; refine TE.then ?_; refine TC.kp [0, 2, 3, 4, 10, 11, 18] [b0] ?_; refine TC.cond (fun hc => ?_) (fun hc => ?_)
    · replace H5 := cT H5 hc
      refine TC.exit ?_; refine TE.then_exit ?_; refine TE.inBlock_other rfl ?_; refine TE.then_exit ?_; refine TE.inBlock_here ?_; exact TE.cutP data_4 () (he5 _ (Option.some.inj H5).symm).symm (Env.le_nil _) (Less.pk rfl (Less.nil _))
    · replace H5 := cF H5 hc
      refine TC.skip ?_; refine TE.then ?_; refine TC.kp [0, 2, 3, 4, 10, 11] [b0] ?_; refine TC.seq ?_
      obtain ⟨o_9, H9, H5⟩ := bnd H5
      refine TC.cutP (fun s : Int => o_9 = s) (fun (child_8 : Int) (_ : Unit) => (Env.set (Env.set (Env.set (Env.set (Env.set (Env.set Env.nil 0 (Sl b0 p0 0 data_4.length c0)) 2 (D (hi0 : Int))) 3 (D (first0 : Int))) 4 (D (cmp0 : (F2 Try.prog Prefix Prefix Int)))) 10 (D (root_3 : Int))) 11 (D (child_8 : Int)))) (fun (child_8 : Int) (_ : Unit) => [⟨b0, p0, (Row (data_4 : List Prefix) c0)⟩]) ?_ ?_
      · skip
        refine TC.seqD0 mix (by kernel_rfl) ?_; refine TR.s OpY.move rfl ?_
        obtain ⟨x_10, ex_10, H9⟩ := bnd H9
        refine TR.s (OpD.add ex_10) rfl ?_; refine TR.s OpY.move rfl ?_; refine TR.s OpY.lss rfl ?_; refine TR.s OpY.move rfl ?_; refine TR.g 23 rfl (fun hg => OpY.move) rfl ?_; refine TR.g 23 rfl (fun hg => OpY.move) rfl ?_; refine TR.g 23 rfl (fun hg => OpY.move) rfl ?_; refine TR.g 23 rfl (fun hg => OpY.move) rfl ?_
        obtain ⟨x_11, ex_11, H9⟩ := bnd H9
        refine TR.g 23 rfl (fun hg => (OpD.add (gb_some ex_11 hg.h))) rfl ?_
        obtain ⟨x_12, ex_12, H9⟩ := bnd H9
        refine TR.g 23 rfl (fun hg => (OpD.indexq (idx_in (gb_some ex_12 hg.h) rfl))) rfl ?_; refine TR.g 23 rfl (fun hg => (OpD.ldq (Pl.rowz (gb_some ex_12 hg.h)))) rfl ?_; refine TR.g 23 rfl (fun hg => OpY.move) rfl ?_; refine TR.g 23 rfl (fun hg => OpY.move) rfl ?_; refine TR.g 23 rfl (fun hg => OpY.move) rfl ?_
        obtain ⟨x_13, ex_13, H9⟩ := bnd H9
        refine TR.g 23 rfl (fun hg => (OpD.add (gb_some ex_13 hg.h))) rfl ?_
        obtain ⟨x_14, ex_14, H9⟩ := bnd H9
        refine TR.g 23 rfl (fun hg => (OpD.add (gb_some ex_14 hg.h))) rfl ?_
        obtain ⟨x_15, ex_15, H9⟩ := bnd H9
        refine TR.g 23 rfl (fun hg => (OpD.indexq (idx_in (gb_some ex_15 hg.h) rfl))) rfl ?_; refine TR.g 23 rfl (fun hg => (OpD.ldq (Pl.rowz (gb_some ex_15 hg.h)))) rfl ?_
        obtain ⟨x_16, ex_16, H9⟩ := bnd H9
        refine TR.g 23 rfl (fun hg => (OpY.callV2 (gb_some ex_16 hg.h))) rfl ?_; refine TR.g 23 rfl (fun hg => OpY.lss) rfl ?_; refine TR.s OpY.pickAnd rfl ?_; refine TR.nil ?_; refine TC.kp [0, 2, 3, 4, 10, 11, 40] [b0] ?_; refine TC.cond (fun hc => ?_) (fun hc => ?_)
        · replace H9 := cT H9 hc
          refine TC.regionS ?_; refine TS.s OpY.move rfl ?_
          obtain ⟨x_17, ex_17, H9⟩ := bnd H9
          refine TS.s (OpD.add ex_17) rfl ?_; refine TS.s OpY.assign rfl ?_; refine TS.nil ?_; refine TE.kp [0, 2, 3, 4, 10, 11] [b0] ?_; exact TE.cutP x_17 () (Option.some.inj H9).symm (Env.cv (Env.cv (Env.cv (Env.cv (Env.cv (Env.cvBy (Sl_le rfl) (Env.le_nil _))))))) (Less.pk rfl (Less.nil _))
        · replace H9 := cF H9 hc
          refine TC.skip ?_; exact TE.cutP x_7 () (Option.some.inj H9).symm (Env.cv (Env.cv (Env.cv (Env.cv (Env.cv (Env.cvBy (Sl_le rfl) (Env.le_nil _))))))) (Less.pk rfl (Less.nil _))
      rintro child_8 ⟨⟩ hp
      replace hp := hp.symm
      subst hp
      refine TE.then ?_; refine TC.kp [0, 2, 3, 4, 10, 11] [b0] ?_; refine TC.seq ?_; refine TC.seqD0 mix (by kernel_rfl) ?_; refine TR.s OpY.move rfl ?_; refine TR.s OpY.move rfl ?_; refine TR.s OpY.move rfl ?_; refine TR.s OpY.move rfl ?_
      obtain ⟨x_18, ex_18, H5⟩ := bnd H5
      refine TR.s (OpD.add ex_18) rfl ?_
      obtain ⟨x_19, ex_19, H5⟩ := bnd H5
      refine TR.s (OpD.indexq (idx_in ex_19 rfl)) rfl ?_; refine TR.s (OpD.ldq (Pl.rowz ex_19)) rfl ?_; refine TR.s OpY.move rfl ?_; refine TR.s OpY.move rfl ?_; refine TR.s OpY.move rfl ?_
      obtain ⟨x_20, ex_20, H5⟩ := bnd H5
      refine TR.s (OpD.add ex_20) rfl ?_
      obtain ⟨x_21, ex_21, H5⟩ := bnd H5
      refine TR.s (OpD.indexq (idx_in ex_21 rfl)) rfl ?_; refine TR.s (OpD.ldq (Pl.rowz ex_21)) rfl ?_
      obtain ⟨x_22, ex_22, H5⟩ := bnd H5
      refine TR.s (OpY.callV2 ex_22) rfl ?_; refine TR.s OpY.lss rfl ?_; refine TR.s OpY.notB rfl ?_; refine TR.nil ?_; refine TC.kp [0, 2, 3, 4, 10, 11, 58] [b0] ?_; refine TC.cond (fun hc => ?_) (fun hc => ?_)
      · replace H5 := cT H5 hc
        refine TC.ret ?_; refine TE.then_ret ?_; refine TE.inBlock_ret ?_; refine TE.then_ret ?_; refine TE.inBlock_ret ?_; refine TE.cut_ret ?_
        have R22 := elS_r (he5 _ (Option.some.inj H5).symm) H
        obtain rfl := (Option.some.inj R22)
        exact TE.retON rfl rfl () .nil (Less.pk rfl (Less.nil _))
      · replace H5 := cF H5 hc
        refine TC.skip ?_; refine TE.then ?_; refine TC.kp [0, 2, 3, 4, 10, 11] [b0] ?_; refine TC.seqD2 [0, 0, 0, 0, 0, 0, 0, 0, 0, 0, 0, 0, 0, 2, 0, 0, 0, 0, 0, 2, 0, 1, 0, 1] [b0] mix (by kernel_rfl) (by kernel_rfl) ?_; refine TR2.s OpY.move rfl ?_; refine TR2.s OpY.move rfl ?_; refine TR2.s OpY.move rfl ?_
        obtain ⟨x_24, ex_24, H5⟩ := bnd H5
        refine TR2.s (OpD.add ex_24) rfl ?_; refine TR2.s OpY.move rfl ?_; refine TR2.s OpY.move rfl ?_; refine TR2.s OpY.move rfl ?_
        obtain ⟨x_25, ex_25, H5⟩ := bnd H5
        refine TR2.s (OpD.add ex_25) rfl ?_; refine TR2.s OpY.move rfl ?_; refine TR2.s OpY.move rfl ?_; refine TR2.s OpY.move rfl ?_
        obtain ⟨x_26, ex_26, H5⟩ := bnd H5
        refine TR2.s (OpD.add ex_26) rfl ?_
        obtain ⟨x_27, ex_27, H5⟩ := bnd H5
        refine TR2.s (OpD.indexq (idx_in ex_27 rfl)) rfl ?_; refine TR2.r (fun g => OpG.s (OpD.ldq (Pl.rowz ex_27))) rfl ?_; refine TR2.s OpY.move rfl ?_; refine TR2.s OpY.move rfl ?_; refine TR2.s OpY.move rfl ?_
        obtain ⟨x_28, ex_28, H5⟩ := bnd H5
        refine TR2.s (OpD.add ex_28) rfl ?_
        obtain ⟨x_29, ex_29, H5⟩ := bnd H5
        refine TR2.s (OpD.indexq (idx_in ex_29 rfl)) rfl ?_; refine TR2.r (fun g => OpG.s (OpD.ldq (Pl.rowz ex_29))) rfl ?_
        obtain ⟨x_30, ex_30, H5⟩ := bnd H5
        refine TR2.s (OpD.indexq (idx_in ex_30 rfl)) rfl ?_; refine TR2.tn (fun Ωr g => (OpT.storeq (y := (x_27 : Prefix)) (Pl.rowz ex_30))) rfl ?_
        obtain ⟨x_31, ex_31, H5⟩ := bnd H5
        refine TR2.s (OpD.indexq (idx_in ex_31 (by simp))) rfl ?_; refine TR2.tn (fun Ωr g => (OpT.storeq (y := (x_29 : Prefix)) (Pl.rowz ex_31))) rfl ?_; refine TR2.nil ?_
        rintro ⟨⟨⟨⟨_, _⟩, _⟩, _⟩, _⟩
        dsimp only [Fam.nextS, Fam.nextN, Fam.one, List.cons_append, List.nil_append]
        refine TC.kp [0, 2, 3, 4, 11] [b0] ?_
        obtain ⟨l_32, el_32, H5⟩ := bnd H5
        refine TC.nmB b0 (nm_row el_32) ?_; refine TC.see 0 _ (nm_sl2 el_32 (by simp)) ?_; refine TC.regionS ?_; refine TS.s OpY.move rfl ?_; refine TS.s OpY.assign rfl ?_; refine TS.nil ?_; refine TE.kp [0, 2, 3, 4, 10] [b0] ?_; refine TE.inBlock_normal ?_; exact TE.backP ⟨child_8, l_32⟩ () (Option.some.inj H5).symm (Env.cv (Env.cv (Env.cv (Env.cv (Env.cvBy (Sl_le rfl) (Env.le_nil _)))))) (Less.pk rfl (Less.nil _))
  rintro data_1 ⟨⟩ hp
  replace H := elS_l hp H
  obtain rfl := (Option.some.inj H)
  exact TE.endON rfl rfl () .nil (Less.pk rfl (Less.nil _))
def slices_heapSortCmpFunc_api_Prefix_l1 (a0 : Int) (cmp0 : (F2 Try.prog Prefix Prefix Int)) (x_1 : Int) (i_6 : Int) (data_7 : (List Prefix)) : Option ((Int × (List Prefix)) ⊕ (List Prefix)) :=
  bif (decide (i_6 ≥ (0 : Int))) then ((slices_siftDownCmpFunc_api_Prefix data_7 i_6 x_1 a0 cmp0).bind fun x_9 => (lenI x_9.length data_7.length).bind fun u_11 => (subI i_6 (1 : Int)).bind fun x_12 => some (.inl (x_12, x_9))) else (some (.inr data_7))
def slices_heapSortCmpFunc_api_Prefix_l2 (a0 : Int) (cmp0 : (F2 Try.prog Prefix Prefix Int)) (i_16 : Int) (data_17 : (List Prefix)) : Option ((Int × (List Prefix)) ⊕ (List Prefix)) :=
  bif (decide (i_16 ≥ (0 : Int))) then ((addI a0 i_16).bind fun x_19 => (addI a0 i_16).bind fun x_20 => (idx data_17 x_20).bind fun x_21 => (idx data_17 a0).bind fun x_22 => (idx data_17 a0).bind fun x_23 => (idx (data_17.set (Int.toNat a0) x_21) x_19).bind fun x_24 => (some (((data_17.set (Int.toNat a0) x_21).set (Int.toNat x_19) x_22) : (List Prefix))).bind fun l_25 => (slices_siftDownCmpFunc_api_Prefix l_25 (0 : Int) i_16 a0 cmp0).bind fun x_26 => (lenI x_26.length l_25.length).bind fun u_28 => (subI i_16 (1 : Int)).bind fun x_29 => some (.inl (x_29, x_26))) else (some (.inr data_17))
def slices_heapSortCmpFunc_api_Prefix (data0 : (List Prefix)) (a0 : Int) (b0x : Int) (cmp0 : (F2 Try.prog Prefix Prefix Int)) : Option (List Prefix) :=
  (subI b0x a0).bind fun x_1 => (subI x_1 (1 : Int)).bind fun x_2 => (quoI x_2 (2 : Int)).bind fun x_3 => (loopO (fun s => slices_heapSortCmpFunc_api_Prefix_l1 a0 cmp0 x_1 s.1 s.2) (x_3, data0)).bind fun data_4 => (subI x_1 (1 : Int)).bind fun x_13 => (loopO (fun s => slices_heapSortCmpFunc_api_Prefix_l2 a0 cmp0 s.1 s.2) (x_13, data_4)).bind fun data_14 => some data_14
theorem slices_heapSortCmpFunc_api_Prefix_o {A : Nat → Prop} {data0 : (List Prefix)} {a0 : Int} {b0x : Int} {cmp0 : (F2 Try.prog Prefix Prefix Int)} {b0 c0 : Nat} {p0 : Prop} {r : (List Prefix)} (w : World) (v0 v1 v2 v3 : Value) (hA : ∀ k, w.heap.size ≤ k → A k) (hO : OwnIn A [⟨b0, p0, Row (data0 : List Prefix) c0⟩]) (hap : Apart [⟨b0, p0, Row (data0 : List Prefix) c0⟩]) (hks : Pks (Pub A [⟨b0, p0, Row (data0 : List Prefix) c0⟩]) [⟨b0, p0, Row (data0 : List Prefix) c0⟩] w) (h0 : (Sl b0 p0 0 data0.length c0).p (Pub A [⟨b0, p0, Row (data0 : List Prefix) c0⟩]) w v0) (h1 : (D (a0 : Int)).p (Pub A [⟨b0, p0, Row (data0 : List Prefix) c0⟩]) w v1) (h2 : (D (b0x : Int)).p (Pub A [⟨b0, p0, Row (data0 : List Prefix) c0⟩]) w v2) (h3 : (D (cmp0 : (F2 Try.prog Prefix Prefix Int))).p (Pub A [⟨b0, p0, Row (data0 : List Prefix) c0⟩]) w v3) (H : slices_heapSortCmpFunc_api_Prefix data0 a0 b0x cmp0 = some r) :
    Calls Try.prog 52 #[v0, v1, v2, v3] w (RetO A w [⟨b0, p0, Row (data0 : List Prefix) c0⟩] (fun g : Unit => Tup []) fun g => [⟨b0, p0, Row (r : List Prefix) c0⟩]) := by
  unfold slices_heapSortCmpFunc_api_Prefix at H
  refine enterO4 hA hap hks Try.func52 rfl Try.ntmps52 rfl h0 h1 h2 h3 ?_; refine TC.seqS ?_; refine TS.s OpY.move rfl ?_; refine TS.s OpY.assign rfl ?_; refine TS.nil ?_; refine TE.then ?_; refine TC.kp [0, 1, 2, 3, 8] [b0] ?_; refine TC.seqS ?_; refine TS.s OpY.assign rfl ?_; refine TS.nil ?_; refine TE.then ?_; refine TC.kp [0, 1, 2, 3, 8, 9] [b0] ?_; refine TC.seqS ?_; refine TS.s OpY.move rfl ?_; refine TS.s OpY.move rfl ?_
  obtain ⟨x_1, ex_1, H⟩ := bnd H
  refine TS.s (OpD.sub ex_1) rfl ?_; refine TS.s OpY.assign rfl ?_; refine TS.nil ?_; refine TE.then ?_; refine TC.kp [0, 3, 8, 9, 10] [b0] ?_; refine TC.seq ?_; refine TC.seqS ?_; refine TS.s OpY.move rfl ?_
  obtain ⟨x_2, ex_2, H⟩ := bnd H
  refine TS.s (OpD.sub ex_2) rfl ?_
  obtain ⟨x_3, ex_3, H⟩ := bnd H
  refine TS.s (OpD.quo ex_3) rfl ?_; refine TS.s OpY.assign rfl ?_; refine TS.nil ?_; refine TE.then ?_; refine TC.kp [0, 3, 8, 9, 10, 11] [b0] ?_
  obtain ⟨o_5, H5, H⟩ := bnd H
  refine TC.cutP (fun s : (List Prefix) => o_5 = s) (fun (data_4 : (List Prefix)) (_ : Unit) => (Env.set (Env.set (Env.set (Env.set (Env.set Env.nil 0 (Sl b0 p0 0 data_4.length c0)) 3 (D (cmp0 : (F2 Try.prog Prefix Prefix Int)))) 8 (D (a0 : Int))) 9 (D ((0 : Int) : Int))) 10 (D (x_1 : Int)))) (fun (data_4 : (List Prefix)) (_ : Unit) => [⟨b0, p0, (Row (data_4 : List Prefix) c0)⟩]) ?_ ?_
  · skip
    refine TC.block ?_; refine TC.loopP H5 (fun ⟨i_6, data_7⟩ (_ : Unit) => (Env.set (Env.set (Env.set (Env.set (Env.set (Env.set Env.nil 0 (Sl b0 p0 0 data_7.length c0)) 3 (D (cmp0 : (F2 Try.prog Prefix Prefix Int)))) 8 (D (a0 : Int))) 9 (D ((0 : Int) : Int))) 10 (D (x_1 : Int))) 11 (D (i_6 : Int)))) (fun ⟨i_6, data_7⟩ (_ : Unit) => [⟨b0, p0, (Row (data_7 : List Prefix) c0)⟩]) () (Env.cv (Env.cv (Env.cv (Env.cv (Env.cv (Env.cvBy (Sl_le rfl) (Env.le_nil _))))))) (Less.pk rfl (Less.nil _)) ?_
    rintro ⟨i_6, data_7⟩ ⟨⟩ x_8 H8 he8
    replace H8 : slices_heapSortCmpFunc_api_Prefix_l1 a0 cmp0 x_1 i_6 data_7 = some x_8 := H8
    unfold slices_heapSortCmpFunc_api_Prefix_l1 at H8
    refine TC.seq ?_; refine TC.seqS ?_; refine TS.s OpY.move rfl ?_; refine TS.s OpY.geq rfl ?_; refine TS.nil ?_; refine TE.then ?_; refine TC.kp [0, 3, 8, 9, 10, 11, 21] [b0] ?_; refine TC.cond (fun hc => ?_) (fun hc => ?_)
    · replace H8 := cT H8 hc
      refine TC.skip ?_; refine TE.then ?_; refine TC.kp [0, 3, 8, 9, 10, 11] [b0] ?_; refine TC.seq ?_; refine TC.block ?_; refine TC.regionS ?_; refine TS.s OpY.move rfl ?_; refine TS.s OpY.move rfl ?_; refine TS.s OpY.move rfl ?_; refine TS.s OpY.move rfl ?_; refine TS.s OpY.move rfl ?_
      obtain ⟨x_9, ex_9, H8⟩ := bnd H8
      refine TS.t (OpT.callO5 [b0] fun w v0 v1 v2 v3 v4 hA hO hap hks h0 h1 h2 h3 h4 => slices_siftDownCmpFunc_api_Prefix_o w v0 v1 v2 v3 v4 hA hO hap hks (slD rfl h0) (toD h1) (toD h2) (toD h3) (toD h4) ex_9) rfl fun _ => ?_; dsimp only [List.cons_append, List.nil_append]
      obtain ⟨u_11, eu_11, H8⟩ := bnd H8
      refine TS.nil ?_; refine TE.kp [0, 3, 8, 9, 10, 11] [b0] ?_; refine TE.inBlock_normal ?_; refine TE.then ?_; refine TC.kp [0, 3, 8, 9, 10, 11] [b0] ?_; refine TC.regionS ?_; refine TS.s OpY.move rfl ?_
      obtain ⟨x_12, ex_12, H8⟩ := bnd H8
      refine TS.s (OpD.sub ex_12) rfl ?_; refine TS.s OpY.assign rfl ?_; refine TS.nil ?_; refine TE.kp [0, 3, 8, 9, 10, 11] [b0] ?_; exact TE.backP ⟨x_12, x_9⟩ () (Option.some.inj H8).symm (Env.cv (Env.cv (Env.cv (Env.cv (Env.cv (Env.cvBy (Sl_le (lenI_eq eu_11)) (Env.le_nil _))))))) (Less.pk rfl (Less.nil _))
    · replace H8 := cF H8 hc
      refine TC.exit ?_; refine TE.then_exit ?_; refine TE.then_exit ?_; refine TE.inBlock_here ?_; exact TE.cutP data_7 () (he8 _ (Option.some.inj H8).symm).symm (Env.cv (Env.cv (Env.cv (Env.cv (Env.cvBy (Sl_le rfl) (Env.le_nil _)))))) (Less.pk rfl (Less.nil _))
  rintro data_4 ⟨⟩ hp
  replace hp := hp.symm
  subst hp
  refine TE.then ?_; refine TC.kp [0, 3, 8, 9, 10] [b0] ?_; refine TC.seqS ?_; refine TS.s OpY.move rfl ?_
  obtain ⟨x_13, ex_13, H⟩ := bnd H
  refine TS.s (OpD.sub ex_13) rfl ?_; refine TS.s OpY.assign rfl ?_; refine TS.nil ?_; refine TE.then ?_; refine TC.kp [0, 3, 8, 9, 12] [b0] ?_
  obtain ⟨o_15, H15, H⟩ := bnd H
  refine TC.cutP (fun s : (List Prefix) => o_15 = s) (fun (data_14 : (List Prefix)) (_ : Unit) => Env.nil) (fun (data_14 : (List Prefix)) (_ : Unit) => [⟨b0, p0, (Row (data_14 : List Prefix) c0)⟩]) ?_ ?_
  · skip
    refine TC.block ?_; refine TC.loopP H15 (fun ⟨i_16, data_17⟩ (_ : Unit) => (Env.set (Env.set (Env.set (Env.set (Env.set Env.nil 0 (Sl b0 p0 0 data_17.length c0)) 3 (D (cmp0 : (F2 Try.prog Prefix Prefix Int)))) 8 (D (a0 : Int))) 9 (D ((0 : Int) : Int))) 12 (D (i_16 : Int)))) (fun ⟨i_16, data_17⟩ (_ : Unit) => [⟨b0, p0, (Row (data_17 : List Prefix) c0)⟩]) () (Env.cv (Env.cv (Env.cv (Env.cv (Env.cvBy (Sl_le rfl) (Env.le_nil _)))))) (Less.pk rfl (Less.nil _)) ?_
    rintro ⟨i_16, data_17⟩ ⟨⟩ x_18 H18 he18
    replace H18 : slices_heapSortCmpFunc_api_Prefix_l2 a0 cmp0 i_16 data_17 = some x_18 := H18
    unfold slices_heapSortCmpFunc_api_Prefix_l2 at H18
    refine TC.seq ?_; refine TC.seqS ?_; refine TS.s OpY.move rfl ?_; refine TS.s OpY.geq rfl ?_; refine TS.nil ?_; refine TE.then ?_; refine TC.kp [0, 3, 8, 9, 12, 33] [b0] ?_; refine TC.cond (fun hc => ?_) (fun hc => ?_)
    · replace H18 := cT H18 hc
      refine TC.skip ?_; refine TE.then ?_; refine TC.kp [0, 3, 8, 9, 12] [b0] ?_; refine TC.seq ?_; refine TC.block ?_; refine TC.seqD2 [0, 0, 0, 0, 0, 0, 0, 0, 0, 0, 0, 2, 0, 0, 0, 2, 0, 1, 0, 1] [b0] mix (by kernel_rfl) (by kernel_rfl) ?_; refine TR2.s OpY.move rfl ?_; refine TR2.s OpY.move rfl ?_; refine TR2.s OpY.move rfl ?_; refine TR2.s OpY.move rfl ?_; refine TR2.s OpY.move rfl ?_
      obtain ⟨x_19, ex_19, H18⟩ := bnd H18
      refine TR2.s (OpD.add ex_19) rfl ?_; refine TR2.s OpY.move rfl ?_; refine TR2.s OpY.move rfl ?_; refine TR2.s OpY.move rfl ?_
      obtain ⟨x_20, ex_20, H18⟩ := bnd H18
      refine TR2.s (OpD.add ex_20) rfl ?_
      obtain ⟨x_21, ex_21, H18⟩ := bnd H18
      refine TR2.s (OpD.indexq (idx_in ex_21 rfl)) rfl ?_; refine TR2.r (fun g => OpG.s (OpD.ldq (Pl.rowz ex_21))) rfl ?_; refine TR2.s OpY.move rfl ?_; refine TR2.s OpY.move rfl ?_
      obtain ⟨x_22, ex_22, H18⟩ := bnd H18
      refine TR2.s (OpD.indexq (idx_in ex_22 rfl)) rfl ?_; refine TR2.r (fun g => OpG.s (OpD.ldq (Pl.rowz ex_22))) rfl ?_
      obtain ⟨x_23, ex_23, H18⟩ := bnd H18
      refine TR2.s (OpD.indexq (idx_in ex_23 rfl)) rfl ?_; refine TR2.tn (fun Ωr g => (OpT.storeq (y := (x_21 : Prefix)) (Pl.rowz ex_23))) rfl ?_
      obtain ⟨x_24, ex_24, H18⟩ := bnd H18
      refine TR2.s (OpD.indexq (idx_in ex_24 (by simp))) rfl ?_; refine TR2.tn (fun Ωr g => (OpT.storeq (y := (x_22 : Prefix)) (Pl.rowz ex_24))) rfl ?_; refine TR2.nil ?_
      rintro ⟨⟨⟨⟨_, _⟩, _⟩, _⟩, _⟩
      dsimp only [Fam.nextS, Fam.nextN, Fam.one, List.cons_append, List.nil_append]
      refine TC.kp [0, 3, 8, 9, 12] [b0] ?_
      obtain ⟨l_25, el_25, H18⟩ := bnd H18
      refine TC.nmB b0 (nm_row el_25) ?_; refine TC.see 0 _ (nm_sl2 el_25 (by simp)) ?_; refine TC.regionS ?_; refine TS.s OpY.move rfl ?_; refine TS.s OpY.move rfl ?_; refine TS.s OpY.move rfl ?_; refine TS.s OpY.move rfl ?_; refine TS.s OpY.move rfl ?_
      obtain ⟨x_26, ex_26, H18⟩ := bnd H18
      refine TS.t (OpT.callO5 [b0] fun w v0 v1 v2 v3 v4 hA hO hap hks h0 h1 h2 h3 h4 => slices_siftDownCmpFunc_api_Prefix_o w v0 v1 v2 v3 v4 hA hO hap hks (slD rfl h0) (toD h1) (toD h2) (toD h3) (toD h4) ex_26) rfl fun _ => ?_; dsimp only [List.cons_append, List.nil_append]
      obtain ⟨u_28, eu_28, H18⟩ := bnd H18
      refine TS.nil ?_; refine TE.kp [0, 3, 8, 9, 12] [b0] ?_; refine TE.inBlock_normal ?_; refine TE.then ?_; refine TC.kp [0, 3, 8, 9, 12] [b0] ?_; refine TC.regionS ?_; refine TS.s OpY.move rfl ?_
      obtain ⟨x_29, ex_29, H18⟩ := bnd H18
      refine TS.s (OpD.sub ex_29) rfl ?_; refine TS.s OpY.assign rfl ?_; refine TS.nil ?_; refine TE.kp [0, 3, 8, 9, 12] [b0] ?_; exact TE.backP ⟨x_29, x_26⟩ () (Option.some.inj H18).symm (Env.cv (Env.cv (Env.cv (Env.cv (Env.cvBy (Sl_le (lenI_eq eu_28)) (Env.le_nil _)))))) (Less.pk rfl (Less.nil _))
    · replace H18 := cF H18 hc
      refine TC.exit ?_; refine TE.then_exit ?_; refine TE.then_exit ?_; refine TE.inBlock_here ?_; exact TE.cutP data_17 () (he18 _ (Option.some.inj H18).symm).symm (Env.le_nil _) (Less.pk rfl (Less.nil _))
  rintro data_14 ⟨⟩ hp
  replace hp := hp.symm
  subst hp
  obtain rfl := (Option.some.inj H)
  exact TE.endON rfl rfl () .nil (Less.pk rfl (Less.nil _))
def slices_nextPowerOfTwo (length0 : Int) : Option UInt64 :=
  (math_bits_Len (UInt64.ofInt length0)).bind fun x_1 => (cnt x_1).bind fun n_2 => some (shl64 (UInt64.ofNat 1) x_1)
theorem slices_nextPowerOfTwo_c {A : Nat → Prop} {length0 : Int}  {r : UInt64} (w : World) (v0 : Value) (hA : ∀ k, w.heap.size ≤ k → A k)  (h0 : (D (length0 : Int)).p A w v0) (H : slices_nextPowerOfTwo length0 = some r) :
    Calls Try.prog 63 #[v0] w (Ret A w (D (r : UInt64))) := by
  unfold slices_nextPowerOfTwo at H
  refine enter1 hA Try.func63 rfl Try.ntmps63 rfl h0 ?_; refine TC.seqS ?_; refine TS.s OpY.assign rfl ?_; refine TS.nil ?_; refine TE.then ?_; refine TC.kp [0] [] ?_; refine TC.seqS ?_; refine TS.s OpY.move rfl ?_; refine TS.s OpY.convi_64 rfl ?_
  obtain ⟨x_1, ex_1, H⟩ := bnd H
  refine TS.s (OpY.call1 fun w v0 hA h0 => math_bits_Len_c w v0 hA (toD h0) ex_1) rfl ?_
  obtain ⟨n_2, en_2, H⟩ := bnd H
  refine TS.s (OpD.shl64 (cnt_some en_2).1) rfl ?_; refine TS.s OpY.assign rfl ?_; refine TS.nil ?_; refine TE.then ?_; refine TC.kp [2] [] ?_; refine TC.ret ?_
  obtain rfl := (Option.some.inj H)
  exact TE.ret1 rfl Cv.le
def slices_xorshift_Next (r0 : UInt64) : Option (UInt64 × UInt64) :=
  (some ((r0 ^^^ (shl64 r0 ((UInt64.ofNat 13).toNat : Int))) : UInt64)).bind fun r_1 => (some ((r_1 ^^^ (shr64 r_1 ((UInt64.ofNat 7).toNat : Int))) : UInt64)).bind fun r_2 => (some ((r_2 ^^^ (shl64 r_2 ((UInt64.ofNat 17).toNat : Int))) : UInt64)).bind fun r_3 => some (r_3, r_3)
theorem slices_xorshift_Next_o {A : Nat → Prop} {r0 : UInt64} {b0 : Nat} {r : (UInt64 × UInt64)} (w : World) (v0 : Value) (hA : ∀ k, w.heap.size ≤ k → A k) (hO : OwnIn A [⟨b0, True, One (r0 : UInt64)⟩]) (hap : Apart [⟨b0, True, One (r0 : UInt64)⟩]) (hks : Pks (Pub A [⟨b0, True, One (r0 : UInt64)⟩]) [⟨b0, True, One (r0 : UInt64)⟩] w) (h0 : (Pt b0 0).p (Pub A [⟨b0, True, One (r0 : UInt64)⟩]) w v0) (H : slices_xorshift_Next r0 = some r) :
    Calls Try.prog 64 #[v0] w (RetO A w [⟨b0, True, One (r0 : UInt64)⟩] (fun g : Unit => D (r.1 : UInt64)) fun g => [⟨b0, True, One (r.2 : UInt64)⟩]) := by
  unfold slices_xorshift_Next at H
  refine enterO1 hA hap hks Try.func64 rfl Try.ntmps64 rfl h0 ?_; refine TC.seqS ?_; refine TS.s OpY.assign rfl ?_; refine TS.nil ?_; refine TE.then ?_; refine TC.kp [0] [b0] ?_; refine TC.seqPh 9 [] [9] [] mix (by kernel_rfl) (by kernel_rfl) rfl (by kernel_rfl) (by kernel_rfl) (by kernel_rfl) ?_; refine TR.s OpY.move rfl ?_; refine TR.s OpY.nilCheck rfl ?_; refine TR.s (OpD.ldq Pl.one) rfl ?_; refine TR.s OpY.move rfl ?_; refine TR.s OpY.nilCheck rfl ?_; refine TR.s (OpD.ldq Pl.one) rfl ?_; refine TR.s (OpD.shl64 (Int.natCast_nonneg _)) rfl ?_; refine TR.s OpY.xor64 rfl ?_; refine TR.s OpY.nilCheck rfl ?_; refine TR.nil ?_
  rintro _
  dsimp only [Fam.nextS, Fam.nextN, Fam.one, List.cons_append, List.nil_append]
  refine PH.next [b0] ?_; refine TR.tn (fun g => (OpT.storeq (y := ((r0 ^^^ (shl64 r0 ((UInt64.ofNat 13).toNat : Int))) : UInt64)) Pl.one)) rfl ?_; refine TR.nil ?_
  rintro ⟨_, _⟩
  dsimp only [Fam.nextS, Fam.nextN, Fam.one, List.cons_append, List.nil_append]
  refine TC.kp [0] [b0] ?_
  obtain ⟨r_1, er_1, H⟩ := bnd H
  refine TC.nmB b0 (nm_one er_1) ?_; refine TC.seqPh 9 [] [9] [] mix (by kernel_rfl) (by kernel_rfl) rfl (by kernel_rfl) (by kernel_rfl) (by kernel_rfl) ?_; refine TR.s OpY.move rfl ?_; refine TR.s OpY.nilCheck rfl ?_; refine TR.s (OpD.ldq Pl.one) rfl ?_; refine TR.s OpY.move rfl ?_; refine TR.s OpY.nilCheck rfl ?_; refine TR.s (OpD.ldq Pl.one) rfl ?_; refine TR.s (OpD.shr64 (Int.natCast_nonneg _)) rfl ?_; refine TR.s OpY.xor64 rfl ?_; refine TR.s OpY.nilCheck rfl ?_; refine TR.nil ?_
  rintro _
  dsimp only [Fam.nextS, Fam.nextN, Fam.one, List.cons_append, List.nil_append]
  refine PH.next [b0] ?_; refine TR.tn (fun g => (OpT.storeq (y := ((r_1 ^^^ (shr64 r_1 ((UInt64.ofNat 7).toNat : Int))) : UInt64)) Pl.one)) rfl ?_; refine TR.nil ?_
  rintro ⟨_, _⟩
  dsimp only [Fam.nextS, Fam.nextN, Fam.one, List.cons_append, List.nil_append]
  refine TC.kp [0] [b0] ?_
  obtain ⟨r_2, er_2, H⟩ := bnd H
  refine TC.nmB b0 (nm_one er_2) ?_; refine TC.seqPh 9 [] [9] [] mix (by kernel_rfl) (by kernel_rfl) rfl (by kernel_rfl) (by kernel_rfl) (by kernel_rfl) ?_; refine TR.s OpY.move rfl ?_; refine TR.s OpY.nilCheck rfl ?_; refine TR.s (OpD.ldq Pl.one) rfl ?_; refine TR.s OpY.move rfl ?_; refine TR.s OpY.nilCheck rfl ?_; refine TR.s (OpD.ldq Pl.one) rfl ?_; refine TR.s (OpD.shl64 (Int.natCast_nonneg _)) rfl ?_; refine TR.s OpY.xor64 rfl ?_; refine TR.s OpY.nilCheck rfl ?_; refine TR.nil ?_
  rintro _
  dsimp only [Fam.nextS, Fam.nextN, Fam.one, List.cons_append, List.nil_append]
  refine PH.next [b0] ?_; refine TR.tn (fun g => (OpT.storeq (y := ((r_2 ^^^ (shl64 r_2 ((UInt64.ofNat 17).toNat : Int))) : UInt64)) Pl.one)) rfl ?_; refine TR.nil ?_
  rintro ⟨_, _⟩
  dsimp only [Fam.nextS, Fam.nextN, Fam.one, List.cons_append, List.nil_append]
  refine TC.kp [0] [b0] ?_
  obtain ⟨r_3, er_3, H⟩ := bnd H
  refine TC.nmB b0 (nm_one er_3) ?_; refine TC.seqS ?_; refine TS.s OpY.move rfl ?_; refine TS.s OpY.nilCheck rfl ?_; refine TS.s (OpD.ldq Pl.one) rfl ?_; refine TS.s OpY.assign rfl ?_; refine TS.nil ?_; refine TE.then ?_; refine TC.kp [2] [b0] ?_; refine TC.ret ?_
  obtain rfl := (Option.some.inj H)
  exact TE.retO1 rfl () Cv.le (Less.pk rfl (Less.nil _))
def slices_breakPatternsCmpFunc_api_Prefix_l1 (a0 : Int) (x_1 : Int) (x_4 : UInt64) (idx_11 : Int) (data_12 : (List Prefix)) (random_13 : UInt64) : Option ((Int × (List Prefix) × UInt64) ⊕ (List Prefix)) :=
  (quoI x_1 (4 : Int)).bind fun x_15 => (mulI x_15 (2 : Int)).bind fun x_16 => (addI a0 x_16).bind fun x_17 => (addI x_17 (1 : Int)).bind fun x_18 => bif (decide (idx_11 ≤ x_18)) then ((slices_xorshift_Next random_13).bind fun x_19 => (ok64 ((x_19.1 &&& (x_4 - (UInt64.ofNat 1))).toNat : Int)).bind fun x_21 => (bif (decide (x_21 ≥ x_1)) then ((subI x_21 x_1).bind fun x_24 => some x_24) else (some x_21)).bind fun other_22 => (addI a0 other_22).bind fun x_25 => (addI a0 other_22).bind fun x_26 => (idx data_12 x_26).bind fun x_27 => (idx data_12 idx_11).bind fun x_28 => (idx data_12 idx_11).bind fun x_29 => (idx (data_12.set (Int.toNat idx_11) x_27) x_25).bind fun x_30 => (some (((data_12.set (Int.toNat idx_11) x_27).set (Int.toNat x_25) x_28) : (List Prefix))).bind fun l_31 => (addI idx_11 (1 : Int)).bind fun x_32 => some (.inl (x_32, l_31, x_19.2))) else (some (.inr data_12))
def slices_breakPatternsCmpFunc_api_Prefix (data0 : (List Prefix)) (a0 : Int) (b0x : Int) (cmp0 : (F2 Try.prog Prefix Prefix Int)) : Option (List Prefix) :=
  (subI b0x a0).bind fun x_1 => bif (decide (x_1 ≥ (8 : Int))) then ((some ((UInt64.ofInt x_1) : UInt64)).bind fun random_3 => (slices_nextPowerOfTwo x_1).bind fun x_4 => (quoI x_1 (4 : Int)).bind fun x_5 => (mulI x_5 (2 : Int)).bind fun x_6 => (addI a0 x_6).bind fun x_7 => (subI x_7 (1 : Int)).bind fun x_8 => (loopO (fun s => slices_breakPatternsCmpFunc_api_Prefix_l1 a0 x_1 x_4 s.1 s.2.1 s.2.2) (x_8, data0, random_3)).bind fun data_9 => some data_9) else (some data0)
theorem slices_breakPatternsCmpFunc_api_Prefix_o {A : Nat → Prop} {data0 : (List Prefix)} {a0 : Int} {b0x : Int} {cmp0 : (F2 Try.prog Prefix Prefix Int)} {b0 c0 : Nat} {p0 : Prop} {r : (List Prefix)} (w : World) (v0 v1 v2 v3 : Value) (hA : ∀ k, w.heap.size ≤ k → A k) (hO : OwnIn A [⟨b0, p0, Row (data0 : List Prefix) c0⟩]) (hap : Apart [⟨b0, p0, Row (data0 : List Prefix) c0⟩]) (hks : Pks (Pub A [⟨b0, p0, Row (data0 : List Prefix) c0⟩]) [⟨b0, p0, Row (data0 : List Prefix) c0⟩] w) (h0 : (Sl b0 p0 0 data0.length c0).p (Pub A [⟨b0, p0, Row (data0 : List Prefix) c0⟩]) w v0) (h1 : (D (a0 : Int)).p (Pub A [⟨b0, p0, Row (data0 : List Prefix) c0⟩]) w v1) (h2 : (D (b0x : Int)).p (Pub A [⟨b0, p0, Row (data0 : List Prefix) c0⟩]) w v2) (h3 : (D (cmp0 : (F2 Try.prog Prefix Prefix Int))).p (Pub A [⟨b0, p0, Row (data0 : List Prefix) c0⟩]) w v3) (H : slices_breakPatternsCmpFunc_api_Prefix data0 a0 b0x cmp0 = some r) :
    Calls Try.prog 53 #[v0, v1, v2, v3] w (RetO A w [⟨b0, p0, Row (data0 : List Prefix) c0⟩] (fun g : Unit => Tup []) fun g => [⟨b0, p0, Row (r : List Prefix) c0⟩]) := by
  unfold slices_breakPatternsCmpFunc_api_Prefix at H
  refine enterO4 hA hap hks Try.func53 rfl Try.ntmps53 rfl h0 h1 h2 h3 ?_; refine TC.seqS ?_; refine TS.s OpY.move rfl ?_; refine TS.s OpY.move rfl ?_
  obtain ⟨x_1, ex_1, H⟩ := bnd H
  refine TS.s (OpD.sub ex_1) rfl ?_; refine TS.s OpY.assign rfl ?_; refine TS.nil ?_; refine TE.then ?_; refine TC.kp [0, 1, 8] [b0] ?_; refine TC.seqS ?_; refine TS.s OpY.move rfl ?_; refine TS.s OpY.geq rfl ?_; refine TS.nil ?_; refine TE.then ?_; refine TC.kp [0, 1, 8, 17] [b0] ?_; refine TC.cond (fun hc => ?_) (fun hc => ?_)
  · replace H := cT H hc
    refine TC.seqS ?_; refine TS.s OpY.move rfl ?_; refine TS.s OpY.convi_64 rfl ?_; refine TS.alloc (α := UInt64) rfl fun b9_1 => ?_; refine TS.un (OpT.storeq (y := ((UInt64.ofInt x_1) : UInt64)) Pl.one) ?_; refine TS.nil ?_; refine TE.then ?_; refine TC.kp [0, 1, 8, 9] [b0, b9_1] ?_
    obtain ⟨random_3, erandom_3, H⟩ := bnd H
    refine TC.nmB b9_1 (nm_one erandom_3) ?_; refine TC.seqS ?_; refine TS.s OpY.move rfl ?_
    obtain ⟨x_4, ex_4, H⟩ := bnd H
    refine TS.s (OpY.call1 fun w v0 hA h0 => slices_nextPowerOfTwo_c w v0 hA (toD h0) ex_4) rfl ?_; refine TS.s OpY.assign rfl ?_; refine TS.nil ?_; refine TE.then ?_; refine TC.kp [0, 1, 8, 9, 10] [b0, b9_1] ?_; refine TC.seqS ?_; refine TS.s OpY.move rfl ?_; refine TS.s OpY.move rfl ?_
    obtain ⟨x_5, ex_5, H⟩ := bnd H
    refine TS.s (OpD.quo ex_5) rfl ?_
    obtain ⟨x_6, ex_6, H⟩ := bnd H
    refine TS.s (OpD.mul ex_6) rfl ?_
    obtain ⟨x_7, ex_7, H⟩ := bnd H
    refine TS.s (OpD.add ex_7) rfl ?_
    obtain ⟨x_8, ex_8, H⟩ := bnd H
    refine TS.s (OpD.sub ex_8) rfl ?_; refine TS.s OpY.assign rfl ?_; refine TS.nil ?_; refine TE.then ?_; refine TC.kp [0, 1, 8, 9, 10, 11] [b0, b9_1] ?_
    obtain ⟨o_10, H10, H⟩ := bnd H
    refine TC.cutP (fun s : (List Prefix) => o_10 = s) (fun (data_9 : (List Prefix)) (_ : Unit) => Env.nil) (fun (data_9 : (List Prefix)) (_ : Unit) => [⟨b0, p0, (Row (data_9 : List Prefix) c0)⟩]) ?_ ?_
    · skip
      refine TC.block ?_; refine TC.loopP H10 (fun ⟨idx_11, data_12, random_13⟩ (_ : Unit) => (Env.set (Env.set (Env.set (Env.set (Env.set (Env.set Env.nil 0 (Sl b0 p0 0 data_12.length c0)) 1 (D (a0 : Int))) 8 (D (x_1 : Int))) 9 (Pt b9_1 0)) 10 (D (x_4 : UInt64))) 11 (D (idx_11 : Int)))) (fun ⟨idx_11, data_12, random_13⟩ (_ : Unit) => [⟨b0, p0, (Row (data_12 : List Prefix) c0)⟩, ⟨b9_1, True, (One (random_13 : UInt64))⟩]) () (Env.cv (Env.cv (Env.cv (Env.cv (Env.cv (Env.cvBy (Sl_le rfl) (Env.le_nil _))))))) (Less.pk rfl (Less.pk rfl (Less.nil _))) ?_
      rintro ⟨idx_11, data_12, random_13⟩ ⟨⟩ x_14 H14 he14
      replace H14 : slices_breakPatternsCmpFunc_api_Prefix_l1 a0 x_1 x_4 idx_11 data_12 random_13 = some x_14 := H14
      unfold slices_breakPatternsCmpFunc_api_Prefix_l1 at H14
      refine TC.seq ?_; refine TC.seqS ?_; refine TS.s OpY.move rfl ?_; refine TS.s OpY.move rfl ?_; refine TS.s OpY.move rfl ?_
      obtain ⟨x_15, ex_15, H14⟩ := bnd H14
      refine TS.s (OpD.quo ex_15) rfl ?_
      obtain ⟨x_16, ex_16, H14⟩ := bnd H14
      refine TS.s (OpD.mul ex_16) rfl ?_
      obtain ⟨x_17, ex_17, H14⟩ := bnd H14
      refine TS.s (OpD.add ex_17) rfl ?_
      obtain ⟨x_18, ex_18, H14⟩ := bnd H14
      refine TS.s (OpD.add ex_18) rfl ?_; refine TS.s OpY.leq rfl ?_; refine TS.nil ?_; refine TE.then ?_; refine TC.kp [0, 1, 8, 9, 10, 11, 35] [b0, b9_1] ?_; refine TC.cond (fun hc => ?_) (fun hc => ?_)
      · replace H14 := cT H14 hc
        refine TC.skip ?_; refine TE.then ?_; refine TC.kp [0, 1, 8, 9, 10, 11] [b0, b9_1] ?_; refine TC.seq ?_; refine TC.block ?_; refine TC.seqS ?_
        obtain ⟨x_19, ex_19, H14⟩ := bnd H14
        refine TS.t (OpT.callO1 [b9_1] fun w v0 hA hO hap hks h0 => slices_xorshift_Next_o w v0 hA hO hap hks (id h0) ex_19) rfl fun _ => ?_; dsimp only [List.cons_append, List.nil_append]
        refine TS.s OpY.move rfl ?_; refine TS.s OpY.sub64 rfl ?_; refine TS.s OpY.and64 rfl ?_
        obtain ⟨x_21, ex_21, H14⟩ := bnd H14
        refine TS.s (OpD.conv64_i ex_21) rfl ?_; refine TS.s OpY.assign rfl ?_; refine TS.nil ?_; refine TE.then ?_; refine TC.kp [0, 1, 8, 9, 10, 11, 12] [b0, b9_1] ?_; refine TC.seq ?_
        obtain ⟨o_23, H23, H14⟩ := bnd H14
        refine TC.cutP (fun s : Int => o_23 = s) (fun (other_22 : Int) (_ : Unit) => (Env.set (Env.set (Env.set (Env.set (Env.set (Env.set (Env.set Env.nil 0 (Sl b0 p0 0 data_12.length c0)) 1 (D (a0 : Int))) 8 (D (x_1 : Int))) 9 (Pt b9_1 0)) 10 (D (x_4 : UInt64))) 11 (D (idx_11 : Int))) 12 (D (other_22 : Int)))) (fun (other_22 : Int) (_ : Unit) => [⟨b0, p0, (Row (data_12 : List Prefix) c0)⟩, ⟨b9_1, True, (One (x_19.2 : UInt64))⟩]) ?_ ?_
        · skip
          refine TC.seqS ?_; refine TS.s OpY.move rfl ?_; refine TS.s OpY.move rfl ?_; refine TS.s OpY.geq rfl ?_; refine TS.nil ?_; refine TE.then ?_; refine TC.kp [0, 1, 8, 9, 10, 11, 12, 45] [b0, b9_1] ?_; refine TC.cond (fun hc => ?_) (fun hc => ?_)
          · replace H23 := cT H23 hc
            refine TC.regionS ?_; refine TS.s OpY.move rfl ?_; refine TS.s OpY.move rfl ?_
            obtain ⟨x_24, ex_24, H23⟩ := bnd H23
            refine TS.s (OpD.sub ex_24) rfl ?_; refine TS.s OpY.assign rfl ?_; refine TS.nil ?_; refine TE.kp [0, 1, 8, 9, 10, 11, 12] [b0, b9_1] ?_; exact TE.cutP x_24 () (Option.some.inj H23).symm (Env.cv (Env.cv (Env.cv (Env.cv (Env.cv (Env.cv (Env.cvBy (Sl_le rfl) (Env.le_nil _)))))))) (Less.pk rfl (Less.pk rfl (Less.nil _)))
          · replace H23 := cF H23 hc
            refine TC.skip ?_; exact TE.cutP x_21 () (Option.some.inj H23).symm (Env.cv (Env.cv (Env.cv (Env.cv (Env.cv (Env.cv (Env.cvBy (Sl_le rfl) (Env.le_nil _)))))))) (Less.pk rfl (Less.pk rfl (Less.nil _)))
        rintro other_22 ⟨⟩ hp
        replace hp := hp.symm
        subst hp
        refine TE.then ?_; refine TC.kp [0, 1, 8, 9, 10, 11, 12] [b0, b9_1] ?_; refine TC.regD2 [0, 0, 0, 0, 0, 0, 0, 0, 0, 0, 0, 2, 0, 0, 0, 2, 0, 1, 0, 1] [b0] mix (by kernel_rfl) (by kernel_rfl) ?_; refine TR2.s OpY.move rfl ?_; refine TR2.s OpY.move rfl ?_; refine TR2.s OpY.move rfl ?_; refine TR2.s OpY.move rfl ?_; refine TR2.s OpY.move rfl ?_
        obtain ⟨x_25, ex_25, H14⟩ := bnd H14
        refine TR2.s (OpD.add ex_25) rfl ?_; refine TR2.s OpY.move rfl ?_; refine TR2.s OpY.move rfl ?_; refine TR2.s OpY.move rfl ?_
        obtain ⟨x_26, ex_26, H14⟩ := bnd H14
        refine TR2.s (OpD.add ex_26) rfl ?_
        obtain ⟨x_27, ex_27, H14⟩ := bnd H14
        refine TR2.s (OpD.indexq (idx_in ex_27 rfl)) rfl ?_; refine TR2.r (fun g => OpG.s (OpD.ldq (Pl.rowz ex_27))) rfl ?_; refine TR2.s OpY.move rfl ?_; refine TR2.s OpY.move rfl ?_
        obtain ⟨x_28, ex_28, H14⟩ := bnd H14
        refine TR2.s (OpD.indexq (idx_in ex_28 rfl)) rfl ?_; refine TR2.r (fun g => OpG.s (OpD.ldq (Pl.rowz ex_28))) rfl ?_
        obtain ⟨x_29, ex_29, H14⟩ := bnd H14
        refine TR2.s (OpD.indexq (idx_in ex_29 rfl)) rfl ?_; refine TR2.tn (fun Ωr g => (OpT.storeq (y := (x_27 : Prefix)) (Pl.rowz ex_29))) rfl ?_
        obtain ⟨x_30, ex_30, H14⟩ := bnd H14
        refine TR2.s (OpD.indexq (idx_in ex_30 (by simp))) rfl ?_; refine TR2.tn (fun Ωr g => (OpT.storeq (y := (x_28 : Prefix)) (Pl.rowz ex_30))) rfl ?_; refine TR2.nil ?_
        rintro ⟨⟨⟨⟨_, _⟩, _⟩, _⟩, _⟩
        dsimp only [Fam.nextS, Fam.nextN, Fam.one, List.cons_append, List.nil_append]
        refine TE.kp [0, 1, 8, 9, 10, 11] [b0, b9_1] ?_
        obtain ⟨l_31, el_31, H14⟩ := bnd H14
        refine TE.nmB b0 (nm_row el_31) ?_; refine TE.see 0 _ (nm_sl2 el_31 (by simp)) ?_; refine TE.inBlock_normal ?_; refine TE.then ?_; refine TC.kp [0, 1, 8, 9, 10, 11] [b0, b9_1] ?_; refine TC.regionS ?_; refine TS.s OpY.move rfl ?_
        obtain ⟨x_32, ex_32, H14⟩ := bnd H14
        refine TS.s (OpD.add ex_32) rfl ?_; refine TS.s OpY.assign rfl ?_; refine TS.nil ?_; refine TE.kp [0, 1, 8, 9, 10, 11] [b0, b9_1] ?_; exact TE.backP ⟨x_32, l_31, x_19.2⟩ () (Option.some.inj H14).symm (Env.cv (Env.cv (Env.cv (Env.cv (Env.cv (Env.cvBy (Sl_le rfl) (Env.le_nil _))))))) (Less.pk rfl (Less.pk rfl (Less.nil _)))
      · replace H14 := cF H14 hc
        refine TC.exit ?_; refine TE.then_exit ?_; refine TE.then_exit ?_; refine TE.inBlock_here ?_; exact TE.cutP data_12 () (he14 _ (Option.some.inj H14).symm).symm (Env.le_nil _) (Less.pk rfl (Less.nil _))
    rintro data_9 ⟨⟩ hp
    replace hp := hp.symm
    subst hp
    obtain rfl := (Option.some.inj H)
    exact TE.endON rfl rfl () .nil (Less.pk rfl (Less.nil _))
  · replace H := cF H hc
    refine TC.skip ?_
    obtain rfl := (Option.some.inj H)
    exact TE.endON rfl rfl () .nil (Less.pk rfl (Less.nil _))
def slices_order2CmpFunc_api_Prefix (data0 : (List Prefix)) (a0 : Int) (b0x : Int) (swaps0 : Int) (cmp0 : (F2 Try.prog Prefix Prefix Int)) : Option (Int × Int × Int) :=
  (idx data0 b0x).bind fun x_1 => (idx data0 a0).bind fun x_2 => ((cmp0).f x_1 x_2).bind fun x_3 => bif (decide (x_3 < (0 : Int))) then ((addI swaps0 (1 : Int)).bind fun x_4 => some (b0x, a0, x_4)) else (some (a0, b0x, swaps0))
theorem slices_order2CmpFunc_api_Prefix_o {A : Nat → Prop} {data0 : (List Prefix)} {a0 : Int} {b0x : Int} {swaps0 : Int} {cmp0 : (F2 Try.prog Prefix Prefix Int)} {b3 : Nat} {r : (Int × Int × Int)} (w : World) (v0 v1 v2 v3 v4 : Value) (hA : ∀ k, w.heap.size ≤ k → A k) (hO : OwnIn A [⟨b3, True, One (swaps0 : Int)⟩]) (hap : Apart [⟨b3, True, One (swaps0 : Int)⟩]) (hks : Pks (Pub A [⟨b3, True, One (swaps0 : Int)⟩]) [⟨b3, True, One (swaps0 : Int)⟩] w) (h0 : (D (data0 : (List Prefix))).p (Pub A [⟨b3, True, One (swaps0 : Int)⟩]) w v0) (h1 : (D (a0 : Int)).p (Pub A [⟨b3, True, One (swaps0 : Int)⟩]) w v1) (h2 : (D (b0x : Int)).p (Pub A [⟨b3, True, One (swaps0 : Int)⟩]) w v2) (h3 : (Pt b3 0).p (Pub A [⟨b3, True, One (swaps0 : Int)⟩]) w v3) (h4 : (D (cmp0 : (F2 Try.prog Prefix Prefix Int))).p (Pub A [⟨b3, True, One (swaps0 : Int)⟩]) w v4) (H : slices_order2CmpFunc_api_Prefix data0 a0 b0x swaps0 cmp0 = some r) :
    Calls Try.prog 67 #[v0, v1, v2, v3, v4] w (RetO A w [⟨b3, True, One (swaps0 : Int)⟩] (fun g : Unit => Tup [D (r.1 : Int), D (r.2.1 : Int)]) fun g => [⟨b3, True, One (r.2.2 : Int)⟩]) := by
  unfold slices_order2CmpFunc_api_Prefix at H
  refine enterO5 hA hap hks Try.func67 rfl Try.ntmps67 rfl h0 h1 h2 h3 h4 ?_; refine TC.seqS ?_; refine TS.s OpY.assign rfl ?_; refine TS.s OpY.assign rfl ?_; refine TS.nil ?_; refine TE.then ?_; refine TC.kp [0, 1, 2, 3, 4] [b3] ?_; refine TC.seq ?_; refine TC.seqD0 mix (by kernel_rfl) ?_; refine TR.s OpY.move rfl ?_; refine TR.s OpY.move rfl ?_; refine TR.s OpY.move rfl ?_
  obtain ⟨x_1, ex_1, H⟩ := bnd H
  refine TR.s (OpD.index ex_1) rfl ?_; refine TR.s OpY.load rfl ?_; refine TR.s OpY.move rfl ?_; refine TR.s OpY.move rfl ?_
  obtain ⟨x_2, ex_2, H⟩ := bnd H
  refine TR.s (OpD.index ex_2) rfl ?_; refine TR.s OpY.load rfl ?_
  obtain ⟨x_3, ex_3, H⟩ := bnd H
  refine TR.s (OpY.callV2 ex_3) rfl ?_; refine TR.s OpY.lss rfl ?_; refine TR.nil ?_; refine TC.kp [1, 2, 3, 22] [b3] ?_; refine TC.cond (fun hc => ?_) (fun hc => ?_)
  · replace H := cT H hc
    refine TC.seqS ?_; refine TS.s OpY.move rfl ?_; refine TS.s OpY.nilCheck rfl ?_; refine TS.s (OpD.ldq Pl.one) rfl ?_
    obtain ⟨x_4, ex_4, H⟩ := bnd H
    refine TS.s (OpD.add ex_4) rfl ?_; refine TS.s OpY.nilCheck rfl ?_; refine TS.un (OpT.storeq (y := (x_4 : Int)) Pl.one) ?_; refine TS.nil ?_; refine TE.then ?_; refine TC.kp [1, 2] [b3] ?_; refine TC.seqS ?_; refine TS.s OpY.move rfl ?_; refine TS.s OpY.move rfl ?_; refine TS.s OpY.assign rfl ?_; refine TS.s OpY.assign rfl ?_; refine TS.nil ?_; refine TE.then ?_; refine TC.kp [10, 11] [b3] ?_; refine TC.ret ?_; refine TE.then_ret ?_
    obtain rfl := (Option.some.inj H)
    exact TE.retON rfl rfl () (.cons Cv.le (.cons Cv.le .nil)) (Less.pk rfl (Less.nil _))
  · replace H := cF H hc
    refine TC.skip ?_; refine TE.then ?_; refine TC.kp [1, 2] [b3] ?_; refine TC.seqS ?_; refine TS.s OpY.move rfl ?_; refine TS.s OpY.move rfl ?_; refine TS.s OpY.assign rfl ?_; refine TS.s OpY.assign rfl ?_; refine TS.nil ?_; refine TE.then ?_; refine TC.kp [10, 11] [b3] ?_; refine TC.ret ?_
    obtain rfl := (Option.some.inj H)
    exact TE.retON rfl rfl () (.cons Cv.le (.cons Cv.le .nil)) (Less.pk rfl (Less.nil _))
def slices_medianCmpFunc_api_Prefix (data0 : (List Prefix)) (a0 : Int) (b0x : Int) (c0x : Int) (swaps0 : Int) (cmp0 : (F2 Try.prog Prefix Prefix Int)) : Option (Int × Int) :=
  (slices_order2CmpFunc_api_Prefix data0 a0 b0x swaps0 cmp0).bind fun x_1 => (slices_order2CmpFunc_api_Prefix data0 x_1.2.1 c0x x_1.2.2 cmp0).bind fun x_3 => (slices_order2CmpFunc_api_Prefix data0 x_1.1 x_3.1 x_3.2.2 cmp0).bind fun x_5 => some (x_5.2.1, x_5.2.2)
theorem slices_medianCmpFunc_api_Prefix_o {A : Nat → Prop} {data0 : (List Prefix)} {a0 : Int} {b0x : Int} {c0x : Int} {swaps0 : Int} {cmp0 : (F2 Try.prog Prefix Prefix Int)} {b4 : Nat} {r : (Int × Int)} (w : World) (v0 v1 v2 v3 v4 v5 : Value) (hA : ∀ k, w.heap.size ≤ k → A k) (hO : OwnIn A [⟨b4, True, One (swaps0 : Int)⟩]) (hap : Apart [⟨b4, True, One (swaps0 : Int)⟩]) (hks : Pks (Pub A [⟨b4, True, One (swaps0 : Int)⟩]) [⟨b4, True, One (swaps0 : Int)⟩] w) (h0 : (D (data0 : (List Prefix))).p (Pub A [⟨b4, True, One (swaps0 : Int)⟩]) w v0) (h1 : (D (a0 : Int)).p (Pub A [⟨b4, True, One (swaps0 : Int)⟩]) w v1) (h2 : (D (b0x : Int)).p (Pub A [⟨b4, True, One (swaps0 : Int)⟩]) w v2) (h3 : (D (c0x : Int)).p (Pub A [⟨b4, True, One (swaps0 : Int)⟩]) w v3) (h4 : (Pt b4 0).p (Pub A [⟨b4, True, One (swaps0 : Int)⟩]) w v4) (h5 : (D (cmp0 : (F2 Try.prog Prefix Prefix Int))).p (Pub A [⟨b4, True, One (swaps0 : Int)⟩]) w v5) (H : slices_medianCmpFunc_api_Prefix data0 a0 b0x c0x swaps0 cmp0 = some r) :
    Calls Try.prog 66 #[v0, v1, v2, v3, v4, v5] w (RetO A w [⟨b4, True, One (swaps0 : Int)⟩] (fun g : Unit => D (r.1 : Int)) fun g => [⟨b4, True, One (r.2 : Int)⟩]) := by
  unfold slices_medianCmpFunc_api_Prefix at H
  refine enterO6 hA hap hks Try.func66 rfl Try.ntmps66 rfl h0 h1 h2 h3 h4 h5 ?_; refine TC.seqS ?_; refine TS.s OpY.assign rfl ?_; refine TS.nil ?_; refine TE.then ?_; refine TC.kp [0, 1, 2, 3, 4, 5] [b4] ?_; refine TC.seqS ?_; refine TS.s OpY.move rfl ?_; refine TS.s OpY.move rfl ?_; refine TS.s OpY.move rfl ?_; refine TS.s OpY.move rfl ?_; refine TS.s OpY.move rfl ?_
  obtain ⟨x_1, ex_1, H⟩ := bnd H
  refine TS.t (OpT.callO5 [b4] fun w v0 v1 v2 v3 v4 hA hO hap hks h0 h1 h2 h3 h4 => slices_order2CmpFunc_api_Prefix_o w v0 v1 v2 v3 v4 hA hO hap hks (toD h0) (toD h1) (toD h2) (id h3) (toD h4) ex_1) rfl fun _ => ?_; dsimp only [List.cons_append, List.nil_append]
  refine TS.s OpY.move rfl ?_; refine TS.s (OpY.extract rfl) rfl ?_; refine TS.s (OpY.extract rfl) rfl ?_; refine TS.s OpY.assign rfl ?_; refine TS.s OpY.assign rfl ?_; refine TS.nil ?_; refine TE.then ?_; refine TC.kp [0, 1, 2, 3, 4, 5] [b4] ?_; refine TC.seqS ?_; refine TS.s OpY.move rfl ?_; refine TS.s OpY.move rfl ?_; refine TS.s OpY.move rfl ?_; refine TS.s OpY.move rfl ?_; refine TS.s OpY.move rfl ?_
  obtain ⟨x_3, ex_3, H⟩ := bnd H
  refine TS.t (OpT.callO5 [b4] fun w v0 v1 v2 v3 v4 hA hO hap hks h0 h1 h2 h3 h4 => slices_order2CmpFunc_api_Prefix_o w v0 v1 v2 v3 v4 hA hO hap hks (toD h0) (toD h1) (toD h2) (id h3) (toD h4) ex_3) rfl fun _ => ?_; dsimp only [List.cons_append, List.nil_append]
  refine TS.s OpY.move rfl ?_; refine TS.s (OpY.extract rfl) rfl ?_; refine TS.s (OpY.extract rfl) rfl ?_; refine TS.s OpY.assign rfl ?_; refine TS.s OpY.assign rfl ?_; refine TS.nil ?_; refine TE.then ?_; refine TC.kp [0, 1, 2, 4, 5] [b4] ?_; refine TC.seqS ?_; refine TS.s OpY.move rfl ?_; refine TS.s OpY.move rfl ?_; refine TS.s OpY.move rfl ?_; refine TS.s OpY.move rfl ?_; refine TS.s OpY.move rfl ?_
  obtain ⟨x_5, ex_5, H⟩ := bnd H
  refine TS.t (OpT.callO5 [b4] fun w v0 v1 v2 v3 v4 hA hO hap hks h0 h1 h2 h3 h4 => slices_order2CmpFunc_api_Prefix_o w v0 v1 v2 v3 v4 hA hO hap hks (toD h0) (toD h1) (toD h2) (id h3) (toD h4) ex_5) rfl fun _ => ?_; dsimp only [List.cons_append, List.nil_append]
  refine TS.s OpY.move rfl ?_; refine TS.s (OpY.extract rfl) rfl ?_; refine TS.s (OpY.extract rfl) rfl ?_; refine TS.s OpY.assign rfl ?_; refine TS.s OpY.assign rfl ?_; refine TS.nil ?_; refine TE.then ?_; refine TC.kp [2] [b4] ?_; refine TC.seqS ?_; refine TS.s OpY.move rfl ?_; refine TS.s OpY.assign rfl ?_; refine TS.nil ?_; refine TE.then ?_; refine TC.kp [12] [b4] ?_; refine TC.ret ?_
  obtain rfl := (Option.some.inj H)
  exact TE.retO1 rfl () Cv.le (Less.pk rfl (Less.nil _))
def slices_medianAdjacentCmpFunc_api_Prefix (data0 : (List Prefix)) (a0 : Int) (swaps0 : Int) (cmp0 : (F2 Try.prog Prefix Prefix Int)) : Option (Int × Int) :=
  (subI a0 (1 : Int)).bind fun x_1 => (addI a0 (1 : Int)).bind fun x_2 => (slices_medianCmpFunc_api_Prefix data0 x_1 a0 x_2 swaps0 cmp0).bind fun x_3 => some (x_3.1, x_3.2)
theorem slices_medianAdjacentCmpFunc_api_Prefix_o {A : Nat → Prop} {data0 : (List Prefix)} {a0 : Int} {swaps0 : Int} {cmp0 : (F2 Try.prog Prefix Prefix Int)} {b2 : Nat} {r : (Int × Int)} (w : World) (v0 v1 v2 v3 : Value) (hA : ∀ k, w.heap.size ≤ k → A k) (hO : OwnIn A [⟨b2, True, One (swaps0 : Int)⟩]) (hap : Apart [⟨b2, True, One (swaps0 : Int)⟩]) (hks : Pks (Pub A [⟨b2, True, One (swaps0 : Int)⟩]) [⟨b2, True, One (swaps0 : Int)⟩] w) (h0 : (D (data0 : (List Prefix))).p (Pub A [⟨b2, True, One (swaps0 : Int)⟩]) w v0) (h1 : (D (a0 : Int)).p (Pub A [⟨b2, True, One (swaps0 : Int)⟩]) w v1) (h2 : (Pt b2 0).p (Pub A [⟨b2, True, One (swaps0 : Int)⟩]) w v2) (h3 : (D (cmp0 : (F2 Try.prog Prefix Prefix Int))).p (Pub A [⟨b2, True, One (swaps0 : Int)⟩]) w v3) (H : slices_medianAdjacentCmpFunc_api_Prefix data0 a0 swaps0 cmp0 = some r) :
    Calls Try.prog 65 #[v0, v1, v2, v3] w (RetO A w [⟨b2, True, One (swaps0 : Int)⟩] (fun g : Unit => D (r.1 : Int)) fun g => [⟨b2, True, One (r.2 : Int)⟩]) := by
  unfold slices_medianAdjacentCmpFunc_api_Prefix at H
  refine enterO4 hA hap hks Try.func65 rfl Try.ntmps65 rfl h0 h1 h2 h3 ?_; refine TC.seqS ?_; refine TS.s OpY.assign rfl ?_; refine TS.nil ?_; refine TE.then ?_; refine TC.kp [0, 1, 2, 3] [b2] ?_; refine TC.seqS ?_; refine TS.s OpY.move rfl ?_; refine TS.s OpY.move rfl ?_
  obtain ⟨x_1, ex_1, H⟩ := bnd H
  refine TS.s (OpD.sub ex_1) rfl ?_; refine TS.s OpY.move rfl ?_; refine TS.s OpY.move rfl ?_
  obtain ⟨x_2, ex_2, H⟩ := bnd H
  refine TS.s (OpD.add ex_2) rfl ?_; refine TS.s OpY.move rfl ?_; refine TS.s OpY.move rfl ?_
  obtain ⟨x_3, ex_3, H⟩ := bnd H
  refine TS.t (OpT.callO6 [b2] fun w v0 v1 v2 v3 v4 v5 hA hO hap hks h0 h1 h2 h3 h4 h5 => slices_medianCmpFunc_api_Prefix_o w v0 v1 v2 v3 v4 v5 hA hO hap hks (toD h0) (toD h1) (toD h2) (toD h3) (id h4) (toD h5) ex_3) rfl fun _ => ?_; dsimp only [List.cons_append, List.nil_append]
  refine TS.s OpY.assign rfl ?_; refine TS.nil ?_; refine TE.then ?_; refine TC.kp [8] [b2] ?_; refine TC.ret ?_
  obtain rfl := (Option.some.inj H)
  exact TE.retO1 rfl () Cv.le (Less.pk rfl (Less.nil _))
def slices_choosePivotCmpFunc_api_Prefix (data0 : (List Prefix)) (a0 : Int) (b0 : Int) (cmp0 : (F2 Try.prog Prefix Prefix Int)) : Option (Int × Int) :=
  (subI b0 a0).bind fun x_1 => (quoI x_1 (4 : Int)).bind fun x_3 => (mulI x_3 (1 : Int)).bind fun x_4 => (addI a0 x_4).bind fun x_5 => (quoI x_1 (4 : Int)).bind fun x_6 => (mulI x_6 (2 : Int)).bind fun x_7 => (addI a0 x_7).bind fun x_8 => (quoI x_1 (4 : Int)).bind fun x_9 => (mulI x_9 (3 : Int)).bind fun x_10 => (addI a0 x_10).bind fun x_11 => (bif (decide (x_1 ≥ (8 : Int))) then ((bif (decide (x_1 ≥ (50 : Int))) then ((slices_medianAdjacentCmpFunc_api_Prefix data0 x_5 Dat.z cmp0).bind fun x_20 => (slices_medianAdjacentCmpFunc_api_Prefix data0 x_8 x_20.2 cmp0).bind fun x_22 => (slices_medianAdjacentCmpFunc_api_Prefix data0 x_11 x_22.2 cmp0).bind fun x_24 => some (x_20.1, x_22.1, x_24.1, x_24.2)) else (some (x_5, x_8, x_11, Dat.z))).bind fun o_19 => el4 o_19 (fun i_15 j_16 k_17 swaps_18 => (slices_medianCmpFunc_api_Prefix data0 i_15 j_16 k_17 swaps_18 cmp0).bind fun x_26 => some (x_26.1, x_26.2))) else (some (x_8, Dat.z))).bind fun o_14 => el2 o_14 (fun j_12 swaps_13 => bif (decide (swaps_13 = (0 : Int))) then (some (j_12, (1 : Int))) else (bif (decide (swaps_13 = (12 : Int))) then (some (j_12, (2 : Int))) else (some (j_12, (0 : Int)))))
theorem slices_choosePivotCmpFunc_api_Prefix_c {A : Nat → Prop} {data0 : (List Prefix)} {a0 : Int} {b0 : Int} {cmp0 : (F2 Try.prog Prefix Prefix Int)}  {r : (Int × Int)} (w : World) (v0 v1 v2 v3 : Value) (hA : ∀ k, w.heap.size ≤ k → A k)  (h0 : (D (data0 : (List Prefix))).p A w v0) (h1 : (D (a0 : Int)).p A w v1) (h2 : (D (b0 : Int)).p A w v2) (h3 : (D (cmp0 : (F2 Try.prog Prefix Prefix Int))).p A w v3) (H : slices_choosePivotCmpFunc_api_Prefix data0 a0 b0 cmp0 = some r) :
    Calls Try.prog 54 #[v0, v1, v2, v3] w (Ret A w (Tup [D (r.1 : Int), D (r.2 : Int)])) := by
  unfold slices_choosePivotCmpFunc_api_Prefix at H
  refine enter4 hA Try.func54 rfl Try.ntmps54 rfl h0 h1 h2 h3 ?_; refine TC.seqS ?_; refine TS.s OpY.assign rfl ?_; refine TS.s OpY.assign rfl ?_; refine TS.nil ?_; refine TE.then ?_; refine TC.kp [0, 1, 2, 3] [] ?_; refine TC.seqS ?_; refine TS.s OpY.move rfl ?_; refine TS.s OpY.move rfl ?_
  obtain ⟨x_1, ex_1, H⟩ := bnd H
  refine TS.s (OpD.sub ex_1) rfl ?_; refine TS.s OpY.assign rfl ?_; refine TS.nil ?_; refine TE.then ?_; refine TC.kp [0, 1, 3, 10] [] ?_; refine TC.seqS ?_; refine TS.alloc (α := Int) rfl fun b11_1 => ?_; refine TS.nil ?_; refine TE.then ?_; refine TC.kp [0, 1, 3, 10, 11] [b11_1] ?_; refine TC.seqS ?_; refine TS.s OpY.move rfl ?_; refine TS.s OpY.move rfl ?_
  obtain ⟨x_3, ex_3, H⟩ := bnd H
  refine TS.s (OpD.quo ex_3) rfl ?_
  obtain ⟨x_4, ex_4, H⟩ := bnd H
  refine TS.s (OpD.mul ex_4) rfl ?_
  obtain ⟨x_5, ex_5, H⟩ := bnd H
  refine TS.s (OpD.add ex_5) rfl ?_; refine TS.s OpY.assign rfl ?_; refine TS.nil ?_; refine TE.then ?_; refine TC.kp [0, 1, 3, 10, 11, 12] [b11_1] ?_; refine TC.seqS ?_; refine TS.s OpY.move rfl ?_; refine TS.s OpY.move rfl ?_
  obtain ⟨x_6, ex_6, H⟩ := bnd H
  refine TS.s (OpD.quo ex_6) rfl ?_
  obtain ⟨x_7, ex_7, H⟩ := bnd H
  refine TS.s (OpD.mul ex_7) rfl ?_
  obtain ⟨x_8, ex_8, H⟩ := bnd H
  refine TS.s (OpD.add ex_8) rfl ?_; refine TS.s OpY.assign rfl ?_; refine TS.nil ?_; refine TE.then ?_; refine TC.kp [0, 1, 3, 10, 11, 12, 13] [b11_1] ?_; refine TC.seqS ?_; refine TS.s OpY.move rfl ?_; refine TS.s OpY.move rfl ?_
  obtain ⟨x_9, ex_9, H⟩ := bnd H
  refine TS.s (OpD.quo ex_9) rfl ?_
  obtain ⟨x_10, ex_10, H⟩ := bnd H
  refine TS.s (OpD.mul ex_10) rfl ?_
  obtain ⟨x_11, ex_11, H⟩ := bnd H
  refine TS.s (OpD.add ex_11) rfl ?_; refine TS.s OpY.assign rfl ?_; refine TS.nil ?_; refine TE.then ?_; refine TC.kp [0, 3, 10, 11, 12, 13, 14] [b11_1] ?_; refine TC.seq ?_
  obtain ⟨o_14, H14, H⟩ := bnd H
  refine TC.cutP (fun s : (Int × Int) => o_14 = s) (fun ⟨j_12, swaps_13⟩ (_ : Unit) => (Env.set (Env.set Env.nil 11 (Pt b11_1 0)) 13 (D (j_12 : Int)))) (fun ⟨j_12, swaps_13⟩ (_ : Unit) => [⟨b11_1, True, (One (swaps_13 : Int))⟩]) ?_ ?_
  · skip
    refine TC.seqS ?_; refine TS.s OpY.move rfl ?_; refine TS.s OpY.geq rfl ?_; refine TS.nil ?_; refine TE.then ?_; refine TC.kp [0, 3, 10, 11, 12, 13, 14, 34] [b11_1] ?_; refine TC.cond (fun hc => ?_) (fun hc => ?_)
    · replace H14 := cT H14 hc
      refine TC.seq ?_
      obtain ⟨o_19, H19, H14⟩ := bnd H14
      refine TC.cutP (fun s : (Int × Int × Int × Int) => o_19 = s) (fun ⟨i_15, j_16, k_17, swaps_18⟩ (_ : Unit) => (Env.set (Env.set (Env.set (Env.set (Env.set (Env.set Env.nil 0 (D (data0 : (List Prefix)))) 3 (D (cmp0 : (F2 Try.prog Prefix Prefix Int)))) 11 (Pt b11_1 0)) 12 (D (i_15 : Int))) 13 (D (j_16 : Int))) 14 (D (k_17 : Int)))) (fun ⟨i_15, j_16, k_17, swaps_18⟩ (_ : Unit) => [⟨b11_1, True, (One (swaps_18 : Int))⟩]) ?_ ?_
      · skip
        refine TC.seqS ?_; refine TS.s OpY.move rfl ?_; refine TS.s OpY.geq rfl ?_; refine TS.nil ?_; refine TE.then ?_; refine TC.kp [0, 3, 11, 12, 13, 14, 36] [b11_1] ?_; refine TC.cond (fun hc => ?_) (fun hc => ?_)
        · replace H19 := cT H19 hc
          refine TC.seqS ?_; refine TS.s OpY.move rfl ?_; refine TS.s OpY.move rfl ?_; refine TS.s OpY.move rfl ?_
          obtain ⟨x_20, ex_20, H19⟩ := bnd H19
          refine TS.t (OpT.callO4 [b11_1] fun w v0 v1 v2 v3 hA hO hap hks h0 h1 h2 h3 => slices_medianAdjacentCmpFunc_api_Prefix_o w v0 v1 v2 v3 hA hO hap hks (toD h0) (toD h1) (id h2) (toD h3) ex_20) rfl fun _ => ?_; dsimp only [List.cons_append, List.nil_append]
          refine TS.s OpY.assign rfl ?_; refine TS.nil ?_; refine TE.then ?_; refine TC.kp [0, 3, 11, 12, 13, 14] [b11_1] ?_; refine TC.seqS ?_; refine TS.s OpY.move rfl ?_; refine TS.s OpY.move rfl ?_; refine TS.s OpY.move rfl ?_
          obtain ⟨x_22, ex_22, H19⟩ := bnd H19
          refine TS.t (OpT.callO4 [b11_1] fun w v0 v1 v2 v3 hA hO hap hks h0 h1 h2 h3 => slices_medianAdjacentCmpFunc_api_Prefix_o w v0 v1 v2 v3 hA hO hap hks (toD h0) (toD h1) (id h2) (toD h3) ex_22) rfl fun _ => ?_; dsimp only [List.cons_append, List.nil_append]
          refine TS.s OpY.assign rfl ?_; refine TS.nil ?_; refine TE.then ?_; refine TC.kp [0, 3, 11, 12, 13, 14] [b11_1] ?_; refine TC.regionS ?_; refine TS.s OpY.move rfl ?_; refine TS.s OpY.move rfl ?_; refine TS.s OpY.move rfl ?_
          obtain ⟨x_24, ex_24, H19⟩ := bnd H19
          refine TS.t (OpT.callO4 [b11_1] fun w v0 v1 v2 v3 hA hO hap hks h0 h1 h2 h3 => slices_medianAdjacentCmpFunc_api_Prefix_o w v0 v1 v2 v3 hA hO hap hks (toD h0) (toD h1) (id h2) (toD h3) ex_24) rfl fun _ => ?_; dsimp only [List.cons_append, List.nil_append]
          refine TS.s OpY.assign rfl ?_; refine TS.nil ?_; refine TE.kp [0, 3, 11, 12, 13, 14] [b11_1] ?_; exact TE.cutP ⟨x_20.1, x_22.1, x_24.1, x_24.2⟩ () (Option.some.inj H19).symm (Env.cv (Env.cv (Env.cv (Env.cv (Env.cv (Env.cv (Env.le_nil _))))))) (Less.pk rfl (Less.nil _))
        · replace H19 := cF H19 hc
          refine TC.skip ?_; exact TE.cutP ⟨x_5, x_8, x_11, Dat.z⟩ () (Option.some.inj H19).symm (Env.cv (Env.cv (Env.cv (Env.cv (Env.cv (Env.cv (Env.le_nil _))))))) (Less.pk rfl (Less.nil _))
      rintro ⟨i_15, j_16, k_17, swaps_18⟩ ⟨⟩ hp
      replace hp := hp.symm
      subst hp
      replace H14 := el4_mk H14
      refine TE.then ?_; refine TC.kp [0, 3, 11, 12, 13, 14] [b11_1] ?_; refine TC.regionS ?_; refine TS.s OpY.move rfl ?_; refine TS.s OpY.move rfl ?_; refine TS.s OpY.move rfl ?_; refine TS.s OpY.move rfl ?_; refine TS.s OpY.move rfl ?_
      obtain ⟨x_26, ex_26, H14⟩ := bnd H14
      refine TS.t (OpT.callO6 [b11_1] fun w v0 v1 v2 v3 v4 v5 hA hO hap hks h0 h1 h2 h3 h4 h5 => slices_medianCmpFunc_api_Prefix_o w v0 v1 v2 v3 v4 v5 hA hO hap hks (toD h0) (toD h1) (toD h2) (toD h3) (id h4) (toD h5) ex_26) rfl fun _ => ?_; dsimp only [List.cons_append, List.nil_append]
      refine TS.s OpY.assign rfl ?_; refine TS.nil ?_; refine TE.kp [11, 13] [b11_1] ?_; exact TE.cutP ⟨x_26.1, x_26.2⟩ () (Option.some.inj H14).symm (Env.cv (Env.cv (Env.le_nil _))) (Less.pk rfl (Less.nil _))
    · replace H14 := cF H14 hc
      refine TC.skip ?_; exact TE.cutP ⟨x_8, Dat.z⟩ () (Option.some.inj H14).symm (Env.cv (Env.cv (Env.le_nil _))) (Less.pk rfl (Less.nil _))
  rintro ⟨j_12, swaps_13⟩ ⟨⟩ hp
  replace hp := hp.symm
  subst hp
  replace H := el2_mk H
  refine TE.then ?_; refine TC.kp [11, 13] [b11_1] ?_; refine TC.seqS ?_; refine TS.s (OpD.ldq Pl.one) rfl ?_; refine TS.nil ?_; refine TE.then ?_; refine TC.kp [13, 55] [] ?_; refine TC.block ?_; refine TC.seqS ?_; refine TS.s OpY.eql rfl ?_; refine TS.s OpY.assign rfl ?_; refine TS.nil ?_; refine TE.then ?_; refine TC.kp [13, 55, 57] [] ?_; refine TC.cond (fun hc => ?_) (fun hc => ?_)
  · replace H := cT H hc
    refine TC.seqS ?_; refine TS.s OpY.move rfl ?_; refine TS.s OpY.assign rfl ?_; refine TS.s OpY.assign rfl ?_; refine TS.nil ?_; refine TE.then ?_; refine TC.kp [8, 9] [] ?_; refine TC.ret ?_; refine TE.inBlock_ret ?_
    obtain rfl := (Option.some.inj H)
    exact TE.retN rfl rfl (.cons Cv.le (.cons Cv.le .nil))
  · replace H := cF H hc
    refine TC.seqS ?_; refine TS.s OpY.eql rfl ?_; refine TS.s OpY.assign rfl ?_; refine TS.nil ?_; refine TE.then ?_; refine TC.kp [13, 60] [] ?_; refine TC.cond (fun hc => ?_) (fun hc => ?_)
    · replace H := cT H hc
      refine TC.seqS ?_; refine TS.s OpY.move rfl ?_; refine TS.s OpY.assign rfl ?_; refine TS.s OpY.assign rfl ?_; refine TS.nil ?_; refine TE.then ?_; refine TC.kp [8, 9] [] ?_; refine TC.ret ?_; refine TE.inBlock_ret ?_
      obtain rfl := (Option.some.inj H)
      exact TE.retN rfl rfl (.cons Cv.le (.cons Cv.le .nil))
    · replace H := cF H hc
      refine TC.seqS ?_; refine TS.s OpY.move rfl ?_; refine TS.s OpY.assign rfl ?_; refine TS.s OpY.assign rfl ?_; refine TS.nil ?_; refine TE.then ?_; refine TC.kp [8, 9] [] ?_; refine TC.ret ?_; refine TE.inBlock_ret ?_
      obtain rfl := (Option.some.inj H)
      exact TE.retN rfl rfl (.cons Cv.le (.cons Cv.le .nil))
def slices_reverseRangeCmpFunc_api_Prefix_l1 (i_4 : Int) (j_5 : Int) (data_6 : (List Prefix)) : Option ((Int × Int × (List Prefix)) ⊕ (List Prefix)) :=
  bif (decide (i_4 < j_5)) then ((idx data_6 j_5).bind fun x_8 => (idx data_6 i_4).bind fun x_9 => (idx data_6 i_4).bind fun x_10 => (idx (data_6.set (Int.toNat i_4) x_8) j_5).bind fun x_11 => (some (((data_6.set (Int.toNat i_4) x_8).set (Int.toNat j_5) x_9) : (List Prefix))).bind fun l_12 => (addI i_4 (1 : Int)).bind fun x_13 => (subI j_5 (1 : Int)).bind fun x_14 => some (.inl (x_13, x_14, l_12))) else (some (.inr data_6))
def slices_reverseRangeCmpFunc_api_Prefix (data0 : (List Prefix)) (a0 : Int) (b0x : Int) (cmp0 : (F2 Try.prog Prefix Prefix Int)) : Option (List Prefix) :=
  (subI b0x (1 : Int)).bind fun x_1 => (loopO (fun s => slices_reverseRangeCmpFunc_api_Prefix_l1 s.1 s.2.1 s.2.2) (a0, x_1, data0)).bind fun data_2 => some data_2
theorem slices_reverseRangeCmpFunc_api_Prefix_o {A : Nat → Prop} {data0 : (List Prefix)} {a0 : Int} {b0x : Int} {cmp0 : (F2 Try.prog Prefix Prefix Int)} {b0 c0 : Nat} {p0 : Prop} {r : (List Prefix)} (w : World) (v0 v1 v2 v3 : Value) (hA : ∀ k, w.heap.size ≤ k → A k) (hO : OwnIn A [⟨b0, p0, Row (data0 : List Prefix) c0⟩]) (hap : Apart [⟨b0, p0, Row (data0 : List Prefix) c0⟩]) (hks : Pks (Pub A [⟨b0, p0, Row (data0 : List Prefix) c0⟩]) [⟨b0, p0, Row (data0 : List Prefix) c0⟩] w) (h0 : (Sl b0 p0 0 data0.length c0).p (Pub A [⟨b0, p0, Row (data0 : List Prefix) c0⟩]) w v0) (h1 : (D (a0 : Int)).p (Pub A [⟨b0, p0, Row (data0 : List Prefix) c0⟩]) w v1) (h2 : (D (b0x : Int)).p (Pub A [⟨b0, p0, Row (data0 : List Prefix) c0⟩]) w v2) (h3 : (D (cmp0 : (F2 Try.prog Prefix Prefix Int))).p (Pub A [⟨b0, p0, Row (data0 : List Prefix) c0⟩]) w v3) (H : slices_reverseRangeCmpFunc_api_Prefix data0 a0 b0x cmp0 = some r) :
    Calls Try.prog 55 #[v0, v1, v2, v3] w (RetO A w [⟨b0, p0, Row (data0 : List Prefix) c0⟩] (fun g : Unit => Tup []) fun g => [⟨b0, p0, Row (r : List Prefix) c0⟩]) := by
  unfold slices_reverseRangeCmpFunc_api_Prefix at H
  refine enterO4 hA hap hks Try.func55 rfl Try.ntmps55 rfl h0 h1 h2 h3 ?_; refine TC.seqS ?_; refine TS.s OpY.move rfl ?_; refine TS.s OpY.assign rfl ?_; refine TS.nil ?_; refine TE.then ?_; refine TC.kp [0, 2, 8] [b0] ?_; refine TC.seqS ?_; refine TS.s OpY.move rfl ?_
  obtain ⟨x_1, ex_1, H⟩ := bnd H
  refine TS.s (OpD.sub ex_1) rfl ?_; refine TS.s OpY.assign rfl ?_; refine TS.nil ?_; refine TE.then ?_; refine TC.kp [0, 8, 9] [b0] ?_
  obtain ⟨o_3, H3, H⟩ := bnd H
  refine TC.cutP (fun s : (List Prefix) => o_3 = s) (fun (data_2 : (List Prefix)) (_ : Unit) => Env.nil) (fun (data_2 : (List Prefix)) (_ : Unit) => [⟨b0, p0, (Row (data_2 : List Prefix) c0)⟩]) ?_ ?_
  · skip
    refine TC.block ?_; refine TC.loopP H3 (fun ⟨i_4, j_5, data_6⟩ (_ : Unit) => (Env.set (Env.set (Env.set Env.nil 0 (Sl b0 p0 0 data_6.length c0)) 8 (D (i_4 : Int))) 9 (D (j_5 : Int)))) (fun ⟨i_4, j_5, data_6⟩ (_ : Unit) => [⟨b0, p0, (Row (data_6 : List Prefix) c0)⟩]) () (Env.cv (Env.cv (Env.cvBy (Sl_le rfl) (Env.le_nil _)))) (Less.pk rfl (Less.nil _)) ?_
    rintro ⟨i_4, j_5, data_6⟩ ⟨⟩ x_7 H7 he7
    replace H7 : slices_reverseRangeCmpFunc_api_Prefix_l1 i_4 j_5 data_6 = some x_7 := H7
    unfold slices_reverseRangeCmpFunc_api_Prefix_l1 at H7
    refine TC.seq ?_; refine TC.seqS ?_; refine TS.s OpY.move rfl ?_; refine TS.s OpY.move rfl ?_; refine TS.s OpY.lss rfl ?_; refine TS.nil ?_; refine TE.then ?_; refine TC.kp [0, 8, 9, 15] [b0] ?_; refine TC.cond (fun hc => ?_) (fun hc => ?_)
    · replace H7 := cT H7 hc
      refine TC.skip ?_; refine TE.then ?_; refine TC.kp [0, 8, 9] [b0] ?_; refine TC.block ?_; refine TC.seqD2 [0, 0, 0, 0, 0, 0, 0, 2, 0, 0, 0, 2, 0, 1, 0, 1] [b0] mix (by kernel_rfl) (by kernel_rfl) ?_; refine TR2.s OpY.move rfl ?_; refine TR2.s OpY.move rfl ?_; refine TR2.s OpY.move rfl ?_; refine TR2.s OpY.move rfl ?_; refine TR2.s OpY.move rfl ?_; refine TR2.s OpY.move rfl ?_
      obtain ⟨x_8, ex_8, H7⟩ := bnd H7
      refine TR2.s (OpD.indexq (idx_in ex_8 rfl)) rfl ?_; refine TR2.r (fun g => OpG.s (OpD.ldq (Pl.rowz ex_8))) rfl ?_; refine TR2.s OpY.move rfl ?_; refine TR2.s OpY.move rfl ?_
      obtain ⟨x_9, ex_9, H7⟩ := bnd H7
      refine TR2.s (OpD.indexq (idx_in ex_9 rfl)) rfl ?_; refine TR2.r (fun g => OpG.s (OpD.ldq (Pl.rowz ex_9))) rfl ?_
      obtain ⟨x_10, ex_10, H7⟩ := bnd H7
      refine TR2.s (OpD.indexq (idx_in ex_10 rfl)) rfl ?_; refine TR2.tn (fun Ωr g => (OpT.storeq (y := (x_8 : Prefix)) (Pl.rowz ex_10))) rfl ?_
      obtain ⟨x_11, ex_11, H7⟩ := bnd H7
      refine TR2.s (OpD.indexq (idx_in ex_11 (by simp))) rfl ?_; refine TR2.tn (fun Ωr g => (OpT.storeq (y := (x_9 : Prefix)) (Pl.rowz ex_11))) rfl ?_; refine TR2.nil ?_
      rintro ⟨⟨⟨⟨_, _⟩, _⟩, _⟩, _⟩
      dsimp only [Fam.nextS, Fam.nextN, Fam.one, List.cons_append, List.nil_append]
      refine TC.kp [0, 8, 9] [b0] ?_
      obtain ⟨l_12, el_12, H7⟩ := bnd H7
      refine TC.nmB b0 (nm_row el_12) ?_; refine TC.see 0 _ (nm_sl2 el_12 (by simp)) ?_; refine TC.seqS ?_; refine TS.s OpY.move rfl ?_
      obtain ⟨x_13, ex_13, H7⟩ := bnd H7
      refine TS.s (OpD.add ex_13) rfl ?_; refine TS.s OpY.assign rfl ?_; refine TS.nil ?_; refine TE.then ?_; refine TC.kp [0, 8, 9] [b0] ?_; refine TC.regionS ?_; refine TS.s OpY.move rfl ?_
      obtain ⟨x_14, ex_14, H7⟩ := bnd H7
      refine TS.s (OpD.sub ex_14) rfl ?_; refine TS.s OpY.assign rfl ?_; refine TS.nil ?_; refine TE.kp [0, 8, 9] [b0] ?_; refine TE.inBlock_normal ?_; exact TE.backP ⟨x_13, x_14, l_12⟩ () (Option.some.inj H7).symm (Env.cv (Env.cv (Env.cvBy (Sl_le rfl) (Env.le_nil _)))) (Less.pk rfl (Less.nil _))
    · replace H7 := cF H7 hc
      refine TC.exit ?_; refine TE.then_exit ?_; refine TE.then_exit ?_; refine TE.inBlock_here ?_; exact TE.cutP data_6 () (he7 _ (Option.some.inj H7).symm).symm (Env.le_nil _) (Less.pk rfl (Less.nil _))
  rintro data_2 ⟨⟩ hp
  replace hp := hp.symm
  subst hp
  obtain rfl := (Option.some.inj H)
  exact TE.endON rfl rfl () .nil (Less.pk rfl (Less.nil _))
def slices_partialInsertionSortCmpFunc_api_Prefix_l2 (b0x : Int) (cmp0 : (F2 Try.prog Prefix Prefix Int)) (data_6 : (List Prefix)) (i_13 : Int) : Option (Int ⊕ Int) :=
  (gb (decide (i_13 < b0x)) (idx data_6 i_13)).bind fun x_15 => (gb (decide (i_13 < b0x)) (subI i_13 (1 : Int))).bind fun x_16 => (gb (decide (i_13 < b0x)) (idx data_6 x_16)).bind fun x_17 => (gb (decide (i_13 < b0x)) ((cmp0).f x_15 x_17)).bind fun x_18 => bif ((decide (i_13 < b0x)) && (!(decide (x_18 < (0 : Int))))) then ((addI i_13 (1 : Int)).bind fun x_19 => some (.inl x_19)) else (some (.inr i_13))
def slices_partialInsertionSortCmpFunc_api_Prefix_l3 (cmp0 : (F2 Try.prog Prefix Prefix Int)) (j_36 : Int) (data_37 : (List Prefix)) : Option ((Int × (List Prefix)) ⊕ (List Prefix)) :=
  bif (decide (j_36 ≥ (1 : Int))) then ((idx data_37 j_36).bind fun x_39 => (subI j_36 (1 : Int)).bind fun x_40 => (idx data_37 x_40).bind fun x_41 => ((cmp0).f x_39 x_41).bind fun x_42 => bif (!(decide (x_42 < (0 : Int)))) then (some (.inr data_37)) else ((subI j_36 (1 : Int)).bind fun x_43 => (subI j_36 (1 : Int)).bind fun x_44 => (idx data_37 x_44).bind fun x_45 => (idx data_37 j_36).bind fun x_46 => (idx data_37 j_36).bind fun x_47 => (idx (data_37.set (Int.toNat j_36) x_45) x_43).bind fun x_48 => (some (((data_37.set (Int.toNat j_36) x_45).set (Int.toNat x_43) x_46) : (List Prefix))).bind fun l_49 => (subI j_36 (1 : Int)).bind fun x_50 => some (.inl (x_50, l_49)))) else (some (.inr data_37))
def slices_partialInsertionSortCmpFunc_api_Prefix_l4 (b0x : Int) (cmp0 : (F2 Try.prog Prefix Prefix Int)) (j_55 : Int) (data_56 : (List Prefix)) : Option ((Int × (List Prefix)) ⊕ (List Prefix)) :=
  bif (decide (j_55 < b0x)) then ((idx data_56 j_55).bind fun x_58 => (subI j_55 (1 : Int)).bind fun x_59 => (idx data_56 x_59).bind fun x_60 => ((cmp0).f x_58 x_60).bind fun x_61 => bif (!(decide (x_61 < (0 : Int)))) then (some (.inr data_56)) else ((subI j_55 (1 : Int)).bind fun x_62 => (subI j_55 (1 : Int)).bind fun x_63 => (idx data_56 x_63).bind fun x_64 => (idx data_56 j_55).bind fun x_65 => (idx data_56 j_55).bind fun x_66 => (idx (data_56.set (Int.toNat j_55) x_64) x_62).bind fun x_67 => (some (((data_56.set (Int.toNat j_55) x_64).set (Int.toNat x_62) x_65) : (List Prefix))).bind fun l_68 => (addI j_55 (1 : Int)).bind fun x_69 => some (.inl (x_69, l_68)))) else (some (.inr data_56))
def slices_partialInsertionSortCmpFunc_api_Prefix_l1 (a0 : Int) (b0x : Int) (cmp0 : (F2 Try.prog Prefix Prefix Int)) (i_4 : Int) (j_5 : Int) (data_6 : (List Prefix)) : Option ((Int × Int × (List Prefix)) ⊕ ((List Prefix) ⊕ (Bool × (List Prefix)))) :=
  bif (decide (j_5 < (5 : Int))) then (((loopO (fun s => slices_partialInsertionSortCmpFunc_api_Prefix_l2 b0x cmp0 data_6 s) i_4).bind fun i_11 => bif (decide (i_11 = b0x)) then (some (.inr (true, data_6))) else ((subI b0x a0).bind fun x_22 => bif (decide (x_22 < (50 : Int))) then (some (.inr (false, data_6))) else ((subI i_11 (1 : Int)).bind fun x_25 => (subI i_11 (1 : Int)).bind fun x_26 => (idx data_6 x_26).bind fun x_27 => (idx data_6 i_11).bind fun x_28 => (idx data_6 i_11).bind fun x_29 => (idx (data_6.set (Int.toNat i_11) x_27) x_25).bind fun x_30 => (some (((data_6.set (Int.toNat i_11) x_27).set (Int.toNat x_25) x_28) : (List Prefix))).bind fun l_31 => ((subI i_11 a0).bind fun x_34 => bif (decide (x_34 ≥ (2 : Int))) then ((subI i_11 (1 : Int)).bind fun x_35 => loopO (fun s => slices_partialInsertionSortCmpFunc_api_Prefix_l3 cmp0 s.1 s.2) (x_35, l_31)) else (some l_31)).bind fun data_32 => (subI b0x i_11).bind fun x_51 => bif (decide (x_51 ≥ (2 : Int))) then ((addI i_11 (1 : Int)).bind fun x_52 => (loopO (fun s => slices_partialInsertionSortCmpFunc_api_Prefix_l4 b0x cmp0 s.1 s.2) (x_52, data_32)).bind fun data_53 => some (.inl (i_11, data_53))) else (some (.inl (i_11, data_32)))))).bind fun o_10 => elS o_10 (fun s => el2 s (fun i_8 data_9 => (addI j_5 (1 : Int)).bind fun x_70 => some (.inl (i_8, x_70, data_9)))) (fun q => some (.inr (.inr q)))) else (some (.inr (.inl data_6)))
def slices_partialInsertionSortCmpFunc_api_Prefix (data0 : (List Prefix)) (a0 : Int) (b0x : Int) (cmp0 : (F2 Try.prog Prefix Prefix Int)) : Option (Bool × (List Prefix)) :=
  (addI a0 (1 : Int)).bind fun x_1 => (loopO (fun s => slices_partialInsertionSortCmpFunc_api_Prefix_l1 a0 b0x cmp0 s.1 s.2.1 s.2.2) (x_1, (0 : Int), data0)).bind fun o_3 => elS o_3 (fun data_2 => some (false, data_2)) (fun q => some q)
theorem slices_partialInsertionSortCmpFunc_api_Prefix_o {A : Nat → Prop} {data0 : (List Prefix)} {a0 : Int} {b0x : Int} {cmp0 : (F2 Try.prog Prefix Prefix Int)} {b0 c0 : Nat} {p0 : Prop} {r : (Bool × (List Prefix))} (w : World) (v0 v1 v2 v3 : Value) (hA : ∀ k, w.heap.size ≤ k → A k) (hO : OwnIn A [⟨b0, p0, Row (data0 : List Prefix) c0⟩]) (hap : Apart [⟨b0, p0, Row (data0 : List Prefix) c0⟩]) (hks : Pks (Pub A [⟨b0, p0, Row (data0 : List Prefix) c0⟩]) [⟨b0, p0, Row (data0 : List Prefix) c0⟩] w) (h0 : (Sl b0 p0 0 data0.length c0).p (Pub A [⟨b0, p0, Row (data0 : List Prefix) c0⟩]) w v0) (h1 : (D (a0 : Int)).p (Pub A [⟨b0, p0, Row (data0 : List Prefix) c0⟩]) w v1) (h2 : (D (b0x : Int)).p (Pub A [⟨b0, p0, Row (data0 : List Prefix) c0⟩]) w v2) (h3 : (D (cmp0 : (F2 Try.prog Prefix Prefix Int))).p (Pub A [⟨b0, p0, Row (data0 : List Prefix) c0⟩]) w v3) (H : slices_partialInsertionSortCmpFunc_api_Prefix data0 a0 b0x cmp0 = some r) :
    Calls Try.prog 56 #[v0, v1, v2, v3] w (RetO A w [⟨b0, p0, Row (data0 : List Prefix) c0⟩] (fun g : Unit => D (r.1 : Bool)) fun g => [⟨b0, p0, Row (r.2 : List Prefix) c0⟩]) := by
  unfold slices_partialInsertionSortCmpFunc_api_Prefix at H
  refine enterO4 hA hap hks Try.func56 rfl Try.ntmps56 rfl h0 h1 h2 h3 ?_; refine TC.seqS ?_; refine TS.s OpY.assign rfl ?_; refine TS.nil ?_; refine TE.then ?_; refine TC.kp [0, 1, 2, 3] [b0] ?_; refine TC.seqS ?_; refine TS.s OpY.move rfl ?_
  obtain ⟨x_1, ex_1, H⟩ := bnd H
  refine TS.s (OpD.add ex_1) rfl ?_; refine TS.s OpY.assign rfl ?_; refine TS.nil ?_; refine TE.then ?_; refine TC.kp [0, 1, 2, 3, 9] [b0] ?_; refine TC.seq ?_; refine TC.seqS ?_; refine TS.s OpY.assign rfl ?_; refine TS.nil ?_; refine TE.then ?_; refine TC.kp [0, 1, 2, 3, 9, 10] [b0] ?_
  obtain ⟨o_3, H3, H⟩ := bnd H
  refine TC.cutP (fun s : (List Prefix) => o_3 = .inl s) (fun (data_2 : (List Prefix)) (_ : Unit) => Env.nil) (fun (data_2 : (List Prefix)) (_ : Unit) => [⟨b0, p0, (Row (data_2 : List Prefix) c0)⟩]) ?_ ?_
  · skip
    refine TC.block ?_; refine TC.loopP H3 (fun ⟨i_4, j_5, data_6⟩ (_ : Unit) => (Env.set (Env.set (Env.set (Env.set (Env.set (Env.set Env.nil 0 (Sl b0 p0 0 data_6.length c0)) 1 (D (a0 : Int))) 2 (D (b0x : Int))) 3 (D (cmp0 : (F2 Try.prog Prefix Prefix Int)))) 9 (D (i_4 : Int))) 10 (D (j_5 : Int)))) (fun ⟨i_4, j_5, data_6⟩ (_ : Unit) => [⟨b0, p0, (Row (data_6 : List Prefix) c0)⟩]) () (Env.cv (Env.cv (Env.cv (Env.cv (Env.cv (Env.cvBy (Sl_le rfl) (Env.le_nil _))))))) (Less.pk rfl (Less.nil _)) ?_
    rintro ⟨i_4, j_5, data_6⟩ ⟨⟩ x_7 H7 he7
    replace H7 : slices_partialInsertionSortCmpFunc_api_Prefix_l1 a0 b0x cmp0 i_4 j_5 data_6 = some x_7 := H7
    unfold slices_partialInsertionSortCmpFunc_api_Prefix_l1 at H7
    refine TC.seq ?_; refine TC.seqS ?_; refine TS.s OpY.move rfl ?_; refine TS.s OpY.lss rfl ?_; refine TS.nil ?_; refine TE.then ?_; refine TC.kp [0, 1, 2, 3, 9, 10, 16] [b0] ?_; refine TC.cond (fun hc => ?_) (fun hc => ?_)
    · replace H7 := cT H7 hc
      refine TC.skip ?_; refine TE.then ?_; refine TC.kp [0, 1, 2, 3, 9, 10] [b0] ?_; refine TC.seq ?_
      obtain ⟨o_10, H10, H7⟩ := bnd H7
      refine TC.cutP (fun s : (Int × (List Prefix)) => o_10 = .inl s) (fun ⟨i_8, data_9⟩ (_ : Unit) => (Env.set (Env.set (Env.set (Env.set (Env.set (Env.set Env.nil 0 (Sl b0 p0 0 data_9.length c0)) 1 (D (a0 : Int))) 2 (D (b0x : Int))) 3 (D (cmp0 : (F2 Try.prog Prefix Prefix Int)))) 9 (D (i_8 : Int))) 10 (D (j_5 : Int)))) (fun ⟨i_8, data_9⟩ (_ : Unit) => [⟨b0, p0, (Row (data_9 : List Prefix) c0)⟩]) ?_ ?_
      · skip
        refine TC.block ?_; refine TC.seq ?_
        obtain ⟨o_12, H12, H10⟩ := bnd H10
        refine TC.cutP (fun s : Int => o_12 = s) (fun (i_11 : Int) (_ : Unit) => (Env.set (Env.set (Env.set (Env.set (Env.set (Env.set Env.nil 0 (Sl b0 p0 0 data_6.length c0)) 1 (D (a0 : Int))) 2 (D (b0x : Int))) 3 (D (cmp0 : (F2 Try.prog Prefix Prefix Int)))) 9 (D (i_11 : Int))) 10 (D (j_5 : Int)))) (fun (i_11 : Int) (_ : Unit) => [⟨b0, p0, (Row (data_6 : List Prefix) c0)⟩]) ?_ ?_
        · skip
          refine TC.block ?_; refine TC.loopP H12 (fun (i_13 : Int) (_ : Unit) => (Env.set (Env.set (Env.set (Env.set (Env.set (Env.set Env.nil 0 (Sl b0 p0 0 data_6.length c0)) 1 (D (a0 : Int))) 2 (D (b0x : Int))) 3 (D (cmp0 : (F2 Try.prog Prefix Prefix Int)))) 9 (D (i_13 : Int))) 10 (D (j_5 : Int)))) (fun (i_13 : Int) (_ : Unit) => [⟨b0, p0, (Row (data_6 : List Prefix) c0)⟩]) () (Env.cv (Env.cv (Env.cv (Env.cv (Env.cv (Env.cvBy (Sl_le rfl) (Env.le_nil _))))))) (Less.pk rfl (Less.nil _)) ?_
          rintro i_13 ⟨⟩ x_14 H14 he14
          replace H14 : slices_partialInsertionSortCmpFunc_api_Prefix_l2 b0x cmp0 data_6 i_13 = some x_14 := H14
          unfold slices_partialInsertionSortCmpFunc_api_Prefix_l2 at H14
          refine TC.seq ?_; refine TC.seqD0 mix (by kernel_rfl) ?_; refine TR.s OpY.move rfl ?_; refine TR.s OpY.move rfl ?_; refine TR.s OpY.lss rfl ?_; refine TR.s OpY.move rfl ?_; refine TR.g 22 rfl (fun hg => OpY.move) rfl ?_; refine TR.g 22 rfl (fun hg => OpY.move) rfl ?_; refine TR.g 22 rfl (fun hg => OpY.move) rfl ?_
          obtain ⟨x_15, ex_15, H14⟩ := bnd H14
          refine TR.g 22 rfl (fun hg => (OpD.indexq (idx_in (gb_some ex_15 hg.h) rfl))) rfl ?_; refine TR.g 22 rfl (fun hg => (OpD.ldq (Pl.rowz (gb_some ex_15 hg.h)))) rfl ?_; refine TR.g 22 rfl (fun hg => OpY.move) rfl ?_; refine TR.g 22 rfl (fun hg => OpY.move) rfl ?_
          obtain ⟨x_16, ex_16, H14⟩ := bnd H14
          refine TR.g 22 rfl (fun hg => (OpD.sub (gb_some ex_16 hg.h))) rfl ?_
          obtain ⟨x_17, ex_17, H14⟩ := bnd H14
          refine TR.g 22 rfl (fun hg => (OpD.indexq (idx_in (gb_some ex_17 hg.h) rfl))) rfl ?_; refine TR.g 22 rfl (fun hg => (OpD.ldq (Pl.rowz (gb_some ex_17 hg.h)))) rfl ?_
          obtain ⟨x_18, ex_18, H14⟩ := bnd H14
          refine TR.g 22 rfl (fun hg => (OpY.callV2 (gb_some ex_18 hg.h))) rfl ?_; refine TR.g 22 rfl (fun hg => OpY.lss) rfl ?_; refine TR.g 22 rfl (fun hg => OpY.notB) rfl ?_; refine TR.s OpY.pickAnd rfl ?_; refine TR.nil ?_; refine TC.kp [0, 1, 2, 3, 9, 10, 36] [b0] ?_; refine TC.cond (fun hc => ?_) (fun hc => ?_)
          · replace H14 := cT H14 hc
            refine TC.skip ?_; refine TE.then ?_; refine TC.kp [0, 1, 2, 3, 9, 10] [b0] ?_; refine TC.block ?_; refine TC.regionS ?_; refine TS.s OpY.move rfl ?_
            obtain ⟨x_19, ex_19, H14⟩ := bnd H14
            refine TS.s (OpD.add ex_19) rfl ?_; refine TS.s OpY.assign rfl ?_; refine TS.nil ?_; refine TE.kp [0, 1, 2, 3, 9, 10] [b0] ?_; refine TE.inBlock_normal ?_; exact TE.backP x_19 () (Option.some.inj H14).symm (Env.cv (Env.cv (Env.cv (Env.cv (Env.cv (Env.cvBy (Sl_le rfl) (Env.le_nil _))))))) (Less.pk rfl (Less.nil _))
          · replace H14 := cF H14 hc
            refine TC.exit ?_; refine TE.then_exit ?_; refine TE.then_exit ?_; refine TE.inBlock_here ?_; exact TE.cutP i_13 () (he14 _ (Option.some.inj H14).symm).symm (Env.cv (Env.cv (Env.cv (Env.cv (Env.cv (Env.cvBy (Sl_le rfl) (Env.le_nil _))))))) (Less.pk rfl (Less.nil _))
        rintro i_11 ⟨⟩ hp
        replace hp := hp.symm
        subst hp
        refine TE.then ?_; refine TC.kp [0, 1, 2, 3, 9, 10] [b0] ?_; refine TC.seq ?_; refine TC.seqS ?_; refine TS.s OpY.move rfl ?_; refine TS.s OpY.move rfl ?_; refine TS.s OpY.eql rfl ?_; refine TS.nil ?_; refine TE.then ?_; refine TC.kp [0, 1, 2, 3, 9, 10, 41] [b0] ?_; refine TC.cond (fun hc => ?_) (fun hc => ?_)
        · replace H10 := cT H10 hc
          refine TC.seqS ?_; refine TS.s OpY.assign rfl ?_; refine TS.nil ?_; refine TE.then ?_; refine TC.kp [8] [b0] ?_; refine TC.ret ?_; refine TE.then_ret ?_; refine TE.inBlock_ret ?_; refine TE.cut_ret ?_
          have R19 := elS_r (Option.some.inj H10) H7
          refine TE.then_ret ?_; refine TE.then_ret ?_; refine TE.inBlock_ret ?_; refine TE.cut_ret ?_
          have R20 := elS_r (he7 _ (Option.some.inj R19).symm) H
          refine TE.then_ret ?_
          obtain rfl := (Option.some.inj R20)
          exact TE.retO1 rfl () Cv.le (Less.pk rfl (Less.nil _))
        · replace H10 := cF H10 hc
          refine TC.skip ?_; refine TE.then ?_; refine TC.kp [0, 1, 2, 3, 9, 10] [b0] ?_; refine TC.seq ?_; refine TC.seqS ?_; refine TS.s OpY.move rfl ?_; refine TS.s OpY.move rfl ?_
          obtain ⟨x_22, ex_22, H10⟩ := bnd H10
          refine TS.s (OpD.sub ex_22) rfl ?_; refine TS.s OpY.lss rfl ?_; refine TS.nil ?_; refine TE.then ?_; refine TC.kp [0, 1, 2, 3, 9, 10, 45] [b0] ?_; refine TC.cond (fun hc => ?_) (fun hc => ?_)
          · replace H10 := cT H10 hc
            refine TC.seqS ?_; refine TS.s OpY.assign rfl ?_; refine TS.nil ?_; refine TE.then ?_; refine TC.kp [8] [b0] ?_; refine TC.ret ?_; refine TE.then_ret ?_; refine TE.inBlock_ret ?_; refine TE.cut_ret ?_
            have R22 := elS_r (Option.some.inj H10) H7
            refine TE.then_ret ?_; refine TE.then_ret ?_; refine TE.inBlock_ret ?_; refine TE.cut_ret ?_
            have R23 := elS_r (he7 _ (Option.some.inj R22).symm) H
            refine TE.then_ret ?_
            obtain rfl := (Option.some.inj R23)
            exact TE.retO1 rfl () Cv.le (Less.pk rfl (Less.nil _))
          · replace H10 := cF H10 hc
            refine TC.skip ?_; refine TE.then ?_; refine TC.kp [0, 1, 2, 3, 9, 10] [b0] ?_; refine TC.seqD2 [0, 0, 0, 0, 0, 0, 0, 0, 0, 2, 0, 0, 0, 2, 0, 1, 0, 1] [b0] mix (by kernel_rfl) (by kernel_rfl) ?_; refine TR2.s OpY.move rfl ?_; refine TR2.s OpY.move rfl ?_; refine TR2.s OpY.move rfl ?_; refine TR2.s OpY.move rfl ?_
            obtain ⟨x_25, ex_25, H10⟩ := bnd H10
            refine TR2.s (OpD.sub ex_25) rfl ?_; refine TR2.s OpY.move rfl ?_; refine TR2.s OpY.move rfl ?_
            obtain ⟨x_26, ex_26, H10⟩ := bnd H10
            refine TR2.s (OpD.sub ex_26) rfl ?_
            obtain ⟨x_27, ex_27, H10⟩ := bnd H10
            refine TR2.s (OpD.indexq (idx_in ex_27 rfl)) rfl ?_; refine TR2.r (fun g => OpG.s (OpD.ldq (Pl.rowz ex_27))) rfl ?_; refine TR2.s OpY.move rfl ?_; refine TR2.s OpY.move rfl ?_
            obtain ⟨x_28, ex_28, H10⟩ := bnd H10
            refine TR2.s (OpD.indexq (idx_in ex_28 rfl)) rfl ?_; refine TR2.r (fun g => OpG.s (OpD.ldq (Pl.rowz ex_28))) rfl ?_
            obtain ⟨x_29, ex_29, H10⟩ := bnd H10
            refine TR2.s (OpD.indexq (idx_in ex_29 rfl)) rfl ?_; refine TR2.tn (fun Ωr g => (OpT.storeq (y := (x_27 : Prefix)) (Pl.rowz ex_29))) rfl ?_
            obtain ⟨x_30, ex_30, H10⟩ := bnd H10
            refine TR2.s (OpD.indexq (idx_in ex_30 (by simp))) rfl ?_; refine TR2.tn (fun Ωr g => (OpT.storeq (y := (x_28 : Prefix)) (Pl.rowz ex_30))) rfl ?_; refine TR2.nil ?_
            rintro ⟨⟨⟨⟨_, _⟩, _⟩, _⟩, _⟩
            dsimp only [Fam.nextS, Fam.nextN, Fam.one, List.cons_append, List.nil_append]
            refine TC.kp [0, 1, 2, 3, 9, 10] [b0] ?_
            obtain ⟨l_31, el_31, H10⟩ := bnd H10
            refine TC.nmB b0 (nm_row el_31) ?_; refine TC.see 0 _ (nm_sl2 el_31 (by simp)) ?_; refine TC.seq ?_
            obtain ⟨o_33, H33, H10⟩ := bnd H10
            refine TC.cutP (fun s : (List Prefix) => o_33 = s) (fun (data_32 : (List Prefix)) (_ : Unit) => (Env.set (Env.set (Env.set (Env.set (Env.set (Env.set Env.nil 0 (Sl b0 p0 0 data_32.length c0)) 1 (D (a0 : Int))) 2 (D (b0x : Int))) 3 (D (cmp0 : (F2 Try.prog Prefix Prefix Int)))) 9 (D (i_11 : Int))) 10 (D (j_5 : Int)))) (fun (data_32 : (List Prefix)) (_ : Unit) => [⟨b0, p0, (Row (data_32 : List Prefix) c0)⟩]) ?_ ?_
            · skip
              refine TC.seqS ?_; refine TS.s OpY.move rfl ?_; refine TS.s OpY.move rfl ?_
              obtain ⟨x_34, ex_34, H33⟩ := bnd H33
              refine TS.s (OpD.sub ex_34) rfl ?_; refine TS.s OpY.geq rfl ?_; refine TS.nil ?_; refine TE.then ?_; refine TC.kp [0, 1, 2, 3, 9, 10, 65] [b0] ?_; refine TC.cond (fun hc => ?_) (fun hc => ?_)
              · replace H33 := cT H33 hc
                refine TC.seqS ?_; refine TS.s OpY.move rfl ?_
                obtain ⟨x_35, ex_35, H33⟩ := bnd H33
                refine TS.s (OpD.sub ex_35) rfl ?_; refine TS.s OpY.assign rfl ?_; refine TS.nil ?_; refine TE.then ?_; refine TC.kp [0, 1, 2, 3, 9, 10, 11] [b0] ?_; refine TC.block ?_; refine TC.loopP H33 (fun ⟨j_36, data_37⟩ (_ : Unit) => (Env.set (Env.set (Env.set (Env.set (Env.set (Env.set (Env.set Env.nil 0 (Sl b0 p0 0 data_37.length c0)) 1 (D (a0 : Int))) 2 (D (b0x : Int))) 3 (D (cmp0 : (F2 Try.prog Prefix Prefix Int)))) 9 (D (i_11 : Int))) 10 (D (j_5 : Int))) 11 (D (j_36 : Int)))) (fun ⟨j_36, data_37⟩ (_ : Unit) => [⟨b0, p0, (Row (data_37 : List Prefix) c0)⟩]) () (Env.cv (Env.cv (Env.cv (Env.cv (Env.cv (Env.cv (Env.cvBy (Sl_le rfl) (Env.le_nil _)))))))) (Less.pk rfl (Less.nil _)) ?_
                rintro ⟨j_36, data_37⟩ ⟨⟩ x_38 H38 he38
                replace H38 : slices_partialInsertionSortCmpFunc_api_Prefix_l3 cmp0 j_36 data_37 = some x_38 := H38
                unfold slices_partialInsertionSortCmpFunc_api_Prefix_l3 at H38
                refine TC.seq ?_; refine TC.seqS ?_; refine TS.s OpY.move rfl ?_; refine TS.s OpY.geq rfl ?_; refine TS.nil ?_; refine TE.then ?_; refine TC.kp [0, 1, 2, 3, 9, 10, 11, 69] [b0] ?_; refine TC.cond (fun hc => ?_) (fun hc => ?_)
                · replace H38 := cT H38 hc
                  refine TC.skip ?_; refine TE.then ?_; refine TC.kp [0, 1, 2, 3, 9, 10, 11] [b0] ?_; refine TC.seq ?_; refine TC.block ?_; refine TC.seq ?_; refine TC.seqD0 mix (by kernel_rfl) ?_; refine TR.s OpY.move rfl ?_; refine TR.s OpY.move rfl ?_; refine TR.s OpY.move rfl ?_
                  obtain ⟨x_39, ex_39, H38⟩ := bnd H38
                  refine TR.s (OpD.indexq (idx_in ex_39 rfl)) rfl ?_; refine TR.s (OpD.ldq (Pl.rowz ex_39)) rfl ?_; refine TR.s OpY.move rfl ?_; refine TR.s OpY.move rfl ?_
                  obtain ⟨x_40, ex_40, H38⟩ := bnd H38
                  refine TR.s (OpD.sub ex_40) rfl ?_
                  obtain ⟨x_41, ex_41, H38⟩ := bnd H38
                  refine TR.s (OpD.indexq (idx_in ex_41 rfl)) rfl ?_; refine TR.s (OpD.ldq (Pl.rowz ex_41)) rfl ?_
                  obtain ⟨x_42, ex_42, H38⟩ := bnd H38
                  refine TR.s (OpY.callV2 ex_42) rfl ?_; refine TR.s OpY.lss rfl ?_; refine TR.s OpY.notB rfl ?_; refine TR.nil ?_; refine TC.kp [0, 1, 2, 3, 9, 10, 11, 84] [b0] ?_; refine TC.cond (fun hc => ?_) (fun hc => ?_)
                  · replace H38 := cT H38 hc
                    refine TC.exit ?_; refine TE.then_exit ?_; refine TE.inBlock_other rfl ?_; refine TE.then_exit ?_; refine TE.then_exit ?_; refine TE.inBlock_here ?_; exact TE.cutP data_37 () (he38 _ (Option.some.inj H38).symm).symm (Env.cv (Env.cv (Env.cv (Env.cv (Env.cv (Env.cvBy (Sl_le rfl) (Env.le_nil _))))))) (Less.pk rfl (Less.nil _))
                  · replace H38 := cF H38 hc
                    refine TC.skip ?_; refine TE.then ?_; refine TC.kp [0, 1, 2, 3, 9, 10, 11] [b0] ?_; refine TC.regD2 [0, 0, 0, 0, 0, 0, 0, 0, 0, 2, 0, 0, 0, 2, 0, 1, 0, 1] [b0] mix (by kernel_rfl) (by kernel_rfl) ?_; refine TR2.s OpY.move rfl ?_; refine TR2.s OpY.move rfl ?_; refine TR2.s OpY.move rfl ?_; refine TR2.s OpY.move rfl ?_
                    obtain ⟨x_43, ex_43, H38⟩ := bnd H38
                    refine TR2.s (OpD.sub ex_43) rfl ?_; refine TR2.s OpY.move rfl ?_; refine TR2.s OpY.move rfl ?_
                    obtain ⟨x_44, ex_44, H38⟩ := bnd H38
                    refine TR2.s (OpD.sub ex_44) rfl ?_
                    obtain ⟨x_45, ex_45, H38⟩ := bnd H38
                    refine TR2.s (OpD.indexq (idx_in ex_45 rfl)) rfl ?_; refine TR2.r (fun g => OpG.s (OpD.ldq (Pl.rowz ex_45))) rfl ?_; refine TR2.s OpY.move rfl ?_; refine TR2.s OpY.move rfl ?_
                    obtain ⟨x_46, ex_46, H38⟩ := bnd H38
                    refine TR2.s (OpD.indexq (idx_in ex_46 rfl)) rfl ?_; refine TR2.r (fun g => OpG.s (OpD.ldq (Pl.rowz ex_46))) rfl ?_
                    obtain ⟨x_47, ex_47, H38⟩ := bnd H38
                    refine TR2.s (OpD.indexq (idx_in ex_47 rfl)) rfl ?_; refine TR2.tn (fun Ωr g => (OpT.storeq (y := (x_45 : Prefix)) (Pl.rowz ex_47))) rfl ?_
                    obtain ⟨x_48, ex_48, H38⟩ := bnd H38
                    refine TR2.s (OpD.indexq (idx_in ex_48 (by simp))) rfl ?_; refine TR2.tn (fun Ωr g => (OpT.storeq (y := (x_46 : Prefix)) (Pl.rowz ex_48))) rfl ?_; refine TR2.nil ?_
                    rintro ⟨⟨⟨⟨_, _⟩, _⟩, _⟩, _⟩
                    dsimp only [Fam.nextS, Fam.nextN, Fam.one, List.cons_append, List.nil_append]
                    refine TE.kp [0, 1, 2, 3, 9, 10, 11] [b0] ?_
                    obtain ⟨l_49, el_49, H38⟩ := bnd H38
                    refine TE.nmB b0 (nm_row el_49) ?_; refine TE.see 0 _ (nm_sl2 el_49 (by simp)) ?_; refine TE.inBlock_normal ?_; refine TE.then ?_; refine TC.kp [0, 1, 2, 3, 9, 10, 11] [b0] ?_; refine TC.regionS ?_; refine TS.s OpY.move rfl ?_
                    obtain ⟨x_50, ex_50, H38⟩ := bnd H38
                    refine TS.s (OpD.sub ex_50) rfl ?_; refine TS.s OpY.assign rfl ?_; refine TS.nil ?_; refine TE.kp [0, 1, 2, 3, 9, 10, 11] [b0] ?_; exact TE.backP ⟨x_50, l_49⟩ () (Option.some.inj H38).symm (Env.cv (Env.cv (Env.cv (Env.cv (Env.cv (Env.cv (Env.cvBy (Sl_le rfl) (Env.le_nil _)))))))) (Less.pk rfl (Less.nil _))
                · replace H38 := cF H38 hc
                  refine TC.exit ?_; refine TE.then_exit ?_; refine TE.then_exit ?_; refine TE.inBlock_here ?_; exact TE.cutP data_37 () (he38 _ (Option.some.inj H38).symm).symm (Env.cv (Env.cv (Env.cv (Env.cv (Env.cv (Env.cvBy (Sl_le rfl) (Env.le_nil _))))))) (Less.pk rfl (Less.nil _))
              · replace H33 := cF H33 hc
                refine TC.skip ?_; exact TE.cutP l_31 () (Option.some.inj H33).symm (Env.cv (Env.cv (Env.cv (Env.cv (Env.cv (Env.cvBy (Sl_le rfl) (Env.le_nil _))))))) (Less.pk rfl (Less.nil _))
            rintro data_32 ⟨⟩ hp
            replace hp := hp.symm
            subst hp
            refine TE.then ?_; refine TC.kp [0, 1, 2, 3, 9, 10] [b0] ?_; refine TC.seqS ?_; refine TS.s OpY.move rfl ?_; refine TS.s OpY.move rfl ?_
            obtain ⟨x_51, ex_51, H10⟩ := bnd H10
            refine TS.s (OpD.sub ex_51) rfl ?_; refine TS.s OpY.geq rfl ?_; refine TS.nil ?_; refine TE.then ?_; refine TC.kp [0, 1, 2, 3, 9, 10, 104] [b0] ?_; refine TC.cond (fun hc => ?_) (fun hc => ?_)
            · replace H10 := cT H10 hc
              refine TC.seqS ?_; refine TS.s OpY.move rfl ?_
              obtain ⟨x_52, ex_52, H10⟩ := bnd H10
              refine TS.s (OpD.add ex_52) rfl ?_; refine TS.s OpY.assign rfl ?_; refine TS.nil ?_; refine TE.then ?_; refine TC.kp [0, 1, 2, 3, 9, 10, 12] [b0] ?_
              obtain ⟨o_54, H54, H10⟩ := bnd H10
              refine TC.cutP (fun s : (List Prefix) => o_54 = s) (fun (data_53 : (List Prefix)) (_ : Unit) => (Env.set (Env.set (Env.set (Env.set (Env.set (Env.set Env.nil 0 (Sl b0 p0 0 data_53.length c0)) 1 (D (a0 : Int))) 2 (D (b0x : Int))) 3 (D (cmp0 : (F2 Try.prog Prefix Prefix Int)))) 9 (D (i_11 : Int))) 10 (D (j_5 : Int)))) (fun (data_53 : (List Prefix)) (_ : Unit) => [⟨b0, p0, (Row (data_53 : List Prefix) c0)⟩]) ?_ ?_
              · skip
                refine TC.block ?_; refine TC.loopP H54 (fun ⟨j_55, data_56⟩ (_ : Unit) => (Env.set (Env.set (Env.set (Env.set (Env.set (Env.set (Env.set Env.nil 0 (Sl b0 p0 0 data_56.length c0)) 1 (D (a0 : Int))) 2 (D (b0x : Int))) 3 (D (cmp0 : (F2 Try.prog Prefix Prefix Int)))) 9 (D (i_11 : Int))) 10 (D (j_5 : Int))) 12 (D (j_55 : Int)))) (fun ⟨j_55, data_56⟩ (_ : Unit) => [⟨b0, p0, (Row (data_56 : List Prefix) c0)⟩]) () (Env.cv (Env.cv (Env.cv (Env.cv (Env.cv (Env.cv (Env.cvBy (Sl_le rfl) (Env.le_nil _)))))))) (Less.pk rfl (Less.nil _)) ?_
                rintro ⟨j_55, data_56⟩ ⟨⟩ x_57 H57 he57
                replace H57 : slices_partialInsertionSortCmpFunc_api_Prefix_l4 b0x cmp0 j_55 data_56 = some x_57 := H57
                unfold slices_partialInsertionSortCmpFunc_api_Prefix_l4 at H57
                refine TC.seq ?_; refine TC.seqS ?_; refine TS.s OpY.move rfl ?_; refine TS.s OpY.move rfl ?_; refine TS.s OpY.lss rfl ?_; refine TS.nil ?_; refine TE.then ?_; refine TC.kp [0, 1, 2, 3, 9, 10, 12, 109] [b0] ?_; refine TC.cond (fun hc => ?_) (fun hc => ?_)
                · replace H57 := cT H57 hc
                  refine TC.skip ?_; refine TE.then ?_; refine TC.kp [0, 1, 2, 3, 9, 10, 12] [b0] ?_; refine TC.seq ?_; refine TC.block ?_; refine TC.seq ?_; refine TC.seqD0 mix (by kernel_rfl) ?_; refine TR.s OpY.move rfl ?_; refine TR.s OpY.move rfl ?_; refine TR.s OpY.move rfl ?_
                  obtain ⟨x_58, ex_58, H57⟩ := bnd H57
                  refine TR.s (OpD.indexq (idx_in ex_58 rfl)) rfl ?_; refine TR.s (OpD.ldq (Pl.rowz ex_58)) rfl ?_; refine TR.s OpY.move rfl ?_; refine TR.s OpY.move rfl ?_
                  obtain ⟨x_59, ex_59, H57⟩ := bnd H57
                  refine TR.s (OpD.sub ex_59) rfl ?_
                  obtain ⟨x_60, ex_60, H57⟩ := bnd H57
                  refine TR.s (OpD.indexq (idx_in ex_60 rfl)) rfl ?_; refine TR.s (OpD.ldq (Pl.rowz ex_60)) rfl ?_
                  obtain ⟨x_61, ex_61, H57⟩ := bnd H57
                  refine TR.s (OpY.callV2 ex_61) rfl ?_; refine TR.s OpY.lss rfl ?_; refine TR.s OpY.notB rfl ?_; refine TR.nil ?_; refine TC.kp [0, 1, 2, 3, 9, 10, 12, 124] [b0] ?_; refine TC.cond (fun hc => ?_) (fun hc => ?_)
                  · replace H57 := cT H57 hc
                    refine TC.exit ?_; refine TE.then_exit ?_; refine TE.inBlock_other rfl ?_; refine TE.then_exit ?_; refine TE.then_exit ?_; refine TE.inBlock_here ?_; exact TE.cutP data_56 () (he57 _ (Option.some.inj H57).symm).symm (Env.cv (Env.cv (Env.cv (Env.cv (Env.cv (Env.cvBy (Sl_le rfl) (Env.le_nil _))))))) (Less.pk rfl (Less.nil _))
                  · replace H57 := cF H57 hc
                    refine TC.skip ?_; refine TE.then ?_; refine TC.kp [0, 1, 2, 3, 9, 10, 12] [b0] ?_; refine TC.regD2 [0, 0, 0, 0, 0, 0, 0, 0, 0, 2, 0, 0, 0, 2, 0, 1, 0, 1] [b0] mix (by kernel_rfl) (by kernel_rfl) ?_; refine TR2.s OpY.move rfl ?_; refine TR2.s OpY.move rfl ?_; refine TR2.s OpY.move rfl ?_; refine TR2.s OpY.move rfl ?_
                    obtain ⟨x_62, ex_62, H57⟩ := bnd H57
                    refine TR2.s (OpD.sub ex_62) rfl ?_; refine TR2.s OpY.move rfl ?_; refine TR2.s OpY.move rfl ?_
                    obtain ⟨x_63, ex_63, H57⟩ := bnd H57
                    refine TR2.s (OpD.sub ex_63) rfl ?_
                    obtain ⟨x_64, ex_64, H57⟩ := bnd H57
                    refine TR2.s (OpD.indexq (idx_in ex_64 rfl)) rfl ?_; refine TR2.r (fun g => OpG.s (OpD.ldq (Pl.rowz ex_64))) rfl ?_; refine TR2.s OpY.move rfl ?_; refine TR2.s OpY.move rfl ?_
                    obtain ⟨x_65, ex_65, H57⟩ := bnd H57
                    refine TR2.s (OpD.indexq (idx_in ex_65 rfl)) rfl ?_; refine TR2.r (fun g => OpG.s (OpD.ldq (Pl.rowz ex_65))) rfl ?_
                    obtain ⟨x_66, ex_66, H57⟩ := bnd H57
                    refine TR2.s (OpD.indexq (idx_in ex_66 rfl)) rfl ?_; refine TR2.tn (fun Ωr g => (OpT.storeq (y := (x_64 : Prefix)) (Pl.rowz ex_66))) rfl ?_
                    obtain ⟨x_67, ex_67, H57⟩ := bnd H57
                    refine TR2.s (OpD.indexq (idx_in ex_67 (by simp))) rfl ?_; refine TR2.tn (fun Ωr g => (OpT.storeq (y := (x_65 : Prefix)) (Pl.rowz ex_67))) rfl ?_; refine TR2.nil ?_
                    rintro ⟨⟨⟨⟨_, _⟩, _⟩, _⟩, _⟩
                    dsimp only [Fam.nextS, Fam.nextN, Fam.one, List.cons_append, List.nil_append]
                    refine TE.kp [0, 1, 2, 3, 9, 10, 12] [b0] ?_
                    obtain ⟨l_68, el_68, H57⟩ := bnd H57
                    refine TE.nmB b0 (nm_row el_68) ?_; refine TE.see 0 _ (nm_sl2 el_68 (by simp)) ?_; refine TE.inBlock_normal ?_; refine TE.then ?_; refine TC.kp [0, 1, 2, 3, 9, 10, 12] [b0] ?_; refine TC.regionS ?_; refine TS.s OpY.move rfl ?_
                    obtain ⟨x_69, ex_69, H57⟩ := bnd H57
                    refine TS.s (OpD.add ex_69) rfl ?_; refine TS.s OpY.assign rfl ?_; refine TS.nil ?_; refine TE.kp [0, 1, 2, 3, 9, 10, 12] [b0] ?_; exact TE.backP ⟨x_69, l_68⟩ () (Option.some.inj H57).symm (Env.cv (Env.cv (Env.cv (Env.cv (Env.cv (Env.cv (Env.cvBy (Sl_le rfl) (Env.le_nil _)))))))) (Less.pk rfl (Less.nil _))
                · replace H57 := cF H57 hc
                  refine TC.exit ?_; refine TE.then_exit ?_; refine TE.then_exit ?_; refine TE.inBlock_here ?_; exact TE.cutP data_56 () (he57 _ (Option.some.inj H57).symm).symm (Env.cv (Env.cv (Env.cv (Env.cv (Env.cv (Env.cvBy (Sl_le rfl) (Env.le_nil _))))))) (Less.pk rfl (Less.nil _))
              rintro data_53 ⟨⟩ hp
              replace hp := hp.symm
              subst hp
              refine TE.inBlock_normal ?_; exact TE.cutP ⟨i_11, data_53⟩ () (Option.some.inj H10).symm (Env.cv (Env.cv (Env.cv (Env.cv (Env.cv (Env.cvBy (Sl_le rfl) (Env.le_nil _))))))) (Less.pk rfl (Less.nil _))
            · replace H10 := cF H10 hc
              refine TC.skip ?_; refine TE.inBlock_normal ?_; exact TE.cutP ⟨i_11, data_32⟩ () (Option.some.inj H10).symm (Env.cv (Env.cv (Env.cv (Env.cv (Env.cv (Env.cvBy (Sl_le rfl) (Env.le_nil _))))))) (Less.pk rfl (Less.nil _))
      rintro ⟨i_8, data_9⟩ ⟨⟩ hp
      replace H7 := elS_l hp H7
      replace H7 := el2_mk H7
      refine TE.then ?_; refine TC.kp [0, 1, 2, 3, 9, 10] [b0] ?_; refine TC.regionS ?_; refine TS.s OpY.move rfl ?_
      obtain ⟨x_70, ex_70, H7⟩ := bnd H7
      refine TS.s (OpD.add ex_70) rfl ?_; refine TS.s OpY.assign rfl ?_; refine TS.nil ?_; refine TE.kp [0, 1, 2, 3, 9, 10] [b0] ?_; exact TE.backP ⟨i_8, x_70, data_9⟩ () (Option.some.inj H7).symm (Env.cv (Env.cv (Env.cv (Env.cv (Env.cv (Env.cvBy (Sl_le rfl) (Env.le_nil _))))))) (Less.pk rfl (Less.nil _))
    · replace H7 := cF H7 hc
      refine TC.exit ?_; refine TE.then_exit ?_; refine TE.then_exit ?_; refine TE.inBlock_here ?_; exact TE.cutP data_6 () (he7 _ (Option.some.inj H7).symm).symm (Env.le_nil _) (Less.pk rfl (Less.nil _))
  rintro data_2 ⟨⟩ hp
  replace H := elS_l hp H
  refine TE.then ?_; refine TC.kp [] [b0] ?_; refine TC.seqS ?_; refine TS.s OpY.assign rfl ?_; refine TS.nil ?_; refine TE.then ?_; refine TC.kp [8] [b0] ?_; refine TC.ret ?_
  obtain rfl := (Option.some.inj H)
  exact TE.retO1 rfl () Cv.le (Less.pk rfl (Less.nil _))
def slices_partitionEqualCmpFunc_api_Prefix_l2 (a0 : Int) (cmp0 : (F2 Try.prog Prefix Prefix Int)) (j_12 : Int) (data_13 : (List Prefix)) (i_17 : Int) : Option (Int ⊕ Int) :=
  (gb (decide (i_17 ≤ j_12)) (idx data_13 a0)).bind fun x_19 => (gb (decide (i_17 ≤ j_12)) (idx data_13 i_17)).bind fun x_20 => (gb (decide (i_17 ≤ j_12)) ((cmp0).f x_19 x_20)).bind fun x_21 => bif ((decide (i_17 ≤ j_12)) && (!(decide (x_21 < (0 : Int))))) then ((addI i_17 (1 : Int)).bind fun x_22 => some (.inl x_22)) else (some (.inr i_17))
def slices_partitionEqualCmpFunc_api_Prefix_l3 (a0 : Int) (cmp0 : (F2 Try.prog Prefix Prefix Int)) (data_13 : (List Prefix)) (i_15 : Int) (j_25 : Int) : Option (Int ⊕ Int) :=
  (gb (decide (i_15 ≤ j_25)) (idx data_13 a0)).bind fun x_27 => (gb (decide (i_15 ≤ j_25)) (idx data_13 j_25)).bind fun x_28 => (gb (decide (i_15 ≤ j_25)) ((cmp0).f x_27 x_28)).bind fun x_29 => bif ((decide (i_15 ≤ j_25)) && (decide (x_29 < (0 : Int)))) then ((subI j_25 (1 : Int)).bind fun x_30 => some (.inl x_30)) else (some (.inr j_25))
def slices_partitionEqualCmpFunc_api_Prefix_l1 (a0 : Int) (cmp0 : (F2 Try.prog Prefix Prefix Int)) (i_11 : Int) (j_12 : Int) (data_13 : (List Prefix)) : Option ((Int × Int × (List Prefix)) ⊕ (Int × (List Prefix))) :=
  (loopO (fun s => slices_partitionEqualCmpFunc_api_Prefix_l2 a0 cmp0 j_12 data_13 s) i_11).bind fun i_15 => (loopO (fun s => slices_partitionEqualCmpFunc_api_Prefix_l3 a0 cmp0 data_13 i_15 s) j_12).bind fun j_23 => bif (decide (i_15 > j_23)) then (some (.inr (i_15, data_13))) else ((idx data_13 j_23).bind fun x_31 => (idx data_13 i_15).bind fun x_32 => (idx data_13 i_15).bind fun x_33 => (idx (data_13.set (Int.toNat i_15) x_31) j_23).bind fun x_34 => (some (((data_13.set (Int.toNat i_15) x_31).set (Int.toNat j_23) x_32) : (List Prefix))).bind fun l_35 => (addI i_15 (1 : Int)).bind fun x_36 => (subI j_23 (1 : Int)).bind fun x_37 => some (.inl (x_36, x_37, l_35)))
def slices_partitionEqualCmpFunc_api_Prefix (data0 : (List Prefix)) (a0 : Int) (b0x : Int) (pivot0 : Int) (cmp0 : (F2 Try.prog Prefix Prefix Int)) : Option (Int × (List Prefix)) :=
  (idx data0 pivot0).bind fun x_1 => (idx data0 a0).bind fun x_2 => (idx data0 a0).bind fun x_3 => (idx (data0.set (Int.toNat a0) x_1) pivot0).bind fun x_4 => (some (((data0.set (Int.toNat a0) x_1).set (Int.toNat pivot0) x_2) : (List Prefix))).bind fun l_5 => (addI a0 (1 : Int)).bind fun x_6 => (subI b0x (1 : Int)).bind fun x_7 => (loopO (fun s => slices_partitionEqualCmpFunc_api_Prefix_l1 a0 cmp0 s.1 s.2.1 s.2.2) (x_6, x_7, l_5)).bind fun o_10 => el2 o_10 (fun i_8 data_9 => some (i_8, data_9))
theorem slices_partitionEqualCmpFunc_api_Prefix_o {A : Nat → Prop} {data0 : (List Prefix)} {a0 : Int} {b0x : Int} {pivot0 : Int} {cmp0 : (F2 Try.prog Prefix Prefix Int)} {b0 c0 : Nat} {p0 : Prop} {r : (Int × (List Prefix))} (w : World) (v0 v1 v2 v3 v4 : Value) (hA : ∀ k, w.heap.size ≤ k → A k) (hO : OwnIn A [⟨b0, p0, Row (data0 : List Prefix) c0⟩]) (hap : Apart [⟨b0, p0, Row (data0 : List Prefix) c0⟩]) (hks : Pks (Pub A [⟨b0, p0, Row (data0 : List Prefix) c0⟩]) [⟨b0, p0, Row (data0 : List Prefix) c0⟩] w) (h0 : (Sl b0 p0 0 data0.length c0).p (Pub A [⟨b0, p0, Row (data0 : List Prefix) c0⟩]) w v0) (h1 : (D (a0 : Int)).p (Pub A [⟨b0, p0, Row (data0 : List Prefix) c0⟩]) w v1) (h2 : (D (b0x : Int)).p (Pub A [⟨b0, p0, Row (data0 : List Prefix) c0⟩]) w v2) (h3 : (D (pivot0 : Int)).p (Pub A [⟨b0, p0, Row (data0 : List Prefix) c0⟩]) w v3) (h4 : (D (cmp0 : (F2 Try.prog Prefix Prefix Int))).p (Pub A [⟨b0, p0, Row (data0 : List Prefix) c0⟩]) w v4) (H : slices_partitionEqualCmpFunc_api_Prefix data0 a0 b0x pivot0 cmp0 = some r) :
    Calls Try.prog 57 #[v0, v1, v2, v3, v4] w (RetO A w [⟨b0, p0, Row (data0 : List Prefix) c0⟩] (fun g : Unit => D (r.1 : Int)) fun g => [⟨b0, p0, Row (r.2 : List Prefix) c0⟩]) := by
  unfold slices_partitionEqualCmpFunc_api_Prefix at H
  refine enterO5 hA hap hks Try.func57 rfl Try.ntmps57 rfl h0 h1 h2 h3 h4 ?_; refine TC.seqS ?_; refine TS.s OpY.assign rfl ?_; refine TS.nil ?_; refine TE.then ?_; refine TC.kp [0, 1, 2, 3, 4] [b0] ?_; refine TC.seqD2 [0, 0, 0, 0, 0, 0, 0, 2, 0, 0, 0, 2, 0, 1, 0, 1] [b0] mix (by kernel_rfl) (by kernel_rfl) ?_; refine TR2.s OpY.move rfl ?_; refine TR2.s OpY.move rfl ?_; refine TR2.s OpY.move rfl ?_; refine TR2.s OpY.move rfl ?_; refine TR2.s OpY.move rfl ?_; refine TR2.s OpY.move rfl ?_
  obtain ⟨x_1, ex_1, H⟩ := bnd H
  refine TR2.s (OpD.indexq (idx_in ex_1 rfl)) rfl ?_; refine TR2.r (fun g => OpG.s (OpD.ldq (Pl.rowz ex_1))) rfl ?_; refine TR2.s OpY.move rfl ?_; refine TR2.s OpY.move rfl ?_
  obtain ⟨x_2, ex_2, H⟩ := bnd H
  refine TR2.s (OpD.indexq (idx_in ex_2 rfl)) rfl ?_; refine TR2.r (fun g => OpG.s (OpD.ldq (Pl.rowz ex_2))) rfl ?_
  obtain ⟨x_3, ex_3, H⟩ := bnd H
  refine TR2.s (OpD.indexq (idx_in ex_3 rfl)) rfl ?_; refine TR2.tn (fun Ωr g => (OpT.storeq (y := (x_1 : Prefix)) (Pl.rowz ex_3))) rfl ?_
  obtain ⟨x_4, ex_4, H⟩ := bnd H
  refine TR2.s (OpD.indexq (idx_in ex_4 (by simp))) rfl ?_; refine TR2.tn (fun Ωr g => (OpT.storeq (y := (x_2 : Prefix)) (Pl.rowz ex_4))) rfl ?_; refine TR2.nil ?_
  rintro ⟨⟨⟨⟨_, _⟩, _⟩, _⟩, _⟩
  dsimp only [Fam.nextS, Fam.nextN, Fam.one, List.cons_append, List.nil_append]
  refine TC.kp [0, 1, 2, 4] [b0] ?_
  obtain ⟨l_5, el_5, H⟩ := bnd H
  refine TC.nmB b0 (nm_row el_5) ?_; refine TC.see 0 _ (nm_sl2 el_5 (by simp)) ?_; refine TC.seqS ?_; refine TS.s OpY.move rfl ?_
  obtain ⟨x_6, ex_6, H⟩ := bnd H
  refine TS.s (OpD.add ex_6) rfl ?_; refine TS.s OpY.move rfl ?_
  obtain ⟨x_7, ex_7, H⟩ := bnd H
  refine TS.s (OpD.sub ex_7) rfl ?_; refine TS.s OpY.assign rfl ?_; refine TS.s OpY.assign rfl ?_; refine TS.nil ?_; refine TE.then ?_; refine TC.kp [0, 1, 4, 11, 12] [b0] ?_; refine TC.seq ?_
  obtain ⟨o_10, H10, H⟩ := bnd H
  refine TC.cutP (fun s : (Int × (List Prefix)) => o_10 = s) (fun ⟨i_8, data_9⟩ (_ : Unit) => (Env.set Env.nil 11 (D (i_8 : Int)))) (fun ⟨i_8, data_9⟩ (_ : Unit) => [⟨b0, p0, (Row (data_9 : List Prefix) c0)⟩]) ?_ ?_
  · skip
    refine TC.block ?_; refine TC.loopP H10 (fun ⟨i_11, j_12, data_13⟩ (_ : Unit) => (Env.set (Env.set (Env.set (Env.set (Env.set Env.nil 0 (Sl b0 p0 0 data_13.length c0)) 1 (D (a0 : Int))) 4 (D (cmp0 : (F2 Try.prog Prefix Prefix Int)))) 11 (D (i_11 : Int))) 12 (D (j_12 : Int)))) (fun ⟨i_11, j_12, data_13⟩ (_ : Unit) => [⟨b0, p0, (Row (data_13 : List Prefix) c0)⟩]) () (Env.cv (Env.cv (Env.cv (Env.cv (Env.cvBy (Sl_le rfl) (Env.le_nil _)))))) (Less.pk rfl (Less.nil _)) ?_
    rintro ⟨i_11, j_12, data_13⟩ ⟨⟩ x_14 H14 he14
    replace H14 : slices_partitionEqualCmpFunc_api_Prefix_l1 a0 cmp0 i_11 j_12 data_13 = some x_14 := H14
    unfold slices_partitionEqualCmpFunc_api_Prefix_l1 at H14
    refine TC.block ?_; refine TC.seq ?_
    obtain ⟨o_16, H16, H14⟩ := bnd H14
    refine TC.cutP (fun s : Int => o_16 = s) (fun (i_15 : Int) (_ : Unit) => (Env.set (Env.set (Env.set (Env.set (Env.set Env.nil 0 (Sl b0 p0 0 data_13.length c0)) 1 (D (a0 : Int))) 4 (D (cmp0 : (F2 Try.prog Prefix Prefix Int)))) 11 (D (i_15 : Int))) 12 (D (j_12 : Int)))) (fun (i_15 : Int) (_ : Unit) => [⟨b0, p0, (Row (data_13 : List Prefix) c0)⟩]) ?_ ?_
    · skip
      refine TC.block ?_; refine TC.loopP H16 (fun (i_17 : Int) (_ : Unit) => (Env.set (Env.set (Env.set (Env.set (Env.set Env.nil 0 (Sl b0 p0 0 data_13.length c0)) 1 (D (a0 : Int))) 4 (D (cmp0 : (F2 Try.prog Prefix Prefix Int)))) 11 (D (i_17 : Int))) 12 (D (j_12 : Int)))) (fun (i_17 : Int) (_ : Unit) => [⟨b0, p0, (Row (data_13 : List Prefix) c0)⟩]) () (Env.cv (Env.cv (Env.cv (Env.cv (Env.cvBy (Sl_le rfl) (Env.le_nil _)))))) (Less.pk rfl (Less.nil _)) ?_
      rintro i_17 ⟨⟩ x_18 H18 he18
      replace H18 : slices_partitionEqualCmpFunc_api_Prefix_l2 a0 cmp0 j_12 data_13 i_17 = some x_18 := H18
      unfold slices_partitionEqualCmpFunc_api_Prefix_l2 at H18
      refine TC.seq ?_; refine TC.seqD0 mix (by kernel_rfl) ?_; refine TR.s OpY.move rfl ?_; refine TR.s OpY.move rfl ?_; refine TR.s OpY.leq rfl ?_; refine TR.s OpY.move rfl ?_; refine TR.g 34 rfl (fun hg => OpY.move) rfl ?_; refine TR.g 34 rfl (fun hg => OpY.move) rfl ?_; refine TR.g 34 rfl (fun hg => OpY.move) rfl ?_
      obtain ⟨x_19, ex_19, H18⟩ := bnd H18
      refine TR.g 34 rfl (fun hg => (OpD.indexq (idx_in (gb_some ex_19 hg.h) rfl))) rfl ?_; refine TR.g 34 rfl (fun hg => (OpD.ldq (Pl.rowz (gb_some ex_19 hg.h)))) rfl ?_; refine TR.g 34 rfl (fun hg => OpY.move) rfl ?_; refine TR.g 34 rfl (fun hg => OpY.move) rfl ?_
      obtain ⟨x_20, ex_20, H18⟩ := bnd H18
      refine TR.g 34 rfl (fun hg => (OpD.indexq (idx_in (gb_some ex_20 hg.h) rfl))) rfl ?_; refine TR.g 34 rfl (fun hg => (OpD.ldq (Pl.rowz (gb_some ex_20 hg.h)))) rfl ?_
      obtain ⟨x_21, ex_21, H18⟩ := bnd H18
      refine TR.g 34 rfl (fun hg => (OpY.callV2 (gb_some ex_21 hg.h))) rfl ?_; refine TR.g 34 rfl (fun hg => OpY.lss) rfl ?_; refine TR.g 34 rfl (fun hg => OpY.notB) rfl ?_; refine TR.s OpY.pickAnd rfl ?_; refine TR.nil ?_; refine TC.kp [0, 1, 4, 11, 12, 47] [b0] ?_; refine TC.cond (fun hc => ?_) (fun hc => ?_)
      · replace H18 := cT H18 hc
        refine TC.skip ?_; refine TE.then ?_; refine TC.kp [0, 1, 4, 11, 12] [b0] ?_; refine TC.block ?_; refine TC.regionS ?_; refine TS.s OpY.move rfl ?_
        obtain ⟨x_22, ex_22, H18⟩ := bnd H18
        refine TS.s (OpD.add ex_22) rfl ?_; refine TS.s OpY.assign rfl ?_; refine TS.nil ?_; refine TE.kp [0, 1, 4, 11, 12] [b0] ?_; refine TE.inBlock_normal ?_; exact TE.backP x_22 () (Option.some.inj H18).symm (Env.cv (Env.cv (Env.cv (Env.cv (Env.cvBy (Sl_le rfl) (Env.le_nil _)))))) (Less.pk rfl (Less.nil _))
      · replace H18 := cF H18 hc
        refine TC.exit ?_; refine TE.then_exit ?_; refine TE.then_exit ?_; refine TE.inBlock_here ?_; exact TE.cutP i_17 () (he18 _ (Option.some.inj H18).symm).symm (Env.cv (Env.cv (Env.cv (Env.cv (Env.cvBy (Sl_le rfl) (Env.le_nil _)))))) (Less.pk rfl (Less.nil _))
    rintro i_15 ⟨⟩ hp
    replace hp := hp.symm
    subst hp
    refine TE.then ?_; refine TC.kp [0, 1, 4, 11, 12] [b0] ?_; refine TC.seq ?_
    obtain ⟨o_24, H24, H14⟩ := bnd H14
    refine TC.cutP (fun s : Int => o_24 = s) (fun (j_23 : Int) (_ : Unit) => (Env.set (Env.set (Env.set (Env.set (Env.set Env.nil 0 (Sl b0 p0 0 data_13.length c0)) 1 (D (a0 : Int))) 4 (D (cmp0 : (F2 Try.prog Prefix Prefix Int)))) 11 (D (i_15 : Int))) 12 (D (j_23 : Int)))) (fun (j_23 : Int) (_ : Unit) => [⟨b0, p0, (Row (data_13 : List Prefix) c0)⟩]) ?_ ?_
    · skip
      refine TC.block ?_; refine TC.loopP H24 (fun (j_25 : Int) (_ : Unit) => (Env.set (Env.set (Env.set (Env.set (Env.set Env.nil 0 (Sl b0 p0 0 data_13.length c0)) 1 (D (a0 : Int))) 4 (D (cmp0 : (F2 Try.prog Prefix Prefix Int)))) 11 (D (i_15 : Int))) 12 (D (j_25 : Int)))) (fun (j_25 : Int) (_ : Unit) => [⟨b0, p0, (Row (data_13 : List Prefix) c0)⟩]) () (Env.cv (Env.cv (Env.cv (Env.cv (Env.cvBy (Sl_le rfl) (Env.le_nil _)))))) (Less.pk rfl (Less.nil _)) ?_
      rintro j_25 ⟨⟩ x_26 H26 he26
      replace H26 : slices_partitionEqualCmpFunc_api_Prefix_l3 a0 cmp0 data_13 i_15 j_25 = some x_26 := H26
      unfold slices_partitionEqualCmpFunc_api_Prefix_l3 at H26
      refine TC.seq ?_; refine TC.seqD0 mix (by kernel_rfl) ?_; refine TR.s OpY.move rfl ?_; refine TR.s OpY.move rfl ?_; refine TR.s OpY.leq rfl ?_; refine TR.s OpY.move rfl ?_; refine TR.g 53 rfl (fun hg => OpY.move) rfl ?_; refine TR.g 53 rfl (fun hg => OpY.move) rfl ?_; refine TR.g 53 rfl (fun hg => OpY.move) rfl ?_
      obtain ⟨x_27, ex_27, H26⟩ := bnd H26
      refine TR.g 53 rfl (fun hg => (OpD.indexq (idx_in (gb_some ex_27 hg.h) rfl))) rfl ?_; refine TR.g 53 rfl (fun hg => (OpD.ldq (Pl.rowz (gb_some ex_27 hg.h)))) rfl ?_; refine TR.g 53 rfl (fun hg => OpY.move) rfl ?_; refine TR.g 53 rfl (fun hg => OpY.move) rfl ?_
      obtain ⟨x_28, ex_28, H26⟩ := bnd H26
      refine TR.g 53 rfl (fun hg => (OpD.indexq (idx_in (gb_some ex_28 hg.h) rfl))) rfl ?_; refine TR.g 53 rfl (fun hg => (OpD.ldq (Pl.rowz (gb_some ex_28 hg.h)))) rfl ?_
      obtain ⟨x_29, ex_29, H26⟩ := bnd H26
      refine TR.g 53 rfl (fun hg => (OpY.callV2 (gb_some ex_29 hg.h))) rfl ?_; refine TR.g 53 rfl (fun hg => OpY.lss) rfl ?_; refine TR.s OpY.pickAnd rfl ?_; refine TR.nil ?_; refine TC.kp [0, 1, 4, 11, 12, 65] [b0] ?_; refine TC.cond (fun hc => ?_) (fun hc => ?_)
      · replace H26 := cT H26 hc
        refine TC.skip ?_; refine TE.then ?_; refine TC.kp [0, 1, 4, 11, 12] [b0] ?_; refine TC.block ?_; refine TC.regionS ?_; refine TS.s OpY.move rfl ?_
        obtain ⟨x_30, ex_30, H26⟩ := bnd H26
        refine TS.s (OpD.sub ex_30) rfl ?_; refine TS.s OpY.assign rfl ?_; refine TS.nil ?_; refine TE.kp [0, 1, 4, 11, 12] [b0] ?_; refine TE.inBlock_normal ?_; exact TE.backP x_30 () (Option.some.inj H26).symm (Env.cv (Env.cv (Env.cv (Env.cv (Env.cvBy (Sl_le rfl) (Env.le_nil _)))))) (Less.pk rfl (Less.nil _))
      · replace H26 := cF H26 hc
        refine TC.exit ?_; refine TE.then_exit ?_; refine TE.then_exit ?_; refine TE.inBlock_here ?_; exact TE.cutP j_25 () (he26 _ (Option.some.inj H26).symm).symm (Env.cv (Env.cv (Env.cv (Env.cv (Env.cvBy (Sl_le rfl) (Env.le_nil _)))))) (Less.pk rfl (Less.nil _))
    rintro j_23 ⟨⟩ hp
    replace hp := hp.symm
    subst hp
    refine TE.then ?_; refine TC.kp [0, 1, 4, 11, 12] [b0] ?_; refine TC.seq ?_; refine TC.seqS ?_; refine TS.s OpY.move rfl ?_; refine TS.s OpY.move rfl ?_; refine TS.s OpY.gtr rfl ?_; refine TS.nil ?_; refine TE.then ?_; refine TC.kp [0, 1, 4, 11, 12, 70] [b0] ?_; refine TC.cond (fun hc => ?_) (fun hc => ?_)
    · replace H14 := cT H14 hc
      refine TC.exit ?_; refine TE.then_exit ?_; refine TE.inBlock_other rfl ?_; refine TE.then_exit ?_; refine TE.inBlock_here ?_; exact TE.cutP ⟨i_15, data_13⟩ () (he14 _ (Option.some.inj H14).symm).symm (Env.cv (Env.le_nil _)) (Less.pk rfl (Less.nil _))
    · replace H14 := cF H14 hc
      refine TC.skip ?_; refine TE.then ?_; refine TC.kp [0, 1, 4, 11, 12] [b0] ?_; refine TC.seqD2 [0, 0, 0, 0, 0, 0, 0, 2, 0, 0, 0, 2, 0, 1, 0, 1] [b0] mix (by kernel_rfl) (by kernel_rfl) ?_; refine TR2.s OpY.move rfl ?_; refine TR2.s OpY.move rfl ?_; refine TR2.s OpY.move rfl ?_; refine TR2.s OpY.move rfl ?_; refine TR2.s OpY.move rfl ?_; refine TR2.s OpY.move rfl ?_
      obtain ⟨x_31, ex_31, H14⟩ := bnd H14
      refine TR2.s (OpD.indexq (idx_in ex_31 rfl)) rfl ?_; refine TR2.r (fun g => OpG.s (OpD.ldq (Pl.rowz ex_31))) rfl ?_; refine TR2.s OpY.move rfl ?_; refine TR2.s OpY.move rfl ?_
      obtain ⟨x_32, ex_32, H14⟩ := bnd H14
      refine TR2.s (OpD.indexq (idx_in ex_32 rfl)) rfl ?_; refine TR2.r (fun g => OpG.s (OpD.ldq (Pl.rowz ex_32))) rfl ?_
      obtain ⟨x_33, ex_33, H14⟩ := bnd H14
      refine TR2.s (OpD.indexq (idx_in ex_33 rfl)) rfl ?_; refine TR2.tn (fun Ωr g => (OpT.storeq (y := (x_31 : Prefix)) (Pl.rowz ex_33))) rfl ?_
      obtain ⟨x_34, ex_34, H14⟩ := bnd H14
      refine TR2.s (OpD.indexq (idx_in ex_34 (by simp))) rfl ?_; refine TR2.tn (fun Ωr g => (OpT.storeq (y := (x_32 : Prefix)) (Pl.rowz ex_34))) rfl ?_; refine TR2.nil ?_
      rintro ⟨⟨⟨⟨_, _⟩, _⟩, _⟩, _⟩
      dsimp only [Fam.nextS, Fam.nextN, Fam.one, List.cons_append, List.nil_append]
      refine TC.kp [0, 1, 4, 11, 12] [b0] ?_
      obtain ⟨l_35, el_35, H14⟩ := bnd H14
      refine TC.nmB b0 (nm_row el_35) ?_; refine TC.see 0 _ (nm_sl2 el_35 (by simp)) ?_; refine TC.seqS ?_; refine TS.s OpY.move rfl ?_
      obtain ⟨x_36, ex_36, H14⟩ := bnd H14
      refine TS.s (OpD.add ex_36) rfl ?_; refine TS.s OpY.assign rfl ?_; refine TS.nil ?_; refine TE.then ?_; refine TC.kp [0, 1, 4, 11, 12] [b0] ?_; refine TC.regionS ?_; refine TS.s OpY.move rfl ?_
      obtain ⟨x_37, ex_37, H14⟩ := bnd H14
      refine TS.s (OpD.sub ex_37) rfl ?_; refine TS.s OpY.assign rfl ?_; refine TS.nil ?_; refine TE.kp [0, 1, 4, 11, 12] [b0] ?_; refine TE.inBlock_normal ?_; exact TE.backP ⟨x_36, x_37, l_35⟩ () (Option.some.inj H14).symm (Env.cv (Env.cv (Env.cv (Env.cv (Env.cvBy (Sl_le rfl) (Env.le_nil _)))))) (Less.pk rfl (Less.nil _))
  rintro ⟨i_8, data_9⟩ ⟨⟩ hp
  replace hp := hp.symm
  subst hp
  replace H := el2_mk H
  refine TE.then ?_; refine TC.kp [11] [b0] ?_; refine TC.seqS ?_; refine TS.s OpY.move rfl ?_; refine TS.s OpY.assign rfl ?_; refine TS.nil ?_; refine TE.then ?_; refine TC.kp [10] [b0] ?_; refine TC.ret ?_
  obtain rfl := (Option.some.inj H)
  exact TE.retO1 rfl () Cv.le (Less.pk rfl (Less.nil _))
def slices_partitionCmpFunc_api_Prefix_l1 (a0 : Int) (cmp0 : (F2 Try.prog Prefix Prefix Int)) (l_5 : (List Prefix)) (x_7 : Int) (i_10 : Int) : Option (Int ⊕ Int) :=
  (gb (decide (i_10 ≤ x_7)) (idx l_5 i_10)).bind fun x_12 => (gb (decide (i_10 ≤ x_7)) (idx l_5 a0)).bind fun x_13 => (gb (decide (i_10 ≤ x_7)) ((cmp0).f x_12 x_13)).bind fun x_14 => bif ((decide (i_10 ≤ x_7)) && (decide (x_14 < (0 : Int)))) then ((addI i_10 (1 : Int)).bind fun x_15 => some (.inl x_15)) else (some (.inr i_10))
def slices_partitionCmpFunc_api_Prefix_l2 (a0 : Int) (cmp0 : (F2 Try.prog Prefix Prefix Int)) (l_5 : (List Prefix)) (i_8 : Int) (j_18 : Int) : Option (Int ⊕ Int) :=
  (gb (decide (i_8 ≤ j_18)) (idx l_5 j_18)).bind fun x_20 => (gb (decide (i_8 ≤ j_18)) (idx l_5 a0)).bind fun x_21 => (gb (decide (i_8 ≤ j_18)) ((cmp0).f x_20 x_21)).bind fun x_22 => bif ((decide (i_8 ≤ j_18)) && (!(decide (x_22 < (0 : Int))))) then ((subI j_18 (1 : Int)).bind fun x_23 => some (.inl x_23)) else (some (.inr j_18))
def slices_partitionCmpFunc_api_Prefix_l4 (a0 : Int) (cmp0 : (F2 Try.prog Prefix Prefix Int)) (j_40 : Int) (data_41 : (List Prefix)) (i_45 : Int) : Option (Int ⊕ Int) :=
  (gb (decide (i_45 ≤ j_40)) (idx data_41 i_45)).bind fun x_47 => (gb (decide (i_45 ≤ j_40)) (idx data_41 a0)).bind fun x_48 => (gb (decide (i_45 ≤ j_40)) ((cmp0).f x_47 x_48)).bind fun x_49 => bif ((decide (i_45 ≤ j_40)) && (decide (x_49 < (0 : Int)))) then ((addI i_45 (1 : Int)).bind fun x_50 => some (.inl x_50)) else (some (.inr i_45))
def slices_partitionCmpFunc_api_Prefix_l5 (a0 : Int) (cmp0 : (F2 Try.prog Prefix Prefix Int)) (data_41 : (List Prefix)) (i_43 : Int) (j_53 : Int) : Option (Int ⊕ Int) :=
  (gb (decide (i_43 ≤ j_53)) (idx data_41 j_53)).bind fun x_55 => (gb (decide (i_43 ≤ j_53)) (idx data_41 a0)).bind fun x_56 => (gb (decide (i_43 ≤ j_53)) ((cmp0).f x_55 x_56)).bind fun x_57 => bif ((decide (i_43 ≤ j_53)) && (!(decide (x_57 < (0 : Int))))) then ((subI j_53 (1 : Int)).bind fun x_58 => some (.inl x_58)) else (some (.inr j_53))
def slices_partitionCmpFunc_api_Prefix_l3 (a0 : Int) (cmp0 : (F2 Try.prog Prefix Prefix Int)) (i_39 : Int) (j_40 : Int) (data_41 : (List Prefix)) : Option ((Int × Int × (List Prefix)) ⊕ (Int × (List Prefix))) :=
  (loopO (fun s => slices_partitionCmpFunc_api_Prefix_l4 a0 cmp0 j_40 data_41 s) i_39).bind fun i_43 => (loopO (fun s => slices_partitionCmpFunc_api_Prefix_l5 a0 cmp0 data_41 i_43 s) j_40).bind fun j_51 => bif (decide (i_43 > j_51)) then (some (.inr (j_51, data_41))) else ((idx data_41 j_51).bind fun x_59 => (idx data_41 i_43).bind fun x_60 => (idx data_41 i_43).bind fun x_61 => (idx (data_41.set (Int.toNat i_43) x_59) j_51).bind fun x_62 => (some (((data_41.set (Int.toNat i_43) x_59).set (Int.toNat j_51) x_60) : (List Prefix))).bind fun l_63 => (addI i_43 (1 : Int)).bind fun x_64 => (subI j_51 (1 : Int)).bind fun x_65 => some (.inl (x_64, x_65, l_63)))
def slices_partitionCmpFunc_api_Prefix (data0 : (List Prefix)) (a0 : Int) (b0x : Int) (pivot0 : Int) (cmp0 : (F2 Try.prog Prefix Prefix Int)) : Option (Int × Bool × (List Prefix)) :=
  (idx data0 pivot0).bind fun x_1 => (idx data0 a0).bind fun x_2 => (idx data0 a0).bind fun x_3 => (idx (data0.set (Int.toNat a0) x_1) pivot0).bind fun x_4 => (some (((data0.set (Int.toNat a0) x_1).set (Int.toNat pivot0) x_2) : (List Prefix))).bind fun l_5 => (addI a0 (1 : Int)).bind fun x_6 => (subI b0x (1 : Int)).bind fun x_7 => (loopO (fun s => slices_partitionCmpFunc_api_Prefix_l1 a0 cmp0 l_5 x_7 s) x_6).bind fun i_8 => (loopO (fun s => slices_partitionCmpFunc_api_Prefix_l2 a0 cmp0 l_5 i_8 s) x_7).bind fun j_16 => bif (decide (i_8 > j_16)) then ((idx l_5 a0).bind fun x_24 => (idx l_5 j_16).bind fun x_25 => (idx l_5 j_16).bind fun x_26 => (idx (l_5.set (Int.toNat j_16) x_24) a0).bind fun x_27 => (some (((l_5.set (Int.toNat j_16) x_24).set (Int.toNat a0) x_25) : (List Prefix))).bind fun l_28 => some (j_16, true, l_28)) else ((idx l_5 j_16).bind fun x_29 => (idx l_5 i_8).bind fun x_30 => (idx l_5 i_8).bind fun x_31 => (idx (l_5.set (Int.toNat i_8) x_29) j_16).bind fun x_32 => (some (((l_5.set (Int.toNat i_8) x_29).set (Int.toNat j_16) x_30) : (List Prefix))).bind fun l_33 => (addI i_8 (1 : Int)).bind fun x_34 => (subI j_16 (1 : Int)).bind fun x_35 => (loopO (fun s => slices_partitionCmpFunc_api_Prefix_l3 a0 cmp0 s.1 s.2.1 s.2.2) (x_34, x_35, l_33)).bind fun o_38 => el2 o_38 (fun j_36 data_37 => (idx data_37 a0).bind fun x_66 => (idx data_37 j_36).bind fun x_67 => (idx data_37 j_36).bind fun x_68 => (idx (data_37.set (Int.toNat j_36) x_66) a0).bind fun x_69 => (some (((data_37.set (Int.toNat j_36) x_66).set (Int.toNat a0) x_67) : (List Prefix))).bind fun l_70 => some (j_36, false, l_70)))
theorem slices_partitionCmpFunc_api_Prefix_o {A : Nat → Prop} {data0 : (List Prefix)} {a0 : Int} {b0x : Int} {pivot0 : Int} {cmp0 : (F2 Try.prog Prefix Prefix Int)} {b0 c0 : Nat} {p0 : Prop} {r : (Int × Bool × (List Prefix))} (w : World) (v0 v1 v2 v3 v4 : Value) (hA : ∀ k, w.heap.size ≤ k → A k) (hO : OwnIn A [⟨b0, p0, Row (data0 : List Prefix) c0⟩]) (hap : Apart [⟨b0, p0, Row (data0 : List Prefix) c0⟩]) (hks : Pks (Pub A [⟨b0, p0, Row (data0 : List Prefix) c0⟩]) [⟨b0, p0, Row (data0 : List Prefix) c0⟩] w) (h0 : (Sl b0 p0 0 data0.length c0).p (Pub A [⟨b0, p0, Row (data0 : List Prefix) c0⟩]) w v0) (h1 : (D (a0 : Int)).p (Pub A [⟨b0, p0, Row (data0 : List Prefix) c0⟩]) w v1) (h2 : (D (b0x : Int)).p (Pub A [⟨b0, p0, Row (data0 : List Prefix) c0⟩]) w v2) (h3 : (D (pivot0 : Int)).p (Pub A [⟨b0, p0, Row (data0 : List Prefix) c0⟩]) w v3) (h4 : (D (cmp0 : (F2 Try.prog Prefix Prefix Int))).p (Pub A [⟨b0, p0, Row (data0 : List Prefix) c0⟩]) w v4) (H : slices_partitionCmpFunc_api_Prefix data0 a0 b0x pivot0 cmp0 = some r) :
    Calls Try.prog 58 #[v0, v1, v2, v3, v4] w (RetO A w [⟨b0, p0, Row (data0 : List Prefix) c0⟩] (fun g : Unit => Tup [D (r.1 : Int), D (r.2.1 : Bool)]) fun g => [⟨b0, p0, Row (r.2.2 : List Prefix) c0⟩]) := by
  unfold slices_partitionCmpFunc_api_Prefix at H
  refine enterO5 hA hap hks Try.func58 rfl Try.ntmps58 rfl h0 h1 h2 h3 h4 ?_; refine TC.seqS ?_; refine TS.s OpY.assign rfl ?_; refine TS.s OpY.assign rfl ?_; refine TS.nil ?_; refine TE.then ?_; refine TC.kp [0, 1, 2, 3, 4] [b0] ?_; refine TC.seqD2 [0, 0, 0, 0, 0, 0, 0, 2, 0, 0, 0, 2, 0, 1, 0, 1] [b0] mix (by kernel_rfl) (by kernel_rfl) ?_; refine TR2.s OpY.move rfl ?_; refine TR2.s OpY.move rfl ?_; refine TR2.s OpY.move rfl ?_; refine TR2.s OpY.move rfl ?_; refine TR2.s OpY.move rfl ?_; refine TR2.s OpY.move rfl ?_
  obtain ⟨x_1, ex_1, H⟩ := bnd H
  refine TR2.s (OpD.indexq (idx_in ex_1 rfl)) rfl ?_; refine TR2.r (fun g => OpG.s (OpD.ldq (Pl.rowz ex_1))) rfl ?_; refine TR2.s OpY.move rfl ?_; refine TR2.s OpY.move rfl ?_
  obtain ⟨x_2, ex_2, H⟩ := bnd H
  refine TR2.s (OpD.indexq (idx_in ex_2 rfl)) rfl ?_; refine TR2.r (fun g => OpG.s (OpD.ldq (Pl.rowz ex_2))) rfl ?_
  obtain ⟨x_3, ex_3, H⟩ := bnd H
  refine TR2.s (OpD.indexq (idx_in ex_3 rfl)) rfl ?_; refine TR2.tn (fun Ωr g => (OpT.storeq (y := (x_1 : Prefix)) (Pl.rowz ex_3))) rfl ?_
  obtain ⟨x_4, ex_4, H⟩ := bnd H
  refine TR2.s (OpD.indexq (idx_in ex_4 (by simp))) rfl ?_; refine TR2.tn (fun Ωr g => (OpT.storeq (y := (x_2 : Prefix)) (Pl.rowz ex_4))) rfl ?_; refine TR2.nil ?_
  rintro ⟨⟨⟨⟨_, _⟩, _⟩, _⟩, _⟩
  dsimp only [Fam.nextS, Fam.nextN, Fam.one, List.cons_append, List.nil_append]
  refine TC.kp [0, 1, 2, 4] [b0] ?_
  obtain ⟨l_5, el_5, H⟩ := bnd H
  refine TC.nmB b0 (nm_row el_5) ?_; refine TC.see 0 _ (nm_sl2 el_5 (by simp)) ?_; refine TC.seqS ?_; refine TS.s OpY.move rfl ?_
  obtain ⟨x_6, ex_6, H⟩ := bnd H
  refine TS.s (OpD.add ex_6) rfl ?_; refine TS.s OpY.move rfl ?_
  obtain ⟨x_7, ex_7, H⟩ := bnd H
  refine TS.s (OpD.sub ex_7) rfl ?_; refine TS.s OpY.assign rfl ?_; refine TS.s OpY.assign rfl ?_; refine TS.nil ?_; refine TE.then ?_; refine TC.kp [0, 1, 4, 12, 13] [b0] ?_; refine TC.seq ?_
  obtain ⟨o_9, H9, H⟩ := bnd H
  refine TC.cutP (fun s : Int => o_9 = s) (fun (i_8 : Int) (_ : Unit) => (Env.set (Env.set (Env.set (Env.set (Env.set Env.nil 0 (Sl b0 p0 0 l_5.length c0)) 1 (D (a0 : Int))) 4 (D (cmp0 : (F2 Try.prog Prefix Prefix Int)))) 12 (D (i_8 : Int))) 13 (D (x_7 : Int)))) (fun (i_8 : Int) (_ : Unit) => [⟨b0, p0, (Row (l_5 : List Prefix) c0)⟩]) ?_ ?_
  · skip
    refine TC.block ?_; refine TC.loopP H9 (fun (i_10 : Int) (_ : Unit) => (Env.set (Env.set (Env.set (Env.set (Env.set Env.nil 0 (Sl b0 p0 0 l_5.length c0)) 1 (D (a0 : Int))) 4 (D (cmp0 : (F2 Try.prog Prefix Prefix Int)))) 12 (D (i_10 : Int))) 13 (D (x_7 : Int)))) (fun (i_10 : Int) (_ : Unit) => [⟨b0, p0, (Row (l_5 : List Prefix) c0)⟩]) () (Env.cv (Env.cv (Env.cv (Env.cv (Env.cvBy (Sl_le rfl) (Env.le_nil _)))))) (Less.pk rfl (Less.nil _)) ?_
    rintro i_10 ⟨⟩ x_11 H11 he11
    replace H11 : slices_partitionCmpFunc_api_Prefix_l1 a0 cmp0 l_5 x_7 i_10 = some x_11 := H11
    unfold slices_partitionCmpFunc_api_Prefix_l1 at H11
    refine TC.seq ?_; refine TC.seqD0 mix (by kernel_rfl) ?_; refine TR.s OpY.move rfl ?_; refine TR.s OpY.move rfl ?_; refine TR.s OpY.leq rfl ?_; refine TR.s OpY.move rfl ?_; refine TR.g 35 rfl (fun hg => OpY.move) rfl ?_; refine TR.g 35 rfl (fun hg => OpY.move) rfl ?_; refine TR.g 35 rfl (fun hg => OpY.move) rfl ?_
    obtain ⟨x_12, ex_12, H11⟩ := bnd H11
    refine TR.g 35 rfl (fun hg => (OpD.indexq (idx_in (gb_some ex_12 hg.h) rfl))) rfl ?_; refine TR.g 35 rfl (fun hg => (OpD.ldq (Pl.rowz (gb_some ex_12 hg.h)))) rfl ?_; refine TR.g 35 rfl (fun hg => OpY.move) rfl ?_; refine TR.g 35 rfl (fun hg => OpY.move) rfl ?_
    obtain ⟨x_13, ex_13, H11⟩ := bnd H11
    refine TR.g 35 rfl (fun hg => (OpD.indexq (idx_in (gb_some ex_13 hg.h) rfl))) rfl ?_; refine TR.g 35 rfl (fun hg => (OpD.ldq (Pl.rowz (gb_some ex_13 hg.h)))) rfl ?_
    obtain ⟨x_14, ex_14, H11⟩ := bnd H11
    refine TR.g 35 rfl (fun hg => (OpY.callV2 (gb_some ex_14 hg.h))) rfl ?_; refine TR.g 35 rfl (fun hg => OpY.lss) rfl ?_; refine TR.s OpY.pickAnd rfl ?_; refine TR.nil ?_; refine TC.kp [0, 1, 4, 12, 13, 47] [b0] ?_; refine TC.cond (fun hc => ?_) (fun hc => ?_)
    · replace H11 := cT H11 hc
      refine TC.skip ?_; refine TE.then ?_; refine TC.kp [0, 1, 4, 12, 13] [b0] ?_; refine TC.block ?_; refine TC.regionS ?_; refine TS.s OpY.move rfl ?_
      obtain ⟨x_15, ex_15, H11⟩ := bnd H11
      refine TS.s (OpD.add ex_15) rfl ?_; refine TS.s OpY.assign rfl ?_; refine TS.nil ?_; refine TE.kp [0, 1, 4, 12, 13] [b0] ?_; refine TE.inBlock_normal ?_; exact TE.backP x_15 () (Option.some.inj H11).symm (Env.cv (Env.cv (Env.cv (Env.cv (Env.cvBy (Sl_le rfl) (Env.le_nil _)))))) (Less.pk rfl (Less.nil _))
    · replace H11 := cF H11 hc
      refine TC.exit ?_; refine TE.then_exit ?_; refine TE.then_exit ?_; refine TE.inBlock_here ?_; exact TE.cutP i_10 () (he11 _ (Option.some.inj H11).symm).symm (Env.cv (Env.cv (Env.cv (Env.cv (Env.cvBy (Sl_le rfl) (Env.le_nil _)))))) (Less.pk rfl (Less.nil _))
  rintro i_8 ⟨⟩ hp
  replace hp := hp.symm
  subst hp
  refine TE.then ?_; refine TC.kp [0, 1, 4, 12, 13] [b0] ?_; refine TC.seq ?_
  obtain ⟨o_17, H17, H⟩ := bnd H
  refine TC.cutP (fun s : Int => o_17 = s) (fun (j_16 : Int) (_ : Unit) => (Env.set (Env.set (Env.set (Env.set (Env.set Env.nil 0 (Sl b0 p0 0 l_5.length c0)) 1 (D (a0 : Int))) 4 (D (cmp0 : (F2 Try.prog Prefix Prefix Int)))) 12 (D (i_8 : Int))) 13 (D (j_16 : Int)))) (fun (j_16 : Int) (_ : Unit) => [⟨b0, p0, (Row (l_5 : List Prefix) c0)⟩]) ?_ ?_
  · skip
    refine TC.block ?_; refine TC.loopP H17 (fun (j_18 : Int) (_ : Unit) => (Env.set (Env.set (Env.set (Env.set (Env.set Env.nil 0 (Sl b0 p0 0 l_5.length c0)) 1 (D (a0 : Int))) 4 (D (cmp0 : (F2 Try.prog Prefix Prefix Int)))) 12 (D (i_8 : Int))) 13 (D (j_18 : Int)))) (fun (j_18 : Int) (_ : Unit) => [⟨b0, p0, (Row (l_5 : List Prefix) c0)⟩]) () (Env.cv (Env.cv (Env.cv (Env.cv (Env.cvBy (Sl_le rfl) (Env.le_nil _)))))) (Less.pk rfl (Less.nil _)) ?_
    rintro j_18 ⟨⟩ x_19 H19 he19
    replace H19 : slices_partitionCmpFunc_api_Prefix_l2 a0 cmp0 l_5 i_8 j_18 = some x_19 := H19
    unfold slices_partitionCmpFunc_api_Prefix_l2 at H19
    refine TC.seq ?_; refine TC.seqD0 mix (by kernel_rfl) ?_; refine TR.s OpY.move rfl ?_; refine TR.s OpY.move rfl ?_; refine TR.s OpY.leq rfl ?_; refine TR.s OpY.move rfl ?_; refine TR.g 53 rfl (fun hg => OpY.move) rfl ?_; refine TR.g 53 rfl (fun hg => OpY.move) rfl ?_; refine TR.g 53 rfl (fun hg => OpY.move) rfl ?_
    obtain ⟨x_20, ex_20, H19⟩ := bnd H19
    refine TR.g 53 rfl (fun hg => (OpD.indexq (idx_in (gb_some ex_20 hg.h) rfl))) rfl ?_; refine TR.g 53 rfl (fun hg => (OpD.ldq (Pl.rowz (gb_some ex_20 hg.h)))) rfl ?_; refine TR.g 53 rfl (fun hg => OpY.move) rfl ?_; refine TR.g 53 rfl (fun hg => OpY.move) rfl ?_
    obtain ⟨x_21, ex_21, H19⟩ := bnd H19
    refine TR.g 53 rfl (fun hg => (OpD.indexq (idx_in (gb_some ex_21 hg.h) rfl))) rfl ?_; refine TR.g 53 rfl (fun hg => (OpD.ldq (Pl.rowz (gb_some ex_21 hg.h)))) rfl ?_
    obtain ⟨x_22, ex_22, H19⟩ := bnd H19
    refine TR.g 53 rfl (fun hg => (OpY.callV2 (gb_some ex_22 hg.h))) rfl ?_; refine TR.g 53 rfl (fun hg => OpY.lss) rfl ?_; refine TR.g 53 rfl (fun hg => OpY.notB) rfl ?_; refine TR.s OpY.pickAnd rfl ?_; refine TR.nil ?_; refine TC.kp [0, 1, 4, 12, 13, 66] [b0] ?_; refine TC.cond (fun hc => ?_) (fun hc => ?_)
    · replace H19 := cT H19 hc
      refine TC.skip ?_; refine TE.then ?_; refine TC.kp [0, 1, 4, 12, 13] [b0] ?_; refine TC.block ?_; refine TC.regionS ?_; refine TS.s OpY.move rfl ?_
      obtain ⟨x_23, ex_23, H19⟩ := bnd H19
      refine TS.s (OpD.sub ex_23) rfl ?_; refine TS.s OpY.assign rfl ?_; refine TS.nil ?_; refine TE.kp [0, 1, 4, 12, 13] [b0] ?_; refine TE.inBlock_normal ?_; exact TE.backP x_23 () (Option.some.inj H19).symm (Env.cv (Env.cv (Env.cv (Env.cv (Env.cvBy (Sl_le rfl) (Env.le_nil _)))))) (Less.pk rfl (Less.nil _))
    · replace H19 := cF H19 hc
      refine TC.exit ?_; refine TE.then_exit ?_; refine TE.then_exit ?_; refine TE.inBlock_here ?_; exact TE.cutP j_18 () (he19 _ (Option.some.inj H19).symm).symm (Env.cv (Env.cv (Env.cv (Env.cv (Env.cvBy (Sl_le rfl) (Env.le_nil _)))))) (Less.pk rfl (Less.nil _))
  rintro j_16 ⟨⟩ hp
  replace hp := hp.symm
  subst hp
  refine TE.then ?_; refine TC.kp [0, 1, 4, 12, 13] [b0] ?_; refine TC.seq ?_; refine TC.seqS ?_; refine TS.s OpY.move rfl ?_; refine TS.s OpY.move rfl ?_; refine TS.s OpY.gtr rfl ?_; refine TS.nil ?_; refine TE.then ?_; refine TC.kp [0, 1, 4, 12, 13, 71] [b0] ?_; refine TC.cond (fun hc => ?_) (fun hc => ?_)
  · replace H := cT H hc
    refine TC.seqD2 [0, 0, 0, 0, 0, 0, 0, 2, 0, 0, 0, 2, 0, 1, 0, 1] [b0] mix (by kernel_rfl) (by kernel_rfl) ?_; refine TR2.s OpY.move rfl ?_; refine TR2.s OpY.move rfl ?_; refine TR2.s OpY.move rfl ?_; refine TR2.s OpY.move rfl ?_; refine TR2.s OpY.move rfl ?_; refine TR2.s OpY.move rfl ?_
    obtain ⟨x_24, ex_24, H⟩ := bnd H
    refine TR2.s (OpD.indexq (idx_in ex_24 rfl)) rfl ?_; refine TR2.r (fun g => OpG.s (OpD.ldq (Pl.rowz ex_24))) rfl ?_; refine TR2.s OpY.move rfl ?_; refine TR2.s OpY.move rfl ?_
    obtain ⟨x_25, ex_25, H⟩ := bnd H
    refine TR2.s (OpD.indexq (idx_in ex_25 rfl)) rfl ?_; refine TR2.r (fun g => OpG.s (OpD.ldq (Pl.rowz ex_25))) rfl ?_
    obtain ⟨x_26, ex_26, H⟩ := bnd H
    refine TR2.s (OpD.indexq (idx_in ex_26 rfl)) rfl ?_; refine TR2.tn (fun Ωr g => (OpT.storeq (y := (x_24 : Prefix)) (Pl.rowz ex_26))) rfl ?_
    obtain ⟨x_27, ex_27, H⟩ := bnd H
    refine TR2.s (OpD.indexq (idx_in ex_27 (by simp))) rfl ?_; refine TR2.tn (fun Ωr g => (OpT.storeq (y := (x_25 : Prefix)) (Pl.rowz ex_27))) rfl ?_; refine TR2.nil ?_
    rintro ⟨⟨⟨⟨_, _⟩, _⟩, _⟩, _⟩
    dsimp only [Fam.nextS, Fam.nextN, Fam.one, List.cons_append, List.nil_append]
    refine TC.kp [13] [b0] ?_
    obtain ⟨l_28, el_28, H⟩ := bnd H
    refine TC.nmB b0 (nm_row el_28) ?_; refine TC.seqS ?_; refine TS.s OpY.move rfl ?_; refine TS.s OpY.assign rfl ?_; refine TS.s OpY.assign rfl ?_; refine TS.nil ?_; refine TE.then ?_; refine TC.kp [10, 11] [b0] ?_; refine TC.ret ?_; refine TE.then_ret ?_
    obtain rfl := (Option.some.inj H)
    exact TE.retON rfl rfl () (.cons Cv.le (.cons Cv.le .nil)) (Less.pk rfl (Less.nil _))
  · replace H := cF H hc
    refine TC.skip ?_; refine TE.then ?_; refine TC.kp [0, 1, 4, 12, 13] [b0] ?_; refine TC.seqD2 [0, 0, 0, 0, 0, 0, 0, 2, 0, 0, 0, 2, 0, 1, 0, 1] [b0] mix (by kernel_rfl) (by kernel_rfl) ?_; refine TR2.s OpY.move rfl ?_; refine TR2.s OpY.move rfl ?_; refine TR2.s OpY.move rfl ?_; refine TR2.s OpY.move rfl ?_; refine TR2.s OpY.move rfl ?_; refine TR2.s OpY.move rfl ?_
    obtain ⟨x_29, ex_29, H⟩ := bnd H
    refine TR2.s (OpD.indexq (idx_in ex_29 rfl)) rfl ?_; refine TR2.r (fun g => OpG.s (OpD.ldq (Pl.rowz ex_29))) rfl ?_; refine TR2.s OpY.move rfl ?_; refine TR2.s OpY.move rfl ?_
    obtain ⟨x_30, ex_30, H⟩ := bnd H
    refine TR2.s (OpD.indexq (idx_in ex_30 rfl)) rfl ?_; refine TR2.r (fun g => OpG.s (OpD.ldq (Pl.rowz ex_30))) rfl ?_
    obtain ⟨x_31, ex_31, H⟩ := bnd H
    refine TR2.s (OpD.indexq (idx_in ex_31 rfl)) rfl ?_; refine TR2.tn (fun Ωr g => (OpT.storeq (y := (x_29 : Prefix)) (Pl.rowz ex_31))) rfl ?_
    obtain ⟨x_32, ex_32, H⟩ := bnd H
    refine TR2.s (OpD.indexq (idx_in ex_32 (by simp))) rfl ?_; refine TR2.tn (fun Ωr g => (OpT.storeq (y := (x_30 : Prefix)) (Pl.rowz ex_32))) rfl ?_; refine TR2.nil ?_
    rintro ⟨⟨⟨⟨_, _⟩, _⟩, _⟩, _⟩
    dsimp only [Fam.nextS, Fam.nextN, Fam.one, List.cons_append, List.nil_append]
    refine TC.kp [0, 1, 4, 12, 13] [b0] ?_
    obtain ⟨l_33, el_33, H⟩ := bnd H
    refine TC.nmB b0 (nm_row el_33) ?_; refine TC.see 0 _ (nm_sl2 el_33 (by simp)) ?_; refine TC.seqS ?_; refine TS.s OpY.move rfl ?_
    obtain ⟨x_34, ex_34, H⟩ := bnd H
    refine TS.s (OpD.add ex_34) rfl ?_; refine TS.s OpY.assign rfl ?_; refine TS.nil ?_; refine TE.then ?_; refine TC.kp [0, 1, 4, 12, 13] [b0] ?_; refine TC.seqS ?_; refine TS.s OpY.move rfl ?_
    obtain ⟨x_35, ex_35, H⟩ := bnd H
    refine TS.s (OpD.sub ex_35) rfl ?_; refine TS.s OpY.assign rfl ?_; refine TS.nil ?_; refine TE.then ?_; refine TC.kp [0, 1, 4, 12, 13] [b0] ?_; refine TC.seq ?_
    obtain ⟨o_38, H38, H⟩ := bnd H
    refine TC.cutP (fun s : (Int × (List Prefix)) => o_38 = s) (fun ⟨j_36, data_37⟩ (_ : Unit) => (Env.set (Env.set (Env.set Env.nil 0 (Sl b0 p0 0 data_37.length c0)) 1 (D (a0 : Int))) 13 (D (j_36 : Int)))) (fun ⟨j_36, data_37⟩ (_ : Unit) => [⟨b0, p0, (Row (data_37 : List Prefix) c0)⟩]) ?_ ?_
    · skip
      refine TC.block ?_; refine TC.loopP H38 (fun ⟨i_39, j_40, data_41⟩ (_ : Unit) => (Env.set (Env.set (Env.set (Env.set (Env.set Env.nil 0 (Sl b0 p0 0 data_41.length c0)) 1 (D (a0 : Int))) 4 (D (cmp0 : (F2 Try.prog Prefix Prefix Int)))) 12 (D (i_39 : Int))) 13 (D (j_40 : Int)))) (fun ⟨i_39, j_40, data_41⟩ (_ : Unit) => [⟨b0, p0, (Row (data_41 : List Prefix) c0)⟩]) () (Env.cv (Env.cv (Env.cv (Env.cv (Env.cvBy (Sl_le rfl) (Env.le_nil _)))))) (Less.pk rfl (Less.nil _)) ?_
      rintro ⟨i_39, j_40, data_41⟩ ⟨⟩ x_42 H42 he42
      replace H42 : slices_partitionCmpFunc_api_Prefix_l3 a0 cmp0 i_39 j_40 data_41 = some x_42 := H42
      unfold slices_partitionCmpFunc_api_Prefix_l3 at H42
      refine TC.block ?_; refine TC.seq ?_
      obtain ⟨o_44, H44, H42⟩ := bnd H42
      refine TC.cutP (fun s : Int => o_44 = s) (fun (i_43 : Int) (_ : Unit) => (Env.set (Env.set (Env.set (Env.set (Env.set Env.nil 0 (Sl b0 p0 0 data_41.length c0)) 1 (D (a0 : Int))) 4 (D (cmp0 : (F2 Try.prog Prefix Prefix Int)))) 12 (D (i_43 : Int))) 13 (D (j_40 : Int)))) (fun (i_43 : Int) (_ : Unit) => [⟨b0, p0, (Row (data_41 : List Prefix) c0)⟩]) ?_ ?_
      · skip
        refine TC.block ?_; refine TC.loopP H44 (fun (i_45 : Int) (_ : Unit) => (Env.set (Env.set (Env.set (Env.set (Env.set Env.nil 0 (Sl b0 p0 0 data_41.length c0)) 1 (D (a0 : Int))) 4 (D (cmp0 : (F2 Try.prog Prefix Prefix Int)))) 12 (D (i_45 : Int))) 13 (D (j_40 : Int)))) (fun (i_45 : Int) (_ : Unit) => [⟨b0, p0, (Row (data_41 : List Prefix) c0)⟩]) () (Env.cv (Env.cv (Env.cv (Env.cv (Env.cvBy (Sl_le rfl) (Env.le_nil _)))))) (Less.pk rfl (Less.nil _)) ?_
        rintro i_45 ⟨⟩ x_46 H46 he46
        replace H46 : slices_partitionCmpFunc_api_Prefix_l4 a0 cmp0 j_40 data_41 i_45 = some x_46 := H46
        unfold slices_partitionCmpFunc_api_Prefix_l4 at H46
        refine TC.seq ?_; refine TC.seqD0 mix (by kernel_rfl) ?_; refine TR.s OpY.move rfl ?_; refine TR.s OpY.move rfl ?_; refine TR.s OpY.leq rfl ?_; refine TR.s OpY.move rfl ?_; refine TR.g 108 rfl (fun hg => OpY.move) rfl ?_; refine TR.g 108 rfl (fun hg => OpY.move) rfl ?_; refine TR.g 108 rfl (fun hg => OpY.move) rfl ?_
        obtain ⟨x_47, ex_47, H46⟩ := bnd H46
        refine TR.g 108 rfl (fun hg => (OpD.indexq (idx_in (gb_some ex_47 hg.h) rfl))) rfl ?_; refine TR.g 108 rfl (fun hg => (OpD.ldq (Pl.rowz (gb_some ex_47 hg.h)))) rfl ?_; refine TR.g 108 rfl (fun hg => OpY.move) rfl ?_; refine TR.g 108 rfl (fun hg => OpY.move) rfl ?_
        obtain ⟨x_48, ex_48, H46⟩ := bnd H46
        refine TR.g 108 rfl (fun hg => (OpD.indexq (idx_in (gb_some ex_48 hg.h) rfl))) rfl ?_; refine TR.g 108 rfl (fun hg => (OpD.ldq (Pl.rowz (gb_some ex_48 hg.h)))) rfl ?_
        obtain ⟨x_49, ex_49, H46⟩ := bnd H46
        refine TR.g 108 rfl (fun hg => (OpY.callV2 (gb_some ex_49 hg.h))) rfl ?_; refine TR.g 108 rfl (fun hg => OpY.lss) rfl ?_; refine TR.s OpY.pickAnd rfl ?_; refine TR.nil ?_; refine TC.kp [0, 1, 4, 12, 13, 120] [b0] ?_; refine TC.cond (fun hc => ?_) (fun hc => ?_)
        · replace H46 := cT H46 hc
          refine TC.skip ?_; refine TE.then ?_; refine TC.kp [0, 1, 4, 12, 13] [b0] ?_; refine TC.block ?_; refine TC.regionS ?_; refine TS.s OpY.move rfl ?_
          obtain ⟨x_50, ex_50, H46⟩ := bnd H46
          refine TS.s (OpD.add ex_50) rfl ?_; refine TS.s OpY.assign rfl ?_; refine TS.nil ?_; refine TE.kp [0, 1, 4, 12, 13] [b0] ?_; refine TE.inBlock_normal ?_; exact TE.backP x_50 () (Option.some.inj H46).symm (Env.cv (Env.cv (Env.cv (Env.cv (Env.cvBy (Sl_le rfl) (Env.le_nil _)))))) (Less.pk rfl (Less.nil _))
        · replace H46 := cF H46 hc
          refine TC.exit ?_; refine TE.then_exit ?_; refine TE.then_exit ?_; refine TE.inBlock_here ?_; exact TE.cutP i_45 () (he46 _ (Option.some.inj H46).symm).symm (Env.cv (Env.cv (Env.cv (Env.cv (Env.cvBy (Sl_le rfl) (Env.le_nil _)))))) (Less.pk rfl (Less.nil _))
      rintro i_43 ⟨⟩ hp
      replace hp := hp.symm
      subst hp
      refine TE.then ?_; refine TC.kp [0, 1, 4, 12, 13] [b0] ?_; refine TC.seq ?_
      obtain ⟨o_52, H52, H42⟩ := bnd H42
      refine TC.cutP (fun s : Int => o_52 = s) (fun (j_51 : Int) (_ : Unit) => (Env.set (Env.set (Env.set (Env.set (Env.set Env.nil 0 (Sl b0 p0 0 data_41.length c0)) 1 (D (a0 : Int))) 4 (D (cmp0 : (F2 Try.prog Prefix Prefix Int)))) 12 (D (i_43 : Int))) 13 (D (j_51 : Int)))) (fun (j_51 : Int) (_ : Unit) => [⟨b0, p0, (Row (data_41 : List Prefix) c0)⟩]) ?_ ?_
      · skip
        refine TC.block ?_; refine TC.loopP H52 (fun (j_53 : Int) (_ : Unit) => (Env.set (Env.set (Env.set (Env.set (Env.set Env.nil 0 (Sl b0 p0 0 data_41.length c0)) 1 (D (a0 : Int))) 4 (D (cmp0 : (F2 Try.prog Prefix Prefix Int)))) 12 (D (i_43 : Int))) 13 (D (j_53 : Int)))) (fun (j_53 : Int) (_ : Unit) => [⟨b0, p0, (Row (data_41 : List Prefix) c0)⟩]) () (Env.cv (Env.cv (Env.cv (Env.cv (Env.cvBy (Sl_le rfl) (Env.le_nil _)))))) (Less.pk rfl (Less.nil _)) ?_
        rintro j_53 ⟨⟩ x_54 H54 he54
        replace H54 : slices_partitionCmpFunc_api_Prefix_l5 a0 cmp0 data_41 i_43 j_53 = some x_54 := H54
        unfold slices_partitionCmpFunc_api_Prefix_l5 at H54
        refine TC.seq ?_; refine TC.seqD0 mix (by kernel_rfl) ?_; refine TR.s OpY.move rfl ?_; refine TR.s OpY.move rfl ?_; refine TR.s OpY.leq rfl ?_; refine TR.s OpY.move rfl ?_; refine TR.g 126 rfl (fun hg => OpY.move) rfl ?_; refine TR.g 126 rfl (fun hg => OpY.move) rfl ?_; refine TR.g 126 rfl (fun hg => OpY.move) rfl ?_
        obtain ⟨x_55, ex_55, H54⟩ := bnd H54
        refine TR.g 126 rfl (fun hg => (OpD.indexq (idx_in (gb_some ex_55 hg.h) rfl))) rfl ?_; refine TR.g 126 rfl (fun hg => (OpD.ldq (Pl.rowz (gb_some ex_55 hg.h)))) rfl ?_; refine TR.g 126 rfl (fun hg => OpY.move) rfl ?_; refine TR.g 126 rfl (fun hg => OpY.move) rfl ?_
        obtain ⟨x_56, ex_56, H54⟩ := bnd H54
        refine TR.g 126 rfl (fun hg => (OpD.indexq (idx_in (gb_some ex_56 hg.h) rfl))) rfl ?_; refine TR.g 126 rfl (fun hg => (OpD.ldq (Pl.rowz (gb_some ex_56 hg.h)))) rfl ?_
        obtain ⟨x_57, ex_57, H54⟩ := bnd H54
        refine TR.g 126 rfl (fun hg => (OpY.callV2 (gb_some ex_57 hg.h))) rfl ?_; refine TR.g 126 rfl (fun hg => OpY.lss) rfl ?_; refine TR.g 126 rfl (fun hg => OpY.notB) rfl ?_; refine TR.s OpY.pickAnd rfl ?_; refine TR.nil ?_; refine TC.kp [0, 1, 4, 12, 13, 139] [b0] ?_; refine TC.cond (fun hc => ?_) (fun hc => ?_)
        · replace H54 := cT H54 hc
          refine TC.skip ?_; refine TE.then ?_; refine TC.kp [0, 1, 4, 12, 13] [b0] ?_; refine TC.block ?_; refine TC.regionS ?_; refine TS.s OpY.move rfl ?_
          obtain ⟨x_58, ex_58, H54⟩ := bnd H54
          refine TS.s (OpD.sub ex_58) rfl ?_; refine TS.s OpY.assign rfl ?_; refine TS.nil ?_; refine TE.kp [0, 1, 4, 12, 13] [b0] ?_; refine TE.inBlock_normal ?_; exact TE.backP x_58 () (Option.some.inj H54).symm (Env.cv (Env.cv (Env.cv (Env.cv (Env.cvBy (Sl_le rfl) (Env.le_nil _)))))) (Less.pk rfl (Less.nil _))
        · replace H54 := cF H54 hc
          refine TC.exit ?_; refine TE.then_exit ?_; refine TE.then_exit ?_; refine TE.inBlock_here ?_; exact TE.cutP j_53 () (he54 _ (Option.some.inj H54).symm).symm (Env.cv (Env.cv (Env.cv (Env.cv (Env.cvBy (Sl_le rfl) (Env.le_nil _)))))) (Less.pk rfl (Less.nil _))
      rintro j_51 ⟨⟩ hp
      replace hp := hp.symm
      subst hp
      refine TE.then ?_; refine TC.kp [0, 1, 4, 12, 13] [b0] ?_; refine TC.seq ?_; refine TC.seqS ?_; refine TS.s OpY.move rfl ?_; refine TS.s OpY.move rfl ?_; refine TS.s OpY.gtr rfl ?_; refine TS.nil ?_; refine TE.then ?_; refine TC.kp [0, 1, 4, 12, 13, 144] [b0] ?_; refine TC.cond (fun hc => ?_) (fun hc => ?_)
      · replace H42 := cT H42 hc
        refine TC.exit ?_; refine TE.then_exit ?_; refine TE.inBlock_other rfl ?_; refine TE.then_exit ?_; refine TE.inBlock_here ?_; exact TE.cutP ⟨j_51, data_41⟩ () (he42 _ (Option.some.inj H42).symm).symm (Env.cv (Env.cv (Env.cvBy (Sl_le rfl) (Env.le_nil _)))) (Less.pk rfl (Less.nil _))
      · replace H42 := cF H42 hc
        refine TC.skip ?_; refine TE.then ?_; refine TC.kp [0, 1, 4, 12, 13] [b0] ?_; refine TC.seqD2 [0, 0, 0, 0, 0, 0, 0, 2, 0, 0, 0, 2, 0, 1, 0, 1] [b0] mix (by kernel_rfl) (by kernel_rfl) ?_; refine TR2.s OpY.move rfl ?_; refine TR2.s OpY.move rfl ?_; refine TR2.s OpY.move rfl ?_; refine TR2.s OpY.move rfl ?_; refine TR2.s OpY.move rfl ?_; refine TR2.s OpY.move rfl ?_
        obtain ⟨x_59, ex_59, H42⟩ := bnd H42
        refine TR2.s (OpD.indexq (idx_in ex_59 rfl)) rfl ?_; refine TR2.r (fun g => OpG.s (OpD.ldq (Pl.rowz ex_59))) rfl ?_; refine TR2.s OpY.move rfl ?_; refine TR2.s OpY.move rfl ?_
        obtain ⟨x_60, ex_60, H42⟩ := bnd H42
        refine TR2.s (OpD.indexq (idx_in ex_60 rfl)) rfl ?_; refine TR2.r (fun g => OpG.s (OpD.ldq (Pl.rowz ex_60))) rfl ?_
        obtain ⟨x_61, ex_61, H42⟩ := bnd H42
        refine TR2.s (OpD.indexq (idx_in ex_61 rfl)) rfl ?_; refine TR2.tn (fun Ωr g => (OpT.storeq (y := (x_59 : Prefix)) (Pl.rowz ex_61))) rfl ?_
        obtain ⟨x_62, ex_62, H42⟩ := bnd H42
        refine TR2.s (OpD.indexq (idx_in ex_62 (by simp))) rfl ?_; refine TR2.tn (fun Ωr g => (OpT.storeq (y := (x_60 : Prefix)) (Pl.rowz ex_62))) rfl ?_; refine TR2.nil ?_
        rintro ⟨⟨⟨⟨_, _⟩, _⟩, _⟩, _⟩
        dsimp only [Fam.nextS, Fam.nextN, Fam.one, List.cons_append, List.nil_append]
        refine TC.kp [0, 1, 4, 12, 13] [b0] ?_
        obtain ⟨l_63, el_63, H42⟩ := bnd H42
        refine TC.nmB b0 (nm_row el_63) ?_; refine TC.see 0 _ (nm_sl2 el_63 (by simp)) ?_; refine TC.seqS ?_; refine TS.s OpY.move rfl ?_
        obtain ⟨x_64, ex_64, H42⟩ := bnd H42
        refine TS.s (OpD.add ex_64) rfl ?_; refine TS.s OpY.assign rfl ?_; refine TS.nil ?_; refine TE.then ?_; refine TC.kp [0, 1, 4, 12, 13] [b0] ?_; refine TC.regionS ?_; refine TS.s OpY.move rfl ?_
        obtain ⟨x_65, ex_65, H42⟩ := bnd H42
        refine TS.s (OpD.sub ex_65) rfl ?_; refine TS.s OpY.assign rfl ?_; refine TS.nil ?_; refine TE.kp [0, 1, 4, 12, 13] [b0] ?_; refine TE.inBlock_normal ?_; exact TE.backP ⟨x_64, x_65, l_63⟩ () (Option.some.inj H42).symm (Env.cv (Env.cv (Env.cv (Env.cv (Env.cvBy (Sl_le rfl) (Env.le_nil _)))))) (Less.pk rfl (Less.nil _))
    rintro ⟨j_36, data_37⟩ ⟨⟩ hp
    replace hp := hp.symm
    subst hp
    replace H := el2_mk H
    refine TE.then ?_; refine TC.kp [0, 1, 13] [b0] ?_; refine TC.seqD2 [0, 0, 0, 0, 0, 0, 0, 2, 0, 0, 0, 2, 0, 1, 0, 1] [b0] mix (by kernel_rfl) (by kernel_rfl) ?_; refine TR2.s OpY.move rfl ?_; refine TR2.s OpY.move rfl ?_; refine TR2.s OpY.move rfl ?_; refine TR2.s OpY.move rfl ?_; refine TR2.s OpY.move rfl ?_; refine TR2.s OpY.move rfl ?_
    obtain ⟨x_66, ex_66, H⟩ := bnd H
    refine TR2.s (OpD.indexq (idx_in ex_66 rfl)) rfl ?_; refine TR2.r (fun g => OpG.s (OpD.ldq (Pl.rowz ex_66))) rfl ?_; refine TR2.s OpY.move rfl ?_; refine TR2.s OpY.move rfl ?_
    obtain ⟨x_67, ex_67, H⟩ := bnd H
    refine TR2.s (OpD.indexq (idx_in ex_67 rfl)) rfl ?_; refine TR2.r (fun g => OpG.s (OpD.ldq (Pl.rowz ex_67))) rfl ?_
    obtain ⟨x_68, ex_68, H⟩ := bnd H
    refine TR2.s (OpD.indexq (idx_in ex_68 rfl)) rfl ?_; refine TR2.tn (fun Ωr g => (OpT.storeq (y := (x_66 : Prefix)) (Pl.rowz ex_68))) rfl ?_
    obtain ⟨x_69, ex_69, H⟩ := bnd H
    refine TR2.s (OpD.indexq (idx_in ex_69 (by simp))) rfl ?_; refine TR2.tn (fun Ωr g => (OpT.storeq (y := (x_67 : Prefix)) (Pl.rowz ex_69))) rfl ?_; refine TR2.nil ?_
    rintro ⟨⟨⟨⟨_, _⟩, _⟩, _⟩, _⟩
    dsimp only [Fam.nextS, Fam.nextN, Fam.one, List.cons_append, List.nil_append]
    refine TC.kp [13] [b0] ?_
    obtain ⟨l_70, el_70, H⟩ := bnd H
    refine TC.nmB b0 (nm_row el_70) ?_; refine TC.seqS ?_; refine TS.s OpY.move rfl ?_; refine TS.s OpY.assign rfl ?_; refine TS.s OpY.assign rfl ?_; refine TS.nil ?_; refine TE.then ?_; refine TC.kp [10, 11] [b0] ?_; refine TC.ret ?_
    obtain rfl := (Option.some.inj H)
    exact TE.retON rfl rfl () (.cons Cv.le (.cons Cv.le .nil)) (Less.pk rfl (Less.nil _))
def slices_pdqsortCmpFunc_api_Prefix_l1 (cmp0 : (F2 Try.prog Prefix Prefix Int)) (rec_ : (List Prefix) → Int → Int → Int → (F2 Try.prog Prefix Prefix Int) → Option (List Prefix)) (a_1 : Int) (b_2 : Int) (limit_3 : Int) (wasBalanced_4 : Bool) (wasPartitioned_5 : Bool) (data_6 : (List Prefix)) : Option ((Int × Int × Int × Bool × Bool × (List Prefix)) ⊕ (List Prefix)) :=
  (subI b_2 a_1).bind fun x_8 => bif (decide (x_8 ≤ (12 : Int))) then ((slices_insertionSortCmpFunc_api_Prefix data_6 a_1 b_2 cmp0).bind fun x_9 => (lenI x_9.length data_6.length).bind fun u_11 => some (.inr x_9)) else (bif (decide (limit_3 = (0 : Int))) then ((slices_heapSortCmpFunc_api_Prefix data_6 a_1 b_2 cmp0).bind fun x_12 => (lenI x_12.length data_6.length).bind fun u_14 => some (.inr x_12)) else ((bif (!wasBalanced_4) then ((slices_breakPatternsCmpFunc_api_Prefix data_6 a_1 b_2 cmp0).bind fun x_18 => (lenI x_18.length data_6.length).bind fun u_20 => (subI limit_3 (1 : Int)).bind fun x_21 => some (x_21, x_18)) else (some (limit_3, data_6))).bind fun o_17 => el2 o_17 (fun limit_15 data_16 => (slices_choosePivotCmpFunc_api_Prefix data_16 a_1 b_2 cmp0).bind fun r_22 => (bif (decide (r_22.2 = (2 : Int))) then ((slices_reverseRangeCmpFunc_api_Prefix data_16 a_1 b_2 cmp0).bind fun x_27 => (lenI x_27.length data_16.length).bind fun u_29 => (subI b_2 (1 : Int)).bind fun x_30 => (subI r_22.1 a_1).bind fun x_31 => (subI x_30 x_31).bind fun x_32 => some (x_32, (1 : Int), x_27)) else (some (r_22.1, r_22.2, data_16))).bind fun o_26 => el3 o_26 (fun pivot_23 hint_24 data_25 => (bif ((wasBalanced_4 && wasPartitioned_5) && (decide (hint_24 = (1 : Int)))) then ((slices_partialInsertionSortCmpFunc_api_Prefix data_25 a_1 b_2 cmp0).bind fun x_35 => (lenI x_35.2.length data_25.length).bind fun u_37 => bif x_35.1 then (some (.inr x_35.2)) else (some (.inl x_35.2))) else (some (.inl data_25))).bind fun o_34 => elS o_34 (fun data_33 => (gb (decide (a_1 > (0 : Int))) (subI a_1 (1 : Int))).bind fun x_39 => (gb (decide (a_1 > (0 : Int))) (idx data_33 x_39)).bind fun x_40 => (gb (decide (a_1 > (0 : Int))) (idx data_33 pivot_23)).bind fun x_41 => (gb (decide (a_1 > (0 : Int))) ((cmp0).f x_40 x_41)).bind fun x_42 => bif ((decide (a_1 > (0 : Int))) && (!(decide (x_42 < (0 : Int))))) then ((slices_partitionEqualCmpFunc_api_Prefix data_33 a_1 b_2 pivot_23 cmp0).bind fun x_43 => (lenI x_43.2.length data_33.length).bind fun u_45 => some (.inl (x_43.1, b_2, limit_15, wasBalanced_4, wasPartitioned_5, x_43.2))) else ((slices_partitionCmpFunc_api_Prefix data_33 a_1 b_2 pivot_23 cmp0).bind fun x_46 => (lenI x_46.2.2.length data_33.length).bind fun u_48 => (subI x_46.1 a_1).bind fun x_49 => (subI b_2 x_46.1).bind fun x_50 => (quoI x_8 (8 : Int)).bind fun x_51 => bif (decide (x_49 < x_50)) then ((rec_ x_46.2.2 a_1 x_46.1 limit_15 cmp0).bind fun x_52 => (lenI x_52.length x_46.2.2.length).bind fun u_54 => (addI x_46.1 (1 : Int)).bind fun x_55 => some (.inl (x_55, b_2, limit_15, (decide (x_49 ≥ x_51)), x_46.2.1, x_52))) else ((addI x_46.1 (1 : Int)).bind fun x_56 => (rec_ x_46.2.2 x_56 b_2 limit_15 cmp0).bind fun x_57 => (lenI x_57.length x_46.2.2.length).bind fun u_59 => some (.inl (a_1, x_46.1, limit_15, (decide (x_50 ≥ x_51)), x_46.2.1, x_57))))) (fun q => some (.inr q))))))
def slices_pdqsortCmpFunc_api_Prefix_s (rec_ : (List Prefix) → Int → Int → Int → (F2 Try.prog Prefix Prefix Int) → Option (List Prefix)) (data0 : (List Prefix)) (a0 : Int) (b0x : Int) (limit0 : Int) (cmp0 : (F2 Try.prog Prefix Prefix Int)) : Option (List Prefix) :=
  loopO (fun s => slices_pdqsortCmpFunc_api_Prefix_l1 cmp0 rec_ s.1 s.2.1 s.2.2.1 s.2.2.2.1 s.2.2.2.2.1 s.2.2.2.2.2) (a0, b0x, limit0, true, true, data0)
def slices_pdqsortCmpFunc_api_Prefix_n : Nat → (List Prefix) → Int → Int → Int → (F2 Try.prog Prefix Prefix Int) → Option (List Prefix)
  | 0, _, _, _, _, _ => none
  | kf + 1, data0, a0, b0x, limit0, cmp0 => slices_pdqsortCmpFunc_api_Prefix_s (slices_pdqsortCmpFunc_api_Prefix_n kf) data0 a0 b0x limit0 cmp0
def slices_pdqsortCmpFunc_api_Prefix (data0 : (List Prefix)) (a0 : Int) (b0x : Int) (limit0 : Int) (cmp0 : (F2 Try.prog Prefix Prefix Int)) : Option (List Prefix) := slices_pdqsortCmpFunc_api_Prefix_n 18446744073709551616 data0 a0 b0x limit0 cmp0
theorem slices_pdqsortCmpFunc_api_Prefix_o_ih (kf : Nat) : ∀ {A : Nat → Prop} {data0 : (List Prefix)} {a0 : Int} {b0x : Int} {limit0 : Int} {cmp0 : (F2 Try.prog Prefix Prefix Int)} {b0 c0 : Nat} {p0 : Prop} {r : (List Prefix)} (w : World) (v0 v1 v2 v3 v4 : Value) (hA : ∀ k, w.heap.size ≤ k → A k) (hO : OwnIn A [⟨b0, p0, Row (data0 : List Prefix) c0⟩]) (hap : Apart [⟨b0, p0, Row (data0 : List Prefix) c0⟩]) (hks : Pks (Pub A [⟨b0, p0, Row (data0 : List Prefix) c0⟩]) [⟨b0, p0, Row (data0 : List Prefix) c0⟩] w) (h0 : (Sl b0 p0 0 data0.length c0).p (Pub A [⟨b0, p0, Row (data0 : List Prefix) c0⟩]) w v0) (h1 : (D (a0 : Int)).p (Pub A [⟨b0, p0, Row (data0 : List Prefix) c0⟩]) w v1) (h2 : (D (b0x : Int)).p (Pub A [⟨b0, p0, Row (data0 : List Prefix) c0⟩]) w v2) (h3 : (D (limit0 : Int)).p (Pub A [⟨b0, p0, Row (data0 : List Prefix) c0⟩]) w v3) (h4 : (D (cmp0 : (F2 Try.prog Prefix Prefix Int))).p (Pub A [⟨b0, p0, Row (data0 : List Prefix) c0⟩]) w v4) (H : slices_pdqsortCmpFunc_api_Prefix_n kf data0 a0 b0x limit0 cmp0 = some r),
    Calls Try.prog 45 #[v0, v1, v2, v3, v4] w (RetO A w [⟨b0, p0, Row (data0 : List Prefix) c0⟩] (fun g : Unit => Tup []) fun g => [⟨b0, p0, Row (r : List Prefix) c0⟩]) := by
  induction kf with
  | zero => intro A data0 a0 b0x limit0 cmp0 b0 c0 p0 r w v0 v1 v2 v3 v4 hA hO hap hks h0 h1 h2 h3 h4 H; exact nomatch (show (none : Option (List Prefix)) = some r from H)
  | succ kf ih =>
    intro A data0 a0 b0x limit0 cmp0 b0 c0 p0 r w v0 v1 v2 v3 v4 hA hO hap hks h0 h1 h2 h3 h4 H
    replace H : slices_pdqsortCmpFunc_api_Prefix_s (slices_pdqsortCmpFunc_api_Prefix_n kf) data0 a0 b0x limit0 cmp0 = some r := H
    unfold slices_pdqsortCmpFunc_api_Prefix_s at H
    refine enterO5 hA hap hks Try.func45 rfl Try.ntmps45 rfl h0 h1 h2 h3 h4 ?_; refine TC.seqS ?_; refine TS.s OpY.assign rfl ?_; refine TS.nil ?_; refine TE.then ?_; refine TC.kp [0, 1, 2, 3, 4, 10] [b0] ?_; refine TC.seqS ?_; refine TS.s OpY.assign rfl ?_; refine TS.nil ?_; refine TE.then ?_; refine TC.kp [0, 1, 2, 3, 4, 10, 11] [b0] ?_; refine TC.block ?_; refine TC.loopP H (fun ⟨a_1, b_2, limit_3, wasBalanced_4, wasPartitioned_5, data_6⟩ (_ : Unit) => (Env.set (Env.set (Env.set (Env.set (Env.set (Env.set (Env.set Env.nil 0 (Sl b0 p0 0 data_6.length c0)) 1 (D (a_1 : Int))) 2 (D (b_2 : Int))) 3 (D (limit_3 : Int))) 4 (D (cmp0 : (F2 Try.prog Prefix Prefix Int)))) 10 (D (wasBalanced_4 : Bool))) 11 (D (wasPartitioned_5 : Bool)))) (fun ⟨a_1, b_2, limit_3, wasBalanced_4, wasPartitioned_5, data_6⟩ (_ : Unit) => [⟨b0, p0, (Row (data_6 : List Prefix) c0)⟩]) () (Env.cv (Env.cv (Env.cv (Env.cv (Env.cv (Env.cv (Env.cvBy (Sl_le rfl) (Env.le_nil _)))))))) (Less.pk rfl (Less.nil _)) ?_
    rintro ⟨a_1, b_2, limit_3, wasBalanced_4, wasPartitioned_5, data_6⟩ ⟨⟩ x_7 H7 he7
    replace H7 : slices_pdqsortCmpFunc_api_Prefix_l1 cmp0 (slices_pdqsortCmpFunc_api_Prefix_n kf) a_1 b_2 limit_3 wasBalanced_4 wasPartitioned_5 data_6 = some x_7 := H7
    unfold slices_pdqsortCmpFunc_api_Prefix_l1 at H7
    refine TC.block ?_; refine TC.seqS ?_; refine TS.s OpY.move rfl ?_; refine TS.s OpY.move rfl ?_
    obtain ⟨x_8, ex_8, H7⟩ := bnd H7
    refine TS.s (OpD.sub ex_8) rfl ?_; refine TS.s OpY.assign rfl ?_; refine TS.nil ?_; refine TE.then ?_; refine TC.kp [0, 1, 2, 3, 4, 10, 11, 12] [b0] ?_; refine TC.seq ?_; refine TC.seqS ?_; refine TS.s OpY.move rfl ?_; refine TS.s OpY.leq rfl ?_; refine TS.nil ?_; refine TE.then ?_; refine TC.kp [0, 1, 2, 3, 4, 10, 11, 12, 25] [b0] ?_; refine TC.cond (fun hc => ?_) (fun hc => ?_)
    · replace H7 := cT H7 hc
      refine TC.seqS ?_; refine TS.s OpY.move rfl ?_; refine TS.s OpY.move rfl ?_; refine TS.s OpY.move rfl ?_; refine TS.s OpY.move rfl ?_
      obtain ⟨x_9, ex_9, H7⟩ := bnd H7
      refine TS.t (OpT.callO4 [b0] fun w v0 v1 v2 v3 hA hO hap hks h0 h1 h2 h3 => slices_insertionSortCmpFunc_api_Prefix_o w v0 v1 v2 v3 hA hO hap hks (slD rfl h0) (toD h1) (toD h2) (toD h3) ex_9) rfl fun _ => ?_; dsimp only [List.cons_append, List.nil_append]
      obtain ⟨u_11, eu_11, H7⟩ := bnd H7
      refine TS.nil ?_; refine TE.then ?_; refine TC.kp [] [b0] ?_; refine TC.ret ?_; refine TE.then_ret ?_; refine TE.inBlock_ret ?_; refine TE.then_ret ?_; refine TE.inBlock_ret ?_
      obtain rfl := (he7 _ (Option.some.inj H7).symm)
      exact TE.retON rfl rfl () .nil (Less.pk rfl (Less.nil _))
    · replace H7 := cF H7 hc
      refine TC.skip ?_; refine TE.then ?_; refine TC.kp [0, 1, 2, 3, 4, 10, 11, 12] [b0] ?_; refine TC.seq ?_; refine TC.seqS ?_; refine TS.s OpY.move rfl ?_; refine TS.s OpY.eql rfl ?_; refine TS.nil ?_; refine TE.then ?_; refine TC.kp [0, 1, 2, 3, 4, 10, 11, 12, 32] [b0] ?_; refine TC.cond (fun hc => ?_) (fun hc => ?_)
      · replace H7 := cT H7 hc
        refine TC.seqS ?_; refine TS.s OpY.move rfl ?_; refine TS.s OpY.move rfl ?_; refine TS.s OpY.move rfl ?_; refine TS.s OpY.move rfl ?_
        obtain ⟨x_12, ex_12, H7⟩ := bnd H7
        refine TS.t (OpT.callO4 [b0] fun w v0 v1 v2 v3 hA hO hap hks h0 h1 h2 h3 => slices_heapSortCmpFunc_api_Prefix_o w v0 v1 v2 v3 hA hO hap hks (slD rfl h0) (toD h1) (toD h2) (toD h3) ex_12) rfl fun _ => ?_; dsimp only [List.cons_append, List.nil_append]
        obtain ⟨u_14, eu_14, H7⟩ := bnd H7
        refine TS.nil ?_; refine TE.then ?_; refine TC.kp [] [b0] ?_; refine TC.ret ?_; refine TE.then_ret ?_; refine TE.inBlock_ret ?_; refine TE.then_ret ?_; refine TE.inBlock_ret ?_
        obtain rfl := (he7 _ (Option.some.inj H7).symm)
        exact TE.retON rfl rfl () .nil (Less.pk rfl (Less.nil _))
      · replace H7 := cF H7 hc
        refine TC.skip ?_; refine TE.then ?_; refine TC.kp [0, 1, 2, 3, 4, 10, 11, 12] [b0] ?_; refine TC.seq ?_
        obtain ⟨o_17, H17, H7⟩ := bnd H7
        refine TC.cutP (fun s : (Int × (List Prefix)) => o_17 = s) (fun ⟨limit_15, data_16⟩ (_ : Unit) => (Env.set (Env.set (Env.set (Env.set (Env.set (Env.set (Env.set (Env.set Env.nil 0 (Sl b0 p0 0 data_16.length c0)) 1 (D (a_1 : Int))) 2 (D (b_2 : Int))) 3 (D (limit_15 : Int))) 4 (D (cmp0 : (F2 Try.prog Prefix Prefix Int)))) 10 (D (wasBalanced_4 : Bool))) 11 (D (wasPartitioned_5 : Bool))) 12 (D (x_8 : Int)))) (fun ⟨limit_15, data_16⟩ (_ : Unit) => [⟨b0, p0, (Row (data_16 : List Prefix) c0)⟩]) ?_ ?_
        · skip
          refine TC.seqS ?_; refine TS.s OpY.move rfl ?_; refine TS.s OpY.notB rfl ?_; refine TS.nil ?_; refine TE.then ?_; refine TC.kp [0, 1, 2, 3, 4, 10, 11, 12, 39] [b0] ?_; refine TC.cond (fun hc => ?_) (fun hc => ?_)
          · replace H17 := cT H17 hc
            refine TC.seqS ?_; refine TS.s OpY.move rfl ?_; refine TS.s OpY.move rfl ?_; refine TS.s OpY.move rfl ?_; refine TS.s OpY.move rfl ?_
            obtain ⟨x_18, ex_18, H17⟩ := bnd H17
            refine TS.t (OpT.callO4 [b0] fun w v0 v1 v2 v3 hA hO hap hks h0 h1 h2 h3 => slices_breakPatternsCmpFunc_api_Prefix_o w v0 v1 v2 v3 hA hO hap hks (slD rfl h0) (toD h1) (toD h2) (toD h3) ex_18) rfl fun _ => ?_; dsimp only [List.cons_append, List.nil_append]
            obtain ⟨u_20, eu_20, H17⟩ := bnd H17
            refine TS.nil ?_; refine TE.then ?_; refine TC.kp [0, 1, 2, 3, 4, 10, 11, 12] [b0] ?_; refine TC.regionS ?_; refine TS.s OpY.move rfl ?_
            obtain ⟨x_21, ex_21, H17⟩ := bnd H17
            refine TS.s (OpD.sub ex_21) rfl ?_; refine TS.s OpY.assign rfl ?_; refine TS.nil ?_; refine TE.kp [0, 1, 2, 3, 4, 10, 11, 12] [b0] ?_; exact TE.cutP ⟨x_21, x_18⟩ () (Option.some.inj H17).symm (Env.cv (Env.cv (Env.cv (Env.cv (Env.cv (Env.cv (Env.cv (Env.cvBy (Sl_le (lenI_eq eu_20)) (Env.le_nil _))))))))) (Less.pk rfl (Less.nil _))
          · replace H17 := cF H17 hc
            refine TC.skip ?_; exact TE.cutP ⟨limit_3, data_6⟩ () (Option.some.inj H17).symm (Env.cv (Env.cv (Env.cv (Env.cv (Env.cv (Env.cv (Env.cv (Env.cvBy (Sl_le rfl) (Env.le_nil _))))))))) (Less.pk rfl (Less.nil _))
        rintro ⟨limit_15, data_16⟩ ⟨⟩ hp
        replace hp := hp.symm
        subst hp
        replace H7 := el2_mk H7
        refine TE.then ?_; refine TC.kp [0, 1, 2, 3, 4, 10, 11, 12] [b0] ?_; refine TC.seqS ?_; refine TS.s OpY.move rfl ?_; refine TS.s OpY.move rfl ?_; refine TS.s OpY.move rfl ?_; refine TS.s OpY.move rfl ?_
        obtain ⟨r_22, er_22, H7⟩ := bnd H7
        refine TS.s (OpY.callB4 [b0] (ArgB.sv PlS.all rfl (by simp)) ArgB.d ArgB.d ArgB.d fun w v0 v1 v2 v3 hA h0 h1 h2 h3 => slices_choosePivotCmpFunc_api_Prefix_c w v0 v1 v2 v3 hA (toD h0) (toD h1) (toD h2) (toD h3) er_22) rfl ?_; refine TS.s OpY.move rfl ?_; refine TS.s (OpY.extract rfl) rfl ?_; refine TS.s (OpY.extract rfl) rfl ?_; refine TS.s OpY.assign rfl ?_; refine TS.s OpY.assign rfl ?_; refine TS.nil ?_; refine TE.then ?_; refine TC.kp [0, 1, 2, 3, 4, 10, 11, 12, 13, 14] [b0] ?_; refine TC.seq ?_
        obtain ⟨o_26, H26, H7⟩ := bnd H7
        refine TC.cutP (fun s : (Int × Int × (List Prefix)) => o_26 = s) (fun ⟨pivot_23, hint_24, data_25⟩ (_ : Unit) => (Env.set (Env.set (Env.set (Env.set (Env.set (Env.set (Env.set (Env.set (Env.set (Env.set Env.nil 0 (Sl b0 p0 0 data_25.length c0)) 1 (D (a_1 : Int))) 2 (D (b_2 : Int))) 3 (D (limit_15 : Int))) 4 (D (cmp0 : (F2 Try.prog Prefix Prefix Int)))) 10 (D (wasBalanced_4 : Bool))) 11 (D (wasPartitioned_5 : Bool))) 12 (D (x_8 : Int))) 13 (D (pivot_23 : Int))) 14 (D (hint_24 : Int)))) (fun ⟨pivot_23, hint_24, data_25⟩ (_ : Unit) => [⟨b0, p0, (Row (data_25 : List Prefix) c0)⟩]) ?_ ?_
        · skip
          refine TC.seqS ?_; refine TS.s OpY.move rfl ?_; refine TS.s OpY.eql rfl ?_; refine TS.nil ?_; refine TE.then ?_; refine TC.kp [0, 1, 2, 3, 4, 10, 11, 12, 13, 14, 56] [b0] ?_; refine TC.cond (fun hc => ?_) (fun hc => ?_)
          · replace H26 := cT H26 hc
            refine TC.seqS ?_; refine TS.s OpY.move rfl ?_; refine TS.s OpY.move rfl ?_; refine TS.s OpY.move rfl ?_; refine TS.s OpY.move rfl ?_
            obtain ⟨x_27, ex_27, H26⟩ := bnd H26
            refine TS.t (OpT.callO4 [b0] fun w v0 v1 v2 v3 hA hO hap hks h0 h1 h2 h3 => slices_reverseRangeCmpFunc_api_Prefix_o w v0 v1 v2 v3 hA hO hap hks (slD rfl h0) (toD h1) (toD h2) (toD h3) ex_27) rfl fun _ => ?_; dsimp only [List.cons_append, List.nil_append]
            obtain ⟨u_29, eu_29, H26⟩ := bnd H26
            refine TS.nil ?_; refine TE.then ?_; refine TC.kp [0, 1, 2, 3, 4, 10, 11, 12, 13] [b0] ?_; refine TC.seqS ?_; refine TS.s OpY.move rfl ?_
            obtain ⟨x_30, ex_30, H26⟩ := bnd H26
            refine TS.s (OpD.sub ex_30) rfl ?_; refine TS.s OpY.move rfl ?_; refine TS.s OpY.move rfl ?_
            obtain ⟨x_31, ex_31, H26⟩ := bnd H26
            refine TS.s (OpD.sub ex_31) rfl ?_
            obtain ⟨x_32, ex_32, H26⟩ := bnd H26
            refine TS.s (OpD.sub ex_32) rfl ?_; refine TS.s OpY.assign rfl ?_; refine TS.nil ?_; refine TE.then ?_; refine TC.kp [0, 1, 2, 3, 4, 10, 11, 12, 13] [b0] ?_; refine TC.regionS ?_; refine TS.s OpY.assign rfl ?_; refine TS.nil ?_; refine TE.kp [0, 1, 2, 3, 4, 10, 11, 12, 13, 14] [b0] ?_; exact TE.cutP ⟨x_32, (1 : Int), x_27⟩ () (Option.some.inj H26).symm (Env.cv (Env.cv (Env.cv (Env.cv (Env.cv (Env.cv (Env.cv (Env.cv (Env.cv (Env.cvBy (Sl_le (lenI_eq eu_29)) (Env.le_nil _))))))))))) (Less.pk rfl (Less.nil _))
          · replace H26 := cF H26 hc
            refine TC.skip ?_; exact TE.cutP ⟨r_22.1, r_22.2, data_16⟩ () (Option.some.inj H26).symm (Env.cv (Env.cv (Env.cv (Env.cv (Env.cv (Env.cv (Env.cv (Env.cv (Env.cv (Env.cvBy (Sl_le rfl) (Env.le_nil _))))))))))) (Less.pk rfl (Less.nil _))
        rintro ⟨pivot_23, hint_24, data_25⟩ ⟨⟩ hp
        replace hp := hp.symm
        subst hp
        replace H7 := el3_mk H7
        refine TE.then ?_; refine TC.kp [0, 1, 2, 3, 4, 10, 11, 12, 13, 14] [b0] ?_; refine TC.seq ?_
        obtain ⟨o_34, H34, H7⟩ := bnd H7
        refine TC.cutP (fun s : (List Prefix) => o_34 = .inl s) (fun (data_33 : (List Prefix)) (_ : Unit) => (Env.set (Env.set (Env.set (Env.set (Env.set (Env.set (Env.set (Env.set (Env.set Env.nil 0 (Sl b0 p0 0 data_33.length c0)) 1 (D (a_1 : Int))) 2 (D (b_2 : Int))) 3 (D (limit_15 : Int))) 4 (D (cmp0 : (F2 Try.prog Prefix Prefix Int)))) 10 (D (wasBalanced_4 : Bool))) 11 (D (wasPartitioned_5 : Bool))) 12 (D (x_8 : Int))) 13 (D (pivot_23 : Int)))) (fun (data_33 : (List Prefix)) (_ : Unit) => [⟨b0, p0, (Row (data_33 : List Prefix) c0)⟩]) ?_ ?_
        · skip
          refine TC.seqS ?_; refine TS.s OpY.move rfl ?_; refine TS.s OpY.move rfl ?_; refine TS.g 69 rfl (fun hg => OpY.move) rfl ?_; refine TS.s OpY.pickAnd rfl ?_; refine TS.s OpY.move rfl ?_; refine TS.g 72 rfl (fun hg => OpY.move) rfl ?_; refine TS.g 72 rfl (fun hg => OpY.eql) rfl ?_; refine TS.s OpY.pickAnd rfl ?_; refine TS.nil ?_; refine TE.then ?_; refine TC.kp [0, 1, 2, 3, 4, 10, 11, 12, 13, 75] [b0] ?_; refine TC.cond (fun hc => ?_) (fun hc => ?_)
          · replace H34 := cT H34 hc
            refine TC.seqS ?_; refine TS.s OpY.move rfl ?_; refine TS.s OpY.move rfl ?_; refine TS.s OpY.move rfl ?_; refine TS.s OpY.move rfl ?_
            obtain ⟨x_35, ex_35, H34⟩ := bnd H34
            refine TS.t (OpT.callO4 [b0] fun w v0 v1 v2 v3 hA hO hap hks h0 h1 h2 h3 => slices_partialInsertionSortCmpFunc_api_Prefix_o w v0 v1 v2 v3 hA hO hap hks (slD rfl h0) (toD h1) (toD h2) (toD h3) ex_35) rfl fun _ => ?_; dsimp only [List.cons_append, List.nil_append]
            obtain ⟨u_37, eu_37, H34⟩ := bnd H34
            refine TS.nil ?_; refine TE.then ?_; refine TC.kp [0, 1, 2, 3, 4, 10, 11, 12, 13, 80] [b0] ?_; refine TC.cond (fun hc => ?_) (fun hc => ?_)
            · replace H34 := cT H34 hc
              refine TC.ret ?_; refine TE.cut_ret ?_
              have R37 := elS_r (Option.some.inj H34) H7
              refine TE.then_ret ?_; refine TE.inBlock_ret ?_; refine TE.then_ret ?_; refine TE.inBlock_ret ?_
              obtain rfl := (he7 _ (Option.some.inj R37).symm)
              exact TE.retON rfl rfl () .nil (Less.pk rfl (Less.nil _))
            · replace H34 := cF H34 hc
              refine TC.skip ?_; exact TE.cutP x_35.2 () (Option.some.inj H34).symm (Env.cv (Env.cv (Env.cv (Env.cv (Env.cv (Env.cv (Env.cv (Env.cv (Env.cvBy (Sl_le (lenI_eq eu_37)) (Env.le_nil _)))))))))) (Less.pk rfl (Less.nil _))
          · replace H34 := cF H34 hc
            refine TC.skip ?_; exact TE.cutP data_25 () (Option.some.inj H34).symm (Env.cv (Env.cv (Env.cv (Env.cv (Env.cv (Env.cv (Env.cv (Env.cv (Env.cvBy (Sl_le rfl) (Env.le_nil _)))))))))) (Less.pk rfl (Less.nil _))
        rintro data_33 ⟨⟩ hp
        replace H7 := elS_l hp H7
        refine TE.then ?_; refine TC.kp [0, 1, 2, 3, 4, 10, 11, 12, 13] [b0] ?_; refine TC.seq ?_; refine TC.seqD0 mix (by kernel_rfl) ?_; refine TR.s OpY.move rfl ?_; refine TR.s OpY.gtr rfl ?_; refine TR.s OpY.move rfl ?_; refine TR.g 83 rfl (fun hg => OpY.move) rfl ?_; refine TR.g 83 rfl (fun hg => OpY.move) rfl ?_; refine TR.g 83 rfl (fun hg => OpY.move) rfl ?_
        obtain ⟨x_39, ex_39, H7⟩ := bnd H7
        refine TR.g 83 rfl (fun hg => (OpD.sub (gb_some ex_39 hg.h))) rfl ?_
        obtain ⟨x_40, ex_40, H7⟩ := bnd H7
        refine TR.g 83 rfl (fun hg => (OpD.indexq (idx_in (gb_some ex_40 hg.h) rfl))) rfl ?_; refine TR.g 83 rfl (fun hg => (OpD.ldq (Pl.rowz (gb_some ex_40 hg.h)))) rfl ?_; refine TR.g 83 rfl (fun hg => OpY.move) rfl ?_; refine TR.g 83 rfl (fun hg => OpY.move) rfl ?_
        obtain ⟨x_41, ex_41, H7⟩ := bnd H7
        refine TR.g 83 rfl (fun hg => (OpD.indexq (idx_in (gb_some ex_41 hg.h) rfl))) rfl ?_; refine TR.g 83 rfl (fun hg => (OpD.ldq (Pl.rowz (gb_some ex_41 hg.h)))) rfl ?_
        obtain ⟨x_42, ex_42, H7⟩ := bnd H7
        refine TR.g 83 rfl (fun hg => (OpY.callV2 (gb_some ex_42 hg.h))) rfl ?_; refine TR.g 83 rfl (fun hg => OpY.lss) rfl ?_; refine TR.g 83 rfl (fun hg => OpY.notB) rfl ?_; refine TR.s OpY.pickAnd rfl ?_; refine TR.nil ?_; refine TC.kp [0, 1, 2, 3, 4, 10, 11, 12, 13, 97] [b0] ?_; refine TC.cond (fun hc => ?_) (fun hc => ?_)
        · replace H7 := cT H7 hc
          refine TC.seqS ?_; refine TS.s OpY.move rfl ?_; refine TS.s OpY.move rfl ?_; refine TS.s OpY.move rfl ?_; refine TS.s OpY.move rfl ?_; refine TS.s OpY.move rfl ?_
          obtain ⟨x_43, ex_43, H7⟩ := bnd H7
          refine TS.t (OpT.callO5 [b0] fun w v0 v1 v2 v3 v4 hA hO hap hks h0 h1 h2 h3 h4 => slices_partitionEqualCmpFunc_api_Prefix_o w v0 v1 v2 v3 v4 hA hO hap hks (slD rfl h0) (toD h1) (toD h2) (toD h3) (toD h4) ex_43) rfl fun _ => ?_; dsimp only [List.cons_append, List.nil_append]
          obtain ⟨u_45, eu_45, H7⟩ := bnd H7
          refine TS.s OpY.assign rfl ?_; refine TS.nil ?_; refine TE.then ?_; refine TC.kp [0, 2, 3, 4, 10, 11, 15] [b0] ?_; refine TC.seqS ?_; refine TS.s OpY.move rfl ?_; refine TS.s OpY.assign rfl ?_; refine TS.nil ?_; refine TE.then ?_; refine TC.kp [0, 1, 2, 3, 4, 10, 11] [b0] ?_; refine TC.exit ?_; refine TE.then_exit ?_; refine TE.inBlock_here ?_; exact TE.backP ⟨x_43.1, b_2, limit_15, wasBalanced_4, wasPartitioned_5, x_43.2⟩ () (Option.some.inj H7).symm (Env.cv (Env.cv (Env.cv (Env.cv (Env.cv (Env.cv (Env.cvBy (Sl_le (lenI_eq eu_45)) (Env.le_nil _)))))))) (Less.pk rfl (Less.nil _))
        · replace H7 := cF H7 hc
          refine TC.skip ?_; refine TE.then ?_; refine TC.kp [0, 1, 2, 3, 4, 12, 13] [b0] ?_; refine TC.seqS ?_; refine TS.s OpY.move rfl ?_; refine TS.s OpY.move rfl ?_; refine TS.s OpY.move rfl ?_; refine TS.s OpY.move rfl ?_; refine TS.s OpY.move rfl ?_
          obtain ⟨x_46, ex_46, H7⟩ := bnd H7
          refine TS.t (OpT.callO5 [b0] fun w v0 v1 v2 v3 v4 hA hO hap hks h0 h1 h2 h3 h4 => slices_partitionCmpFunc_api_Prefix_o w v0 v1 v2 v3 v4 hA hO hap hks (slD rfl h0) (toD h1) (toD h2) (toD h3) (toD h4) ex_46) rfl fun _ => ?_; dsimp only [List.cons_append, List.nil_append]
          obtain ⟨u_48, eu_48, H7⟩ := bnd H7
          refine TS.s OpY.move rfl ?_; refine TS.s (OpY.extract rfl) rfl ?_; refine TS.s (OpY.extract rfl) rfl ?_; refine TS.s OpY.assign rfl ?_; refine TS.s OpY.assign rfl ?_; refine TS.nil ?_; refine TE.then ?_; refine TC.kp [0, 1, 2, 3, 4, 12, 16, 17] [b0] ?_; refine TC.seqS ?_; refine TS.s OpY.move rfl ?_; refine TS.s OpY.assign rfl ?_; refine TS.nil ?_; refine TE.then ?_; refine TC.kp [0, 1, 2, 3, 4, 11, 12, 16] [b0] ?_; refine TC.seqS ?_; refine TS.s OpY.move rfl ?_; refine TS.s OpY.move rfl ?_
          obtain ⟨x_49, ex_49, H7⟩ := bnd H7
          refine TS.s (OpD.sub ex_49) rfl ?_; refine TS.s OpY.move rfl ?_; refine TS.s OpY.move rfl ?_
          obtain ⟨x_50, ex_50, H7⟩ := bnd H7
          refine TS.s (OpD.sub ex_50) rfl ?_; refine TS.s OpY.assign rfl ?_; refine TS.s OpY.assign rfl ?_; refine TS.nil ?_; refine TE.then ?_; refine TC.kp [0, 1, 2, 3, 4, 11, 12, 16, 18, 19] [b0] ?_; refine TC.seqS ?_; refine TS.s OpY.move rfl ?_
          obtain ⟨x_51, ex_51, H7⟩ := bnd H7
          refine TS.s (OpD.quo ex_51) rfl ?_; refine TS.s OpY.assign rfl ?_; refine TS.nil ?_; refine TE.then ?_; refine TC.kp [0, 1, 2, 3, 4, 11, 16, 18, 19, 20] [b0] ?_; refine TC.seqS ?_; refine TS.s OpY.move rfl ?_; refine TS.s OpY.move rfl ?_; refine TS.s OpY.lss rfl ?_; refine TS.nil ?_; refine TE.then ?_; refine TC.kp [0, 1, 2, 3, 4, 11, 16, 18, 19, 20, 125] [b0] ?_; refine TC.cond (fun hc => ?_) (fun hc => ?_)
          · replace H7 := cT H7 hc
            refine TC.seqS ?_; refine TS.s OpY.move rfl ?_; refine TS.s OpY.move rfl ?_; refine TS.s OpY.geq rfl ?_; refine TS.s OpY.assign rfl ?_; refine TS.nil ?_; refine TE.then ?_; refine TC.kp [0, 1, 2, 3, 4, 10, 11, 16] [b0] ?_; refine TC.seqS ?_; refine TS.s OpY.move rfl ?_; refine TS.s OpY.move rfl ?_; refine TS.s OpY.move rfl ?_; refine TS.s OpY.move rfl ?_; refine TS.s OpY.move rfl ?_
            obtain ⟨x_52, ex_52, H7⟩ := bnd H7
            refine TS.t (OpT.callO5 [b0] fun w v0 v1 v2 v3 v4 hA hO hap hks h0 h1 h2 h3 h4 => ih w v0 v1 v2 v3 v4 hA hO hap hks (slD (lenI_eq eu_48) h0) (toD h1) (toD h2) (toD h3) (toD h4) ex_52) rfl fun _ => ?_; dsimp only [List.cons_append, List.nil_append]
            obtain ⟨u_54, eu_54, H7⟩ := bnd H7
            refine TS.nil ?_; refine TE.then ?_; refine TC.kp [0, 2, 3, 4, 10, 11, 16] [b0] ?_; refine TC.regionS ?_; refine TS.s OpY.move rfl ?_
            obtain ⟨x_55, ex_55, H7⟩ := bnd H7
            refine TS.s (OpD.add ex_55) rfl ?_; refine TS.s OpY.assign rfl ?_; refine TS.nil ?_; refine TE.kp [0, 1, 2, 3, 4, 10, 11] [b0] ?_; refine TE.inBlock_normal ?_; exact TE.backP ⟨x_55, b_2, limit_15, (decide (x_49 ≥ x_51)), x_46.2.1, x_52⟩ () (Option.some.inj H7).symm (Env.cv (Env.cv (Env.cv (Env.cv (Env.cv (Env.cv (Env.cvBy (Sl_le ((lenI_eq eu_48).trans (lenI_eq eu_54))) (Env.le_nil _)))))))) (Less.pk rfl (Less.nil _))
          · replace H7 := cF H7 hc
            refine TC.seqS ?_; refine TS.s OpY.move rfl ?_; refine TS.s OpY.move rfl ?_; refine TS.s OpY.geq rfl ?_; refine TS.s OpY.assign rfl ?_; refine TS.nil ?_; refine TE.then ?_; refine TC.kp [0, 1, 2, 3, 4, 10, 11, 16] [b0] ?_; refine TC.seqS ?_; refine TS.s OpY.move rfl ?_; refine TS.s OpY.move rfl ?_
            obtain ⟨x_56, ex_56, H7⟩ := bnd H7
            refine TS.s (OpD.add ex_56) rfl ?_; refine TS.s OpY.move rfl ?_; refine TS.s OpY.move rfl ?_; refine TS.s OpY.move rfl ?_
            obtain ⟨x_57, ex_57, H7⟩ := bnd H7
            refine TS.t (OpT.callO5 [b0] fun w v0 v1 v2 v3 v4 hA hO hap hks h0 h1 h2 h3 h4 => ih w v0 v1 v2 v3 v4 hA hO hap hks (slD (lenI_eq eu_48) h0) (toD h1) (toD h2) (toD h3) (toD h4) ex_57) rfl fun _ => ?_; dsimp only [List.cons_append, List.nil_append]
            obtain ⟨u_59, eu_59, H7⟩ := bnd H7
            refine TS.nil ?_; refine TE.then ?_; refine TC.kp [0, 1, 3, 4, 10, 11, 16] [b0] ?_; refine TC.regionS ?_; refine TS.s OpY.move rfl ?_; refine TS.s OpY.assign rfl ?_; refine TS.nil ?_; refine TE.kp [0, 1, 2, 3, 4, 10, 11] [b0] ?_; refine TE.inBlock_normal ?_; exact TE.backP ⟨a_1, x_46.1, limit_15, (decide (x_50 ≥ x_51)), x_46.2.1, x_57⟩ () (Option.some.inj H7).symm (Env.cv (Env.cv (Env.cv (Env.cv (Env.cv (Env.cv (Env.cvBy (Sl_le ((lenI_eq eu_48).trans (lenI_eq eu_59))) (Env.le_nil _)))))))) (Less.pk rfl (Less.nil _))
theorem slices_pdqsortCmpFunc_api_Prefix_o {A : Nat → Prop} {data0 : (List Prefix)} {a0 : Int} {b0x : Int} {limit0 : Int} {cmp0 : (F2 Try.prog Prefix Prefix Int)} {b0 c0 : Nat} {p0 : Prop} {r : (List Prefix)} (w : World) (v0 v1 v2 v3 v4 : Value) (hA : ∀ k, w.heap.size ≤ k → A k) (hO : OwnIn A [⟨b0, p0, Row (data0 : List Prefix) c0⟩]) (hap : Apart [⟨b0, p0, Row (data0 : List Prefix) c0⟩]) (hks : Pks (Pub A [⟨b0, p0, Row (data0 : List Prefix) c0⟩]) [⟨b0, p0, Row (data0 : List Prefix) c0⟩] w) (h0 : (Sl b0 p0 0 data0.length c0).p (Pub A [⟨b0, p0, Row (data0 : List Prefix) c0⟩]) w v0) (h1 : (D (a0 : Int)).p (Pub A [⟨b0, p0, Row (data0 : List Prefix) c0⟩]) w v1) (h2 : (D (b0x : Int)).p (Pub A [⟨b0, p0, Row (data0 : List Prefix) c0⟩]) w v2) (h3 : (D (limit0 : Int)).p (Pub A [⟨b0, p0, Row (data0 : List Prefix) c0⟩]) w v3) (h4 : (D (cmp0 : (F2 Try.prog Prefix Prefix Int))).p (Pub A [⟨b0, p0, Row (data0 : List Prefix) c0⟩]) w v4) (H : slices_pdqsortCmpFunc_api_Prefix data0 a0 b0x limit0 cmp0 = some r) :
    Calls Try.prog 45 #[v0, v1, v2, v3, v4] w (RetO A w [⟨b0, p0, Row (data0 : List Prefix) c0⟩] (fun g : Unit => Tup []) fun g => [⟨b0, p0, Row (r : List Prefix) c0⟩]) := slices_pdqsortCmpFunc_api_Prefix_o_ih _ w v0 v1 v2 v3 v4 hA hO hap hks h0 h1 h2 h3 h4 H
def slices_SortFunc_api_Prefix (x0 : (List Prefix)) (cmp0 : (F2 Try.prog Prefix Prefix Int)) : Option (List Prefix) :=
  (math_bits_Len (UInt64.ofInt (x0.length : Int))).bind fun x_1 => (slices_pdqsortCmpFunc_api_Prefix x0 (0 : Int) (x0.length : Int) x_1 cmp0).bind fun x_2 => (lenI x_2.length x0.length).bind fun u_4 => some x_2
theorem slices_SortFunc_api_Prefix_o {A : Nat → Prop} {x0 : (List Prefix)} {cmp0 : (F2 Try.prog Prefix Prefix Int)} {b0 c0 : Nat} {p0 : Prop} {r : (List Prefix)} (w : World) (v0 v1 : Value) (hA : ∀ k, w.heap.size ≤ k → A k) (hO : OwnIn A [⟨b0, p0, Row (x0 : List Prefix) c0⟩]) (hap : Apart [⟨b0, p0, Row (x0 : List Prefix) c0⟩]) (hks : Pks (Pub A [⟨b0, p0, Row (x0 : List Prefix) c0⟩]) [⟨b0, p0, Row (x0 : List Prefix) c0⟩] w) (h0 : (Sl b0 p0 0 x0.length c0).p (Pub A [⟨b0, p0, Row (x0 : List Prefix) c0⟩]) w v0) (h1 : (D (cmp0 : (F2 Try.prog Prefix Prefix Int))).p (Pub A [⟨b0, p0, Row (x0 : List Prefix) c0⟩]) w v1) (H : slices_SortFunc_api_Prefix x0 cmp0 = some r) :
    Calls Try.prog 32 #[v0, v1] w (RetO A w [⟨b0, p0, Row (x0 : List Prefix) c0⟩] (fun g : Unit => Tup []) fun g => [⟨b0, p0, Row (r : List Prefix) c0⟩]) := by
  unfold slices_SortFunc_api_Prefix at H
  refine enterO2 hA hap hks Try.func32 rfl Try.ntmps32 rfl h0 h1 ?_; refine TC.seqS ?_; refine TS.s OpY.move rfl ?_; refine TS.s (OpD.lenSv (n := x0.length) rfl) rfl ?_; refine TS.s OpY.assign rfl ?_; refine TS.nil ?_; refine TE.then ?_; refine TC.kp [0, 1, 4] [b0] ?_; refine TC.regionS ?_; refine TS.s OpY.move rfl ?_; refine TS.s OpY.move rfl ?_; refine TS.s OpY.move rfl ?_; refine TS.s OpY.convi_64 rfl ?_
  obtain ⟨x_1, ex_1, H⟩ := bnd H
  refine TS.s (OpY.call1 fun w v0 hA h0 => math_bits_Len_c w v0 hA (toD h0) ex_1) rfl ?_; refine TS.s OpY.move rfl ?_
  obtain ⟨x_2, ex_2, H⟩ := bnd H
  refine TS.t (OpT.callO5 [b0] fun w v0 v1 v2 v3 v4 hA hO hap hks h0 h1 h2 h3 h4 => slices_pdqsortCmpFunc_api_Prefix_o w v0 v1 v2 v3 v4 hA hO hap hks (slD rfl h0) (toD h1) (toD h2) (toD h3) (toD h4) ex_2) rfl fun _ => ?_; dsimp only [List.cons_append, List.nil_append]
  obtain ⟨u_4, eu_4, H⟩ := bnd H
  refine TS.nil ?_; refine TE.kp [] [b0] ?_
  obtain rfl := (Option.some.inj H)
  exact TE.endON rfl rfl () .nil (Less.pk rfl (Less.nil _))
def slices_Reverse_api_Prefix_l1 (i_4 : Int) (j_5 : Int) (s_6 : (List Prefix)) : Option ((Int × Int × (List Prefix)) ⊕ (List Prefix)) :=
  bif (decide (i_4 < j_5)) then ((idx s_6 j_5).bind fun x_8 => (idx s_6 i_4).bind fun x_9 => (idx s_6 i_4).bind fun x_10 => (idx (s_6.set (Int.toNat i_4) x_8) j_5).bind fun x_11 => (some (((s_6.set (Int.toNat i_4) x_8).set (Int.toNat j_5) x_9) : (List Prefix))).bind fun l_12 => (addI i_4 (1 : Int)).bind fun x_13 => (subI j_5 (1 : Int)).bind fun x_14 => some (.inl (x_13, x_14, l_12))) else (some (.inr s_6))
def slices_Reverse_api_Prefix (s0 : (List Prefix)) : Option (List Prefix) :=
  (subI (s0.length : Int) (1 : Int)).bind fun x_1 => (loopO (fun s => slices_Reverse_api_Prefix_l1 s.1 s.2.1 s.2.2) ((0 : Int), x_1, s0)).bind fun s_2 => some s_2
theorem slices_Reverse_api_Prefix_o {A : Nat → Prop} {s0 : (List Prefix)} {b0 c0 : Nat} {p0 : Prop} {r : (List Prefix)} (w : World) (v0 : Value) (hA : ∀ k, w.heap.size ≤ k → A k) (hO : OwnIn A [⟨b0, p0, Row (s0 : List Prefix) c0⟩]) (hap : Apart [⟨b0, p0, Row (s0 : List Prefix) c0⟩]) (hks : Pks (Pub A [⟨b0, p0, Row (s0 : List Prefix) c0⟩]) [⟨b0, p0, Row (s0 : List Prefix) c0⟩] w) (h0 : (Sl b0 p0 0 s0.length c0).p (Pub A [⟨b0, p0, Row (s0 : List Prefix) c0⟩]) w v0) (H : slices_Reverse_api_Prefix s0 = some r) :
    Calls Try.prog 31 #[v0] w (RetO A w [⟨b0, p0, Row (s0 : List Prefix) c0⟩] (fun g : Unit => Tup []) fun g => [⟨b0, p0, Row (r : List Prefix) c0⟩]) := by
  unfold slices_Reverse_api_Prefix at H
  refine enterO1 hA hap hks Try.func31 rfl Try.ntmps31 rfl h0 ?_; refine TC.seqS ?_; refine TS.s OpY.move rfl ?_; refine TS.s (OpD.lenSv (n := s0.length) rfl) rfl ?_
  obtain ⟨x_1, ex_1, H⟩ := bnd H
  refine TS.s (OpD.sub ex_1) rfl ?_; refine TS.s OpY.assign rfl ?_; refine TS.s OpY.assign rfl ?_; refine TS.nil ?_; refine TE.then ?_; refine TC.kp [0, 2, 3] [b0] ?_
  obtain ⟨o_3, H3, H⟩ := bnd H
  refine TC.cutP (fun s : (List Prefix) => o_3 = s) (fun (s_2 : (List Prefix)) (_ : Unit) => Env.nil) (fun (s_2 : (List Prefix)) (_ : Unit) => [⟨b0, p0, (Row (s_2 : List Prefix) c0)⟩]) ?_ ?_
  · skip
    refine TC.block ?_; refine TC.loopP H3 (fun ⟨i_4, j_5, s_6⟩ (_ : Unit) => (Env.set (Env.set (Env.set Env.nil 0 (Sl b0 p0 0 s_6.length c0)) 2 (D (i_4 : Int))) 3 (D (j_5 : Int)))) (fun ⟨i_4, j_5, s_6⟩ (_ : Unit) => [⟨b0, p0, (Row (s_6 : List Prefix) c0)⟩]) () (Env.cv (Env.cv (Env.cvBy (Sl_le rfl) (Env.le_nil _)))) (Less.pk rfl (Less.nil _)) ?_
    rintro ⟨i_4, j_5, s_6⟩ ⟨⟩ x_7 H7 he7
    replace H7 : slices_Reverse_api_Prefix_l1 i_4 j_5 s_6 = some x_7 := H7
    unfold slices_Reverse_api_Prefix_l1 at H7
    refine TC.seq ?_; refine TC.seqS ?_; refine TS.s OpY.move rfl ?_; refine TS.s OpY.move rfl ?_; refine TS.s OpY.lss rfl ?_; refine TS.nil ?_; refine TE.then ?_; refine TC.kp [0, 2, 3, 9] [b0] ?_; refine TC.cond (fun hc => ?_) (fun hc => ?_)
    · replace H7 := cT H7 hc
      refine TC.skip ?_; refine TE.then ?_; refine TC.kp [0, 2, 3] [b0] ?_; refine TC.seq ?_; refine TC.block ?_; refine TC.regD2 [0, 0, 0, 0, 0, 0, 0, 2, 0, 0, 0, 2, 0, 1, 0, 1] [b0] mix (by kernel_rfl) (by kernel_rfl) ?_; refine TR2.s OpY.move rfl ?_; refine TR2.s OpY.move rfl ?_; refine TR2.s OpY.move rfl ?_; refine TR2.s OpY.move rfl ?_; refine TR2.s OpY.move rfl ?_; refine TR2.s OpY.move rfl ?_
      obtain ⟨x_8, ex_8, H7⟩ := bnd H7
      refine TR2.s (OpD.indexq (idx_in ex_8 rfl)) rfl ?_; refine TR2.r (fun g => OpG.s (OpD.ldq (Pl.rowz ex_8))) rfl ?_; refine TR2.s OpY.move rfl ?_; refine TR2.s OpY.move rfl ?_
      obtain ⟨x_9, ex_9, H7⟩ := bnd H7
      refine TR2.s (OpD.indexq (idx_in ex_9 rfl)) rfl ?_; refine TR2.r (fun g => OpG.s (OpD.ldq (Pl.rowz ex_9))) rfl ?_
      obtain ⟨x_10, ex_10, H7⟩ := bnd H7
      refine TR2.s (OpD.indexq (idx_in ex_10 rfl)) rfl ?_; refine TR2.tn (fun Ωr g => (OpT.storeq (y := (x_8 : Prefix)) (Pl.rowz ex_10))) rfl ?_
      obtain ⟨x_11, ex_11, H7⟩ := bnd H7
      refine TR2.s (OpD.indexq (idx_in ex_11 (by simp))) rfl ?_; refine TR2.tn (fun Ωr g => (OpT.storeq (y := (x_9 : Prefix)) (Pl.rowz ex_11))) rfl ?_; refine TR2.nil ?_
      rintro ⟨⟨⟨⟨_, _⟩, _⟩, _⟩, _⟩
      dsimp only [Fam.nextS, Fam.nextN, Fam.one, List.cons_append, List.nil_append]
      refine TE.kp [0, 2, 3] [b0] ?_
      obtain ⟨l_12, el_12, H7⟩ := bnd H7
      refine TE.nmB b0 (nm_row el_12) ?_; refine TE.see 0 _ (nm_sl2 el_12 (by simp)) ?_; refine TE.inBlock_normal ?_; refine TE.then ?_; refine TC.kp [0, 2, 3] [b0] ?_; refine TC.regionS ?_; refine TS.s OpY.move rfl ?_
      obtain ⟨x_13, ex_13, H7⟩ := bnd H7
      refine TS.s (OpD.add ex_13) rfl ?_; refine TS.s OpY.move rfl ?_
      obtain ⟨x_14, ex_14, H7⟩ := bnd H7
      refine TS.s (OpD.sub ex_14) rfl ?_; refine TS.s OpY.assign rfl ?_; refine TS.s OpY.assign rfl ?_; refine TS.nil ?_; refine TE.kp [0, 2, 3] [b0] ?_; exact TE.backP ⟨x_13, x_14, l_12⟩ () (Option.some.inj H7).symm (Env.cv (Env.cv (Env.cvBy (Sl_le rfl) (Env.le_nil _)))) (Less.pk rfl (Less.nil _))
    · replace H7 := cF H7 hc
      refine TC.exit ?_; refine TE.then_exit ?_; refine TE.then_exit ?_; refine TE.inBlock_here ?_; exact TE.cutP s_6 () (he7 _ (Option.some.inj H7).symm).symm (Env.le_nil _) (Less.pk rfl (Less.nil _))
  rintro s_2 ⟨⟩ hp
  replace hp := hp.symm
  subst hp
  obtain rfl := (Option.some.inj H)
  exact TE.endON rfl rfl () .nil (Less.pk rfl (Less.nil _))
end Go.Proofs.Ytpknphecmahkaaa.Tr
