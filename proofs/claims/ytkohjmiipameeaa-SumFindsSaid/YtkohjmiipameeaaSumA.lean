/- The sums and the numbers of layer 5: what they come to. Conditions: none. -/
import Derived.Test.YtkohjmiipameeaaTab
import Derived.Test.YtkohjmiipameeaaSumP
namespace Go.Proofs.Ytkohjmiipameeaa.Tr
open Go Go.RowKit
set_option linter.unusedVariables false
set_option linter.unnecessarySimpa false

/-- sum.On -/
theorem sum_On_c {A : Nat → Prop} {s : UInt32} {xs : List UInt8} (w : World) (v0 v1 : Value)  (h0 : (U32 s).p w v0) (h1 : (D A xs).p w v1) :
    Calls Try.prog 12 #[v0, v1] w (Ret w (U32 (crcOn s xs))) := by
  have hlen := (D.wf h1).1
  unfold most at hlen
  refine enter2 Try.func12 rfl Try.ntmps12 rfl h0 h1 ?_
  refine TC.seqR mix rfl ?_
  refine TR.s OpY.assign rfl ?_
  refine TR.nil ?_
  refine TC.keep [0, 1] ?_
  refine TC.seqR mix rfl ?_
  refine TR.s OpY.move rfl ?_
  refine TR.s OpY.not32 rfl ?_
  refine TR.s OpY.assign rfl ?_
  refine TR.nil ?_
  refine TC.keep [1, 5] ?_
  refine TC.seq ?_
  refine TC.seqR mix rfl ?_
  refine TR.s OpY.move rfl ?_
  refine TR.s OpY.len rfl ?_
  refine TR.s OpY.move rfl ?_
  refine TR.nil ?_
  refine TC.keep [5, 11, 12, 13] ?_
  refine TC.block ?_
  refine TC.loop (γ := {k : Nat // k ≤ xs.length}) (fun ⟨k, hk⟩ => (Env.set (Env.set (Env.set (Env.set Env.nil 5 (U32 (crcBytes (~~~s) (xs.take k)))) 11 (D A xs)) 12 (I xs.length)) 13 (I (k : Nat)))) (fun ⟨k, hk⟩ => xs.length - k) ⟨0, by omega⟩ ?_ ?_
  · exact Env.le_set (Has.leAt (by (first | exact Ty.le.refl _ | exact I_le (by omega)))) (Env.le_set (Has.leAt (by (first | exact Ty.le.refl _ | exact I_le (by omega)))) (Env.le_set (Has.leAt (by (first | exact Ty.le.refl _ | exact I_le (by omega)))) (Env.le_set (Has.leAt (by (first | exact Ty.le.refl _ | exact I_le (by omega)))) (Env.le_nil _))))
  rintro ⟨k, hk⟩
  refine TC.seqR mix rfl ?_
  refine TR.s OpY.lss rfl ?_
  refine TR.nil ?_
  refine TC.keep [5, 11, 12, 13, 14] ?_
  refine TC.seq ?_
  refine TC.cond (fun hc => ?_) (fun hc => ?_)
  · replace hc := of_decide_eq_true hc
    refine TC.skip ?_
    refine TE.then ?_
    refine TC.keep [5, 11, 12, 13] ?_
    refine TC.seq ?_
    refine TC.block ?_
    refine TC.seqR mix rfl ?_
    refine TR.s (OpY.indexN (List.getElem?_eq_getElem (by omega))) rfl ?_
    refine TR.s OpY.load rfl ?_
    refine TR.s OpY.assign rfl ?_
    refine TR.nil ?_
    refine TC.keep [5, 7, 11, 12, 13] ?_
    refine TC.seqR mix rfl ?_
    refine TR.s OpY.move rfl ?_
    refine TR.s OpY.move rfl ?_
    refine TR.s OpY.conv8_32 rfl ?_
    refine TR.s OpY.xor32 rfl ?_
    refine TR.s OpY.assign rfl ?_
    refine TR.nil ?_
    refine TC.keep [5, 11, 12, 13] ?_
    refine TC.seqR mix rfl ?_
    refine TR.s OpY.move rfl ?_
    refine TR.nil ?_
    refine TC.keep [5, 11, 12, 13, 21] ?_
    refine TC.block ?_
    refine TC.loop (γ := {j : Nat // j ≤ 8}) (fun ⟨j, hj⟩ => (Env.set (Env.set (Env.set (Env.set (Env.set Env.nil 5 (U32 (crcBits j (crcBytes (~~~s) (xs.take k) ^^^ (xs[k]'(by omega)).toUInt32)))) 11 (D A xs)) 12 (I xs.length)) 13 (I (k : Nat))) 21 (I (j : Nat)))) (fun ⟨j, hj⟩ => 8 - j) ⟨0, by omega⟩ ?_ ?_
    · exact Env.le_set (Has.leAt (by (first | exact Ty.le.refl _ | exact I_le (by omega)))) (Env.le_set (Has.leAt (by (first | exact Ty.le.refl _ | exact I_le (by omega)))) (Env.le_set (Has.leAt (by (first | exact Ty.le.refl _ | exact I_le (by omega)))) (Env.le_set (Has.leAt (by (first | exact Ty.le.refl _ | exact I_le (by omega)))) (Env.le_set (Has.leAt (by (first | exact Ty.le.refl _ | exact I_le (by omega)))) (Env.le_nil _)))))
    rintro ⟨j, hj⟩
    refine TC.seqR mix rfl ?_
    refine TR.s OpY.lss rfl ?_
    refine TR.nil ?_
    refine TC.keep [5, 11, 12, 13, 21, 22] ?_
    refine TC.seq ?_
    refine TC.cond (fun hc => ?_) (fun hc => ?_)
    · replace hc := of_decide_eq_true hc
      refine TC.skip ?_
      refine TE.then ?_
      refine TC.keep [5, 11, 12, 13, 21] ?_
      refine TC.seq ?_
      refine TC.block ?_
      refine TC.seqR mix rfl ?_
      refine TR.s OpY.move rfl ?_
      refine TR.s OpY.and32 rfl ?_
      refine TR.s OpY.assign rfl ?_
      refine TR.nil ?_
      refine TC.keep [5, 8, 11, 12, 13, 21] ?_
      refine TC.seqR mix rfl ?_
      refine TR.s OpY.move rfl ?_
      refine TR.s (OpY.shr32 (by omega)) rfl ?_
      refine TR.s OpY.assign rfl ?_
      refine TR.nil ?_
      refine TC.keep [5, 8, 11, 12, 13, 21] ?_
      refine TC.region mix rfl ?_
      refine TR.s OpY.move rfl ?_
      refine TR.s OpY.move rfl ?_
      refine TR.s OpY.mul32 rfl ?_
      refine TR.s OpY.xor32 rfl ?_
      refine TR.s OpY.assign rfl ?_
      refine TR.nil ?_
      refine TE.keep [5, 11, 12, 13, 21] ?_
      refine TE.inBlock_normal ?_
      refine TE.then ?_
      refine TC.keep [5, 11, 12, 13, 21] ?_
      refine TC.region mix rfl ?_
      refine TR.s (OpY.add (by omega) (by omega)) rfl ?_
      refine TR.s OpY.move rfl ?_
      refine TR.nil ?_
      refine TE.keep [5, 11, 12, 13, 21] ?_
      refine TE.back (γ := {j : Nat // j ≤ 8}) (μ := fun ⟨j, hj⟩ => 8 - j) (g := ⟨j, hj⟩) ⟨j + 1, by omega⟩ (by first | omega | (dsimp only; omega)) ?_
      exact Env.le_set (Has.leAt (by (first | exact Ty.le.refl _ | exact I_le (by omega)))) (Env.le_set (Has.leAt (by (first | exact Ty.le.refl _ | exact I_le (by omega)))) (Env.le_set (Has.leAt (by (first | exact Ty.le.refl _ | exact I_le (by omega)))) (Env.le_set (Has.leAt (by (first | exact Ty.le.refl _ | exact I_le (by omega)))) (Env.le_set (Has.leAt (by exact U32_le (crc_bit _ _))) (Env.le_nil _)))))
    · replace hc := of_decide_eq_false hc
      refine TC.exit ?_
      refine TE.then_exit ?_
      refine TE.then_exit ?_
      refine TE.inBlock_here ?_
      refine TE.inBlock_normal ?_
      refine TE.then ?_
      refine TC.keep [5, 11, 12, 13] ?_
      refine TC.region mix rfl ?_
      refine TR.s (OpY.add (by omega) (by omega)) rfl ?_
      refine TR.s OpY.move rfl ?_
      refine TR.nil ?_
      refine TE.keep [5, 11, 12, 13] ?_
      refine TE.back (γ := {k : Nat // k ≤ xs.length}) (μ := fun ⟨k, hk⟩ => xs.length - k) (g := ⟨k, hk⟩) ⟨k + 1, by omega⟩ (by first | omega | (dsimp only; omega)) ?_
      exact Env.le_set (Has.leAt (by (first | exact Ty.le.refl _ | exact I_le (by omega)))) (Env.le_set (Has.leAt (by (first | exact Ty.le.refl _ | exact I_le (by omega)))) (Env.le_set (Has.leAt (by (first | exact Ty.le.refl _ | exact I_le (by omega)))) (Env.le_set (Has.leAt (by exact U32_le (crc_step8 (by omega) (by omega)))) (Env.le_nil _))))
  · replace hc := of_decide_eq_false hc
    refine TC.exit ?_
    refine TE.then_exit ?_
    refine TE.then_exit ?_
    refine TE.inBlock_here ?_
    refine TE.then ?_
    refine TC.keep [5] ?_
    refine TC.seqR mix rfl ?_
    refine TR.s OpY.move rfl ?_
    refine TR.s OpY.not32 rfl ?_
    refine TR.s OpY.assign rfl ?_
    refine TR.nil ?_
    refine TC.keep [4] ?_
    refine TC.ret ?_
    exact TE.ret1 rfl (U32_le (by rw [show k = xs.length by omega, List.take_length]; rfl))
/-- sum.Of -/
theorem sum_Of_c {A : Nat → Prop} {xs : List UInt8} (w : World) (v0 : Value)  (h0 : (D A xs).p w v0) :
    Calls Try.prog 10 #[v0] w (Ret w (U32 (crcOn 0 xs))) := by
  refine enter1 Try.func10 rfl Try.ntmps10 rfl h0 ?_
  refine TC.seqR mix rfl ?_
  refine TR.s OpY.assign rfl ?_
  refine TR.nil ?_
  refine TC.keep [0] ?_
  refine TC.seqR mix rfl ?_
  refine TR.s OpY.move rfl ?_
  refine TR.s (OpY.call2 fun w v0 v1 hB h0 h1 => sum_On_c w v0 v1 h0 h1) rfl ?_
  refine TR.s OpY.assign rfl ?_
  refine TR.nil ?_
  refine TC.keep [2] ?_
  refine TC.ret ?_
  exact TE.ret1 rfl (Ty.le.refl _)
/-- sum.Get -/
theorem sum_Get_c {A : Nat → Prop} {xs : List UInt8} (w : World) (v0 : Value)  (h0 : (D A xs).p w v0) :
    Calls Try.prog 15 #[v0] w (Ret w (U64 (getNum xs))) := by
  have hlen := (D.wf h0).1
  unfold most at hlen
  refine enter1 Try.func15 rfl Try.ntmps15 rfl h0 ?_
  refine TC.seqR mix rfl ?_
  refine TR.s OpY.assign rfl ?_
  refine TR.nil ?_
  refine TC.keep [0] ?_
  refine TC.seqR mix rfl ?_
  refine TR.s OpY.assign rfl ?_
  refine TR.nil ?_
  refine TC.keep [0, 3] ?_
  refine TC.seq ?_
  refine TC.seqR mix rfl ?_
  refine TR.s OpY.move rfl ?_
  refine TR.s OpY.len rfl ?_
  refine TR.s OpY.move rfl ?_
  refine TR.nil ?_
  refine TC.keep [3, 6, 7, 8] ?_
  refine TC.block ?_
  refine TC.loop (γ := {k : Nat // k ≤ xs.length}) (fun ⟨k, hk⟩ => (Env.set (Env.set (Env.set (Env.set Env.nil 3 (U64 (getNum (xs.take k)))) 6 (D A xs)) 7 (I xs.length)) 8 (I (k : Nat)))) (fun ⟨k, hk⟩ => xs.length - k) ⟨0, by omega⟩ ?_ ?_
  · exact Env.le_set (Has.leAt (by (first | exact Ty.le.refl _ | exact I_le (by omega)))) (Env.le_set (Has.leAt (by (first | exact Ty.le.refl _ | exact I_le (by omega)))) (Env.le_set (Has.leAt (by (first | exact Ty.le.refl _ | exact I_le (by omega)))) (Env.le_set (Has.leAt (by (first | exact Ty.le.refl _ | exact I_le (by omega)))) (Env.le_nil _))))
  rintro ⟨k, hk⟩
  refine TC.seqR mix rfl ?_
  refine TR.s OpY.lss rfl ?_
  refine TR.nil ?_
  refine TC.keep [3, 6, 7, 8, 9] ?_
  refine TC.seq ?_
  refine TC.cond (fun hc => ?_) (fun hc => ?_)
  · replace hc := of_decide_eq_true hc
    refine TC.skip ?_
    refine TE.then ?_
    refine TC.keep [3, 6, 7, 8] ?_
    refine TC.seq ?_
    refine TC.block ?_
    refine TC.seqR mix rfl ?_
    refine TR.s (OpY.indexN (List.getElem?_eq_getElem (by omega))) rfl ?_
    refine TR.s OpY.load rfl ?_
    refine TR.s OpY.assign rfl ?_
    refine TR.nil ?_
    refine TC.keep [3, 5, 6, 7, 8] ?_
    refine TC.region mix rfl ?_
    refine TR.s OpY.move rfl ?_
    refine TR.s (OpY.shl64 (by omega)) rfl ?_
    refine TR.s OpY.move rfl ?_
    refine TR.s OpY.conv8_64 rfl ?_
    refine TR.s OpY.or64 rfl ?_
    refine TR.s OpY.assign rfl ?_
    refine TR.nil ?_
    refine TE.keep [3, 6, 7, 8] ?_
    refine TE.inBlock_normal ?_
    refine TE.then ?_
    refine TC.keep [3, 6, 7, 8] ?_
    refine TC.region mix rfl ?_
    refine TR.s (OpY.add (by omega) (by omega)) rfl ?_
    refine TR.s OpY.move rfl ?_
    refine TR.nil ?_
    refine TE.keep [3, 6, 7, 8] ?_
    refine TE.back (γ := {k : Nat // k ≤ xs.length}) (μ := fun ⟨k, hk⟩ => xs.length - k) (g := ⟨k, hk⟩) ⟨k + 1, by omega⟩ (by first | omega | (dsimp only; omega)) ?_
    exact Env.le_set (Has.leAt (by (first | exact Ty.le.refl _ | exact I_le (by omega)))) (Env.le_set (Has.leAt (by (first | exact Ty.le.refl _ | exact I_le (by omega)))) (Env.le_set (Has.leAt (by (first | exact Ty.le.refl _ | exact I_le (by omega)))) (Env.le_set (Has.leAt (by exact U64_le (getNum_step (by omega)))) (Env.le_nil _))))
  · replace hc := of_decide_eq_false hc
    refine TC.exit ?_
    refine TE.then_exit ?_
    refine TE.then_exit ?_
    refine TE.inBlock_here ?_
    refine TE.then ?_
    refine TC.keep [3] ?_
    refine TC.seqR mix rfl ?_
    refine TR.s OpY.move rfl ?_
    refine TR.s OpY.assign rfl ?_
    refine TR.nil ?_
    refine TC.keep [2] ?_
    refine TC.ret ?_
    exact TE.ret1 rfl (U64_le (by rw [show k = xs.length by omega, List.take_length]))
/-- bywayref05.Of -/
theorem bywayref05_Of_c {A : Nat → Prop} {xs : List UInt8} (w : World) (v0 : Value)  (h0 : (D A xs).p w v0) :
    Calls Try.prog 11 #[v0] w (Ret w (U32 (crcOn 0 xs))) := by
  have hlen := (D.wf h0).1
  unfold most at hlen
  refine enter1 Try.func11 rfl Try.ntmps11 rfl h0 ?_
  refine TC.seqR mix rfl ?_
  refine TR.s OpY.assign rfl ?_
  refine TR.nil ?_
  refine TC.keep [0] ?_
  refine TC.seqR mix rfl ?_
  refine TR.s OpY.assign rfl ?_
  refine TR.nil ?_
  refine TC.keep [0, 3] ?_
  refine TC.seq ?_
  refine TC.seqR mix rfl ?_
  refine TR.s OpY.assign rfl ?_
  refine TR.nil ?_
  refine TC.keep [0, 3, 4] ?_
  refine TC.block ?_
  refine TC.loop (γ := {k : Nat // k ≤ xs.length}) (fun ⟨k, hk⟩ => (Env.set (Env.set (Env.set Env.nil 0 (D A xs)) 3 (U32 (crcBytes (~~~0) (xs.take k)))) 4 (I (k : Nat)))) (fun ⟨k, hk⟩ => xs.length - k) ⟨0, by omega⟩ ?_ ?_
  · exact Env.le_set (Has.leAt (by (first | exact Ty.le.refl _ | exact I_le (by omega)))) (Env.le_set (Has.leAt (by (first | exact Ty.le.refl _ | exact I_le (by omega)))) (Env.le_set (Has.leAt (by (first | exact Ty.le.refl _ | exact I_le (by omega)))) (Env.le_nil _)))
  rintro ⟨k, hk⟩
  refine TC.seq ?_
  refine TC.seqR mix rfl ?_
  refine TR.s OpY.move rfl ?_
  refine TR.s OpY.move rfl ?_
  refine TR.s OpY.len rfl ?_
  refine TR.s OpY.lss rfl ?_
  refine TR.nil ?_
  refine TC.keep [0, 3, 4, 10] ?_
  refine TC.cond (fun hc => ?_) (fun hc => ?_)
  · replace hc := of_decide_eq_true hc
    refine TC.skip ?_
    refine TE.then ?_
    refine TC.keep [0, 3, 4] ?_
    refine TC.seq ?_
    refine TC.block ?_
    refine TC.seqR mix rfl ?_
    refine TR.s OpY.move rfl ?_
    refine TR.s OpY.move rfl ?_
    refine TR.s OpY.move rfl ?_
    refine TR.s (OpY.indexN (List.getElem?_eq_getElem (by omega))) rfl ?_
    refine TR.s OpY.load rfl ?_
    refine TR.s OpY.conv8_32 rfl ?_
    refine TR.s OpY.xor32 rfl ?_
    refine TR.s OpY.assign rfl ?_
    refine TR.nil ?_
    refine TC.keep [0, 3, 4] ?_
    refine TC.seqR mix rfl ?_
    refine TR.s OpY.assign rfl ?_
    refine TR.nil ?_
    refine TC.keep [0, 3, 4, 5] ?_
    refine TC.block ?_
    refine TC.loop (γ := {j : Nat // j ≤ 8}) (fun ⟨j, hj⟩ => (Env.set (Env.set (Env.set (Env.set Env.nil 0 (D A xs)) 3 (U32 (crcBits j (crcBytes (~~~0) (xs.take k) ^^^ (xs[k]'(by omega)).toUInt32)))) 4 (I (k : Nat))) 5 (I (j : Nat)))) (fun ⟨j, hj⟩ => 8 - j) ⟨0, by omega⟩ ?_ ?_
    · exact Env.le_set (Has.leAt (by (first | exact Ty.le.refl _ | exact I_le (by omega)))) (Env.le_set (Has.leAt (by (first | exact Ty.le.refl _ | exact I_le (by omega)))) (Env.le_set (Has.leAt (by (first | exact Ty.le.refl _ | exact I_le (by omega)))) (Env.le_set (Has.leAt (by (first | exact Ty.le.refl _ | exact I_le (by omega)))) (Env.le_nil _))))
    rintro ⟨j, hj⟩
    refine TC.seq ?_
    refine TC.seqR mix rfl ?_
    refine TR.s OpY.move rfl ?_
    refine TR.s OpY.lss rfl ?_
    refine TR.nil ?_
    refine TC.keep [0, 3, 4, 5, 21] ?_
    refine TC.cond (fun hc => ?_) (fun hc => ?_)
    · replace hc := of_decide_eq_true hc
      refine TC.skip ?_
      refine TE.then ?_
      refine TC.keep [0, 3, 4, 5] ?_
      refine TC.seq ?_
      refine TC.block ?_
      refine TC.seqR mix rfl ?_
      refine TR.s OpY.move rfl ?_
      refine TR.s (OpY.rem32 (by decide)) rfl ?_
      refine TR.s OpY.eql32 rfl ?_
      refine TR.s OpY.assign rfl ?_
      refine TR.nil ?_
      refine TC.keep [0, 3, 4, 5, 6] ?_
      refine TC.seqR mix rfl ?_
      refine TR.s OpY.move rfl ?_
      refine TR.s (OpY.quo32 (by decide)) rfl ?_
      refine TR.s OpY.assign rfl ?_
      refine TR.nil ?_
      refine TC.keep [0, 3, 4, 5, 6] ?_
      refine TC.seqR mix rfl ?_
      refine TR.s OpY.move rfl ?_
      refine TR.nil ?_
      refine TC.keep [0, 3, 4, 5, 29] ?_
      refine TC.cond (fun hc => ?_) (fun hc => ?_)
      · skip
        replace hc := of_decide_eq_true hc
        refine TC.region mix rfl ?_
        refine TR.s OpY.move rfl ?_
        refine TR.s OpY.xor32 rfl ?_
        refine TR.s OpY.assign rfl ?_
        refine TR.nil ?_
        refine TE.keep [0, 3, 4, 5] ?_
        refine TE.inBlock_normal ?_
        refine TE.then ?_
        refine TC.keep [0, 3, 4, 5] ?_
        refine TC.region mix rfl ?_
        refine TR.s OpY.move rfl ?_
        refine TR.s (OpY.add (by omega) (by omega)) rfl ?_
        refine TR.s OpY.assign rfl ?_
        refine TR.nil ?_
        refine TE.keep [0, 3, 4, 5] ?_
        refine TE.back (γ := {j : Nat // j ≤ 8}) (μ := fun ⟨j, hj⟩ => 8 - j) (g := ⟨j, hj⟩) ⟨j + 1, by omega⟩ (by first | omega | (dsimp only; omega)) ?_
        exact Env.le_set (Has.leAt (by (first | exact Ty.le.refl _ | exact I_le (by omega)))) (Env.le_set (Has.leAt (by (first | exact Ty.le.refl _ | exact I_le (by omega)))) (Env.le_set (Has.leAt (by exact U32_le (crc_ref1 hc))) (Env.le_set (Has.leAt (by (first | exact Ty.le.refl _ | exact I_le (by omega)))) (Env.le_nil _))))
      · skip
        replace hc := of_decide_eq_false hc
        refine TC.skip ?_
        refine TE.inBlock_normal ?_
        refine TE.then ?_
        refine TC.keep [0, 3, 4, 5] ?_
        refine TC.region mix rfl ?_
        refine TR.s OpY.move rfl ?_
        refine TR.s (OpY.add (by omega) (by omega)) rfl ?_
        refine TR.s OpY.assign rfl ?_
        refine TR.nil ?_
        refine TE.keep [0, 3, 4, 5] ?_
        refine TE.back (γ := {j : Nat // j ≤ 8}) (μ := fun ⟨j, hj⟩ => 8 - j) (g := ⟨j, hj⟩) ⟨j + 1, by omega⟩ (by first | omega | (dsimp only; omega)) ?_
        exact Env.le_set (Has.leAt (by (first | exact Ty.le.refl _ | exact I_le (by omega)))) (Env.le_set (Has.leAt (by (first | exact Ty.le.refl _ | exact I_le (by omega)))) (Env.le_set (Has.leAt (by exact U32_le (crc_ref0 hc))) (Env.le_set (Has.leAt (by (first | exact Ty.le.refl _ | exact I_le (by omega)))) (Env.le_nil _))))
    · replace hc := of_decide_eq_false hc
      refine TC.exit ?_
      refine TE.then_exit ?_
      refine TE.then_exit ?_
      refine TE.inBlock_here ?_
      refine TE.inBlock_normal ?_
      refine TE.then ?_
      refine TC.keep [0, 3, 4] ?_
      refine TC.region mix rfl ?_
      refine TR.s OpY.move rfl ?_
      refine TR.s (OpY.add (by omega) (by omega)) rfl ?_
      refine TR.s OpY.assign rfl ?_
      refine TR.nil ?_
      refine TE.keep [0, 3, 4] ?_
      refine TE.back (γ := {k : Nat // k ≤ xs.length}) (μ := fun ⟨k, hk⟩ => xs.length - k) (g := ⟨k, hk⟩) ⟨k + 1, by omega⟩ (by first | omega | (dsimp only; omega)) ?_
      exact Env.le_set (Has.leAt (by (first | exact Ty.le.refl _ | exact I_le (by omega)))) (Env.le_set (Has.leAt (by exact U32_le (crc_step8 (by omega) (by omega)))) (Env.le_set (Has.leAt (by (first | exact Ty.le.refl _ | exact I_le (by omega)))) (Env.le_nil _)))
  · replace hc := of_decide_eq_false hc
    refine TC.exit ?_
    refine TE.then_exit ?_
    refine TE.then_exit ?_
    refine TE.inBlock_here ?_
    refine TE.then ?_
    refine TC.keep [3] ?_
    refine TC.seqR mix rfl ?_
    refine TR.s OpY.move rfl ?_
    refine TR.s OpY.sub32 rfl ?_
    refine TR.s OpY.assign rfl ?_
    refine TR.nil ?_
    refine TC.keep [2] ?_
    refine TC.ret ?_
    exact TE.ret1 rfl (U32_le (by rw [show k = xs.length by omega, List.take_length]; exact crc_refEnd _))
/-- bywayref05.Get -/
theorem bywayref05_Get_c {A : Nat → Prop} {xs : List UInt8} (w : World) (v0 : Value)  (h0 : (D A xs).p w v0) :
    Calls Try.prog 16 #[v0] w (Ret w (U64 (getNum xs))) := by
  have hlen := (D.wf h0).1
  unfold most at hlen
  refine enter1 Try.func16 rfl Try.ntmps16 rfl h0 ?_
  refine TC.seqR mix rfl ?_
  refine TR.s OpY.assign rfl ?_
  refine TR.nil ?_
  refine TC.keep [0] ?_
  refine TC.seqR mix rfl ?_
  refine TR.s OpY.assign rfl ?_
  refine TR.nil ?_
  refine TC.keep [0, 3] ?_
  refine TC.seq ?_
  refine TC.seqR mix rfl ?_
  refine TR.s OpY.assign rfl ?_
  refine TR.nil ?_
  refine TC.keep [0, 3, 4] ?_
  refine TC.block ?_
  refine TC.loop (γ := {k : Nat // k ≤ xs.length}) (fun ⟨k, hk⟩ => (Env.set (Env.set (Env.set Env.nil 0 (D A xs)) 3 (U64 (getNum (xs.take k)))) 4 (I (k : Nat)))) (fun ⟨k, hk⟩ => xs.length - k) ⟨0, by omega⟩ ?_ ?_
  · exact Env.le_set (Has.leAt (by (first | exact Ty.le.refl _ | exact I_le (by omega)))) (Env.le_set (Has.leAt (by (first | exact Ty.le.refl _ | exact I_le (by omega)))) (Env.le_set (Has.leAt (by (first | exact Ty.le.refl _ | exact I_le (by omega)))) (Env.le_nil _)))
  rintro ⟨k, hk⟩
  refine TC.seq ?_
  refine TC.seqR mix rfl ?_
  refine TR.s OpY.move rfl ?_
  refine TR.s OpY.move rfl ?_
  refine TR.s OpY.len rfl ?_
  refine TR.s OpY.lss rfl ?_
  refine TR.nil ?_
  refine TC.keep [0, 3, 4, 8] ?_
  refine TC.cond (fun hc => ?_) (fun hc => ?_)
  · replace hc := of_decide_eq_true hc
    refine TC.skip ?_
    refine TE.then ?_
    refine TC.keep [0, 3, 4] ?_
    refine TC.seq ?_
    refine TC.block ?_
    refine TC.region mix rfl ?_
    refine TR.s OpY.move rfl ?_
    refine TR.s OpY.mul64 rfl ?_
    refine TR.s OpY.move rfl ?_
    refine TR.s OpY.move rfl ?_
    refine TR.s (OpY.indexN (List.getElem?_eq_getElem (by omega))) rfl ?_
    refine TR.s OpY.load rfl ?_
    refine TR.s OpY.conv8_64 rfl ?_
    refine TR.s OpY.add64 rfl ?_
    refine TR.s OpY.assign rfl ?_
    refine TR.nil ?_
    refine TE.keep [0, 3, 4] ?_
    refine TE.inBlock_normal ?_
    refine TE.then ?_
    refine TC.keep [0, 3, 4] ?_
    refine TC.region mix rfl ?_
    refine TR.s OpY.move rfl ?_
    refine TR.s (OpY.add (by omega) (by omega)) rfl ?_
    refine TR.s OpY.assign rfl ?_
    refine TR.nil ?_
    refine TE.keep [0, 3, 4] ?_
    refine TE.back (γ := {k : Nat // k ≤ xs.length}) (μ := fun ⟨k, hk⟩ => xs.length - k) (g := ⟨k, hk⟩) ⟨k + 1, by omega⟩ (by first | omega | (dsimp only; omega)) ?_
    exact Env.le_set (Has.leAt (by (first | exact Ty.le.refl _ | exact I_le (by omega)))) (Env.le_set (Has.leAt (by exact U64_le (getNum_ref (by omega)))) (Env.le_set (Has.leAt (by (first | exact Ty.le.refl _ | exact I_le (by omega)))) (Env.le_nil _)))
  · replace hc := of_decide_eq_false hc
    refine TC.exit ?_
    refine TE.then_exit ?_
    refine TE.then_exit ?_
    refine TE.inBlock_here ?_
    refine TE.then ?_
    refine TC.keep [3] ?_
    refine TC.seqR mix rfl ?_
    refine TR.s OpY.move rfl ?_
    refine TR.s OpY.assign rfl ?_
    refine TR.nil ?_
    refine TC.keep [2] ?_
    refine TC.ret ?_
    exact TE.ret1 rfl (U64_le (by rw [show k = xs.length by omega, List.take_length]))
/-- sum.Put -/
theorem sum_Put_c {A : Nat → Prop} {B0 : Nat} {n : UInt64} {m : Int} (w : World) (v0 v1 : Value) (hB : B0 ≤ w.heap.size) (h0 : (U64 n).p w v0) (h1 : (I m).p w v1) :
    Calls Try.prog 13 #[v0, v1] w (Ret w (Own B0 A (putOf n m))) := by
  refine enter2 Try.func13 rfl Try.ntmps13 rfl h0 h1 ?_
  refine TC.seqR mix rfl ?_
  refine TR.s OpY.assign rfl ?_
  refine TR.nil ?_
  refine TC.keep [0, 1] ?_
  refine TC.seq ?_
  refine TC.seqR mix rfl ?_
  refine TR.s OpY.move rfl ?_
  refine TR.s OpY.lss rfl ?_
  refine TR.s OpY.move rfl ?_
  refine TR.g 9 rfl (fun hg => OpY.move) rfl ?_
  refine TR.g 9 rfl (fun hg => OpY.gtr) rfl ?_
  refine TR.s OpY.pickOr rfl ?_
  refine TR.nil ?_
  refine TC.keep [0, 1, 12] ?_
  refine TC.cond (fun hc => ?_) (fun hc => ?_)
  · skip
    refine TC.seqR mix rfl ?_
    refine TR.s OpY.assign rfl ?_
    refine TR.nil ?_
    refine TC.keep [4] ?_
    refine TC.ret ?_
    refine TE.then_ret ?_
    exact TE.ret1 rfl (NilS.own.trans (Own_le (putOf_none (by simpa using hc)).symm))
  · skip
    simp only [Bool.or_eq_false_iff, decide_eq_false_iff_not] at hc
    obtain ⟨hc1, hc2⟩ := hc
    refine TC.skip ?_
    refine TE.then ?_
    refine TC.keep [0, 1] ?_
    refine TC.seqR mix rfl ?_
    refine TR.s OpY.move rfl ?_
    refine TR.s (OpY.makeSlice (A := A) (by omega) (by omega) (by omega)) rfl ?_
    refine TR.s OpY.assign rfl ?_
    refine TR.nil ?_
    refine TC.keep [0, 1, 5] ?_
    refine TC.open 5 fun b hb => ?_
    refine TC.seq ?_
    refine TC.seqR mix rfl ?_
    refine TR.s OpY.move rfl ?_
    refine TR.s OpY.lenOwn rfl ?_
    refine TR.s OpY.move rfl ?_
    refine TR.nil ?_
    refine TC.keep [0, 1, 5, 16, 17] ?_
    refine TC.block ?_
    refine TC.loop (γ := {k : Nat // k ≤ m.toNat}) (fun ⟨k, hk⟩ => (Env.set (Env.set (Env.set (Env.set (Env.set Env.nil 0 (U64 n)) 1 (I m)) 5 (OwnB b A (List.replicate (m.toNat - k) 0 ++ putNum n k))) 16 (I m)) 17 (I (k : Nat)))) (fun ⟨k, hk⟩ => m.toNat - k) ⟨0, by omega⟩ ?_ ?_
    · exact Env.le_set (Has.leAt (by (first | exact Ty.le.refl _ | exact I_le (by omega)))) (Env.le_set (Has.leAt (by exact I_le (by simp; omega))) (Env.le_set (Has.leAt (by exact OwnB_le (by rw [Nat.sub_zero, putNum, List.append_nil]; rfl))) (Env.le_set (Has.leAt (by (first | exact Ty.le.refl _ | exact I_le (by omega)))) (Env.le_set (Has.leAt (by (first | exact Ty.le.refl _ | exact I_le (by omega)))) (Env.le_nil _)))))
    rintro ⟨k, hk⟩
    refine TC.seqR mix rfl ?_
    refine TR.s OpY.lss rfl ?_
    refine TR.nil ?_
    refine TC.keep [0, 1, 5, 16, 17, 18] ?_
    refine TC.seq ?_
    refine TC.cond (fun hc => ?_) (fun hc => ?_)
    · replace hc := of_decide_eq_true hc
      refine TC.skip ?_
      refine TE.then ?_
      refine TC.keep [0, 1, 5, 16, 17] ?_
      refine TC.seq ?_
      refine TC.block ?_
      refine TC.seqR mix rfl ?_
      refine TR.s OpY.move rfl ?_
      refine TR.s OpY.assign rfl ?_
      refine TR.nil ?_
      refine TC.keep [0, 1, 5, 6, 16, 17] ?_
      refine TC.regionS ?_
      refine TS.s OpY.move rfl ?_
      refine TS.s OpY.move rfl ?_
      refine TS.s (OpY.sub (by omega) (by omega)) rfl ?_
      refine TS.s OpY.move rfl ?_
      refine TS.s (OpY.sub (by omega) (by omega)) rfl ?_
      refine TS.s OpY.move rfl ?_
      refine TS.s OpY.move rfl ?_
      refine TS.s (OpY.mul (by omega) (by omega)) rfl ?_
      refine TS.s (OpY.shr64 (by omega)) rfl ?_
      refine TS.s OpY.conv64_8 rfl ?_
      refine TS.s (OpY.indexOwn (by omega) (by simp; omega)) rfl ?_
      refine (TS.store 5 hb (by simp; omega)) rfl ?_
      refine TS.nil ?_
      refine TE.keep [0, 1, 5, 16, 17] ?_
      refine TE.inBlock_normal ?_
      refine TE.then ?_
      refine TC.keep [0, 1, 5, 16, 17] ?_
      refine TC.region mix rfl ?_
      refine TR.s (OpY.add (by omega) (by omega)) rfl ?_
      refine TR.s OpY.move rfl ?_
      refine TR.nil ?_
      refine TE.keep [0, 1, 5, 16, 17] ?_
      refine TE.back (γ := {k : Nat // k ≤ m.toNat}) (μ := fun ⟨k, hk⟩ => m.toNat - k) (g := ⟨k, hk⟩) ⟨k + 1, by omega⟩ (by first | omega | (dsimp only; omega)) ?_
      exact Env.le_set (Has.leAt (by (first | exact Ty.le.refl _ | exact I_le (by omega)))) (Env.le_set (Has.leAt (by (first | exact Ty.le.refl _ | exact I_le (by omega)))) (Env.le_set (Has.leAt (by exact OwnB_le (put_step (by omega) (by omega)))) (Env.le_set (Has.leAt (by (first | exact Ty.le.refl _ | exact I_le (by omega)))) (Env.le_set (Has.leAt (by (first | exact Ty.le.refl _ | exact I_le (by omega)))) (Env.le_nil _)))))
    · replace hc := of_decide_eq_false hc
      refine TC.exit ?_
      refine TE.then_exit ?_
      refine TE.then_exit ?_
      refine TE.inBlock_here ?_
      refine TE.then ?_
      refine TC.keep [5] ?_
      refine TC.seqR mix rfl ?_
      refine TR.s OpY.move rfl ?_
      refine TR.s OpY.assign rfl ?_
      refine TR.nil ?_
      refine TC.keep [4] ?_
      refine TC.ret ?_
      exact TE.ret1 rfl ((OwnB.own (by omega)).trans (Own_le (put_end (by omega) (by omega) (by omega))))
/-- bywayref05.Put -/
theorem bywayref05_Put_c {A : Nat → Prop} {B0 : Nat} {n : UInt64} {m : Int} (w : World) (v0 v1 : Value) (hB : B0 ≤ w.heap.size) (h0 : (U64 n).p w v0) (h1 : (I m).p w v1) :
    Calls Try.prog 14 #[v0, v1] w (Ret w (Own B0 A (putOf n m))) := by
  refine enter2 Try.func14 rfl Try.ntmps14 rfl h0 h1 ?_
  refine TC.seqR mix rfl ?_
  refine TR.s OpY.assign rfl ?_
  refine TR.nil ?_
  refine TC.keep [0, 1] ?_
  refine TC.seqR mix rfl ?_
  refine TR.s OpY.assign rfl ?_
  refine TR.nil ?_
  refine TC.keep [0, 1, 5] ?_
  refine TC.seq ?_
  refine TC.seqR mix rfl ?_
  refine TR.s OpY.move rfl ?_
  refine TR.s OpY.lss rfl ?_
  refine TR.s OpY.move rfl ?_
  refine TR.g 9 rfl (fun hg => OpY.move) rfl ?_
  refine TR.g 9 rfl (fun hg => OpY.gtr) rfl ?_
  refine TR.s OpY.pickOr rfl ?_
  refine TR.nil ?_
  refine TC.keep [0, 1, 5, 12] ?_
  refine TC.cond (fun hc => ?_) (fun hc => ?_)
  · skip
    refine TC.seqR mix rfl ?_
    refine TR.s OpY.move rfl ?_
    refine TR.s OpY.assign rfl ?_
    refine TR.nil ?_
    refine TC.keep [4] ?_
    refine TC.ret ?_
    refine TE.then_ret ?_
    exact TE.ret1 rfl (NilS.own.trans (Own_le (putOf_none (by simpa using hc)).symm))
  · skip
    simp only [Bool.or_eq_false_iff, decide_eq_false_iff_not] at hc
    obtain ⟨hc1, hc2⟩ := hc
    refine TC.skip ?_
    refine TE.then ?_
    refine TC.keep [0, 1, 5] ?_
    refine TC.seq ?_
    refine TC.seqR mix rfl ?_
    refine TR.s OpY.assign rfl ?_
    refine TR.nil ?_
    refine TC.keep [0, 1, 5, 6] ?_
    refine TC.block ?_
    refine TC.loop (γ := {k : Nat // k ≤ m.toNat}) (fun ⟨k, hk⟩ => (Env.set (Env.set (Env.set (Env.set Env.nil 0 (U64 (shrBy n k))) 1 (I m)) 5 (Own w.heap.size (fun _ => True) (putNum n k))) 6 (I (k : Nat)))) (fun ⟨k, hk⟩ => m.toNat - k) ⟨0, by omega⟩ ?_ ?_
    · exact Env.le_set (Has.leAt (by (first | exact Ty.le.refl _ | exact I_le (by omega)))) (Env.le_set (Has.leAt (by exact NilS.own)) (Env.le_set (Has.leAt (by (first | exact Ty.le.refl _ | exact I_le (by omega)))) (Env.le_set (Has.leAt (by exact U64_le (shrBy_zero n).symm)) (Env.le_nil _))))
    rintro ⟨k, hk⟩
    refine TC.seq ?_
    refine TC.seqR mix rfl ?_
    refine TR.s OpY.move rfl ?_
    refine TR.s OpY.move rfl ?_
    refine TR.s OpY.lss rfl ?_
    refine TR.nil ?_
    refine TC.keep [0, 1, 5, 6, 16] ?_
    refine TC.cond (fun hc => ?_) (fun hc => ?_)
    · replace hc := of_decide_eq_true hc
      refine TC.skip ?_
      refine TE.then ?_
      refine TC.keep [0, 1, 5, 6] ?_
      refine TC.seq ?_
      refine TC.block ?_
      refine TC.seqR mix rfl ?_
      refine TR.s OpY.move rfl ?_
      refine TR.s (OpY.rem64 (by decide)) rfl ?_
      refine TR.s OpY.conv64_8 rfl ?_
      refine TR.s (OpY.buildSlice (A := fun _ => True) [.tmp 21] rfl rfl (by decide)) rfl ?_
      refine TR.s OpY.move rfl ?_
      refine TR.s (OpY.appendFull (by simp [putNum_length]; omega) (by simp [putNum_length]; unfold most; omega)) rfl ?_
      refine TR.s OpY.assign rfl ?_
      refine TR.nil ?_
      refine TC.keep [0, 1, 5, 6] ?_
      refine TC.region mix rfl ?_
      refine TR.s OpY.move rfl ?_
      refine TR.s (OpY.quo64 (by decide)) rfl ?_
      refine TR.s OpY.assign rfl ?_
      refine TR.nil ?_
      refine TE.keep [0, 1, 5, 6] ?_
      refine TE.inBlock_normal ?_
      refine TE.then ?_
      refine TC.keep [0, 1, 5, 6] ?_
      refine TC.region mix rfl ?_
      refine TR.s OpY.move rfl ?_
      refine TR.s (OpY.add (by omega) (by omega)) rfl ?_
      refine TR.s OpY.assign rfl ?_
      refine TR.nil ?_
      refine TE.keep [0, 1, 5, 6] ?_
      refine TE.back (γ := {k : Nat // k ≤ m.toNat}) (μ := fun ⟨k, hk⟩ => m.toNat - k) (g := ⟨k, hk⟩) ⟨k + 1, by omega⟩ (by first | omega | (dsimp only; omega)) ?_
      exact Env.le_set (Has.leAt (by (first | exact Ty.le.refl _ | exact I_le (by omega)))) (Env.le_set (Has.leAt (by exact Own_le (putRef_step n k))) (Env.le_set (Has.leAt (by (first | exact Ty.le.refl _ | exact I_le (by omega)))) (Env.le_set (Has.leAt (by exact U64_le (shrBy_step n k))) (Env.le_nil _))))
    · replace hc := of_decide_eq_false hc
      refine TC.exit ?_
      refine TE.then_exit ?_
      refine TE.then_exit ?_
      refine TE.inBlock_here ?_
      refine TE.then ?_
      refine TC.keep [5] ?_
      refine TC.seqR mix rfl ?_
      refine TR.s OpY.move rfl ?_
      refine TR.s OpY.assign rfl ?_
      refine TR.nil ?_
      refine TC.keep [4] ?_
      refine TC.ret ?_
      exact TE.ret1 rfl ((Own.vis).trans ((Own.mono hB).trans (Own_le (by rw [putOf_some (by omega) (by omega)]; congr 1; omega))))
/-- slices.Grow   byte byte  -/
theorem grow_bytes_c {A : Nat → Prop} {B0 : Nat} {m : Int} (w : World) (v0 v1 : Value) (hB : B0 ≤ w.heap.size) (H0 : 0 ≤ m) (H1 : m ≤ 140737488355328) (h0 : (NilS).p w v0) (h1 : (I m).p w v1) :
    Calls Try.prog 21 #[v0, v1] w (Ret w (Own B0 A ([] : List UInt8))) := by
  refine enter2 Try.func21 rfl Try.ntmps21 rfl h0 h1 ?_
  refine TC.seqR mix rfl ?_
  refine TR.s OpY.assign rfl ?_
  refine TR.nil ?_
  refine TC.keep [0, 1] ?_
  refine TC.seq ?_
  refine TC.seqR mix rfl ?_
  refine TR.s OpY.move rfl ?_
  refine TR.s OpY.lss rfl ?_
  refine TR.nil ?_
  refine TC.keep [0, 1, 6] ?_
  refine TC.cond (fun hc => ?_) (fun hc => ?_)
  · exact absurd (of_decide_eq_true hc) (by omega)
  · skip
    replace hc := of_decide_eq_false hc
    refine TC.skip ?_
    refine TE.then ?_
    refine TC.keep [0, 1] ?_
    refine TC.seq ?_
    refine TC.seqR mix rfl ?_
    refine TR.s OpY.move rfl ?_
    refine TR.s OpY.move rfl ?_
    refine TR.s OpY.capNil rfl ?_
    refine TR.s OpY.move rfl ?_
    refine TR.s OpY.lenNil rfl ?_
    refine TR.s (OpY.sub (by omega) (by omega)) rfl ?_
    refine TR.s (OpY.sub (by omega) (by omega)) rfl ?_
    refine TR.s OpY.assign rfl ?_
    refine TR.nil ?_
    refine TC.keep [0, 1] ?_
    refine TC.seqR mix rfl ?_
    refine TR.s OpY.move rfl ?_
    refine TR.s OpY.gtr rfl ?_
    refine TR.nil ?_
    refine TC.keep [0, 1, 16] ?_
    refine TC.cond (fun hc => ?_) (fun hc => ?_)
    · replace hc := of_decide_eq_true hc
      refine TC.region mix rfl ?_
      refine TR.s OpY.move rfl ?_
      refine TR.s OpY.move rfl ?_
      refine TR.s OpY.capNil rfl ?_
      refine TR.s (OpY.sliceNil (α := UInt8)) rfl ?_
      refine TR.s OpY.move rfl ?_
      refine TR.s (OpY.appendMake (A := A) (by omega) (by omega) (by omega)) rfl ?_
      refine TR.s OpY.move rfl ?_
      refine TR.s OpY.lenNil rfl ?_
      refine TR.s (OpY.sliceOwnTo (by omega) (by simp only [List.length_replicate]; omega)) rfl ?_
      refine TR.s OpY.assign rfl ?_
      refine TR.nil ?_
      refine TE.keep [0] ?_
      refine TE.then ?_
      refine TC.keep [0] ?_
      refine TC.seqR mix rfl ?_
      refine TR.s OpY.move rfl ?_
      refine TR.s OpY.assign rfl ?_
      refine TR.nil ?_
      refine TC.keep [4] ?_
      refine TC.ret ?_
      exact TE.ret1 rfl ((Own.mono hB).trans (Own_le (by simp)))
    · replace hc := of_decide_eq_false hc
      refine TC.skip ?_
      refine TE.then ?_
      refine TC.keep [0] ?_
      refine TC.seqR mix rfl ?_
      refine TR.s OpY.move rfl ?_
      refine TR.s OpY.assign rfl ?_
      refine TR.nil ?_
      refine TC.keep [4] ?_
      refine TC.ret ?_
      exact TE.ret1 rfl NilS.own
/-- slices.Concat   byte byte  -/
theorem concat_bytes_c {A A1 : Nat → Prop} {B0 : Nat} {xss : List (List UInt8)} (w : World) (v0 : Value) (hB : B0 ≤ w.heap.size) (H1 : xss.flatten.length ≤ 140737488355328) (h0 : (D A1 xss).p w v0) :
    Calls Try.prog 20 #[v0] w (Ret w (Own B0 A xss.flatten)) := by
  have hlen := (D.wf h0).1
  unfold most at hlen
  replace h0 := D.old h0
  refine enter1 Try.func20 rfl Try.ntmps20 rfl h0 ?_
  refine TC.seqR mix rfl ?_
  refine TR.s OpY.assign rfl ?_
  refine TR.nil ?_
  refine TC.keep [0] ?_
  refine TC.seqR mix rfl ?_
  refine TR.s OpY.assign rfl ?_
  refine TR.nil ?_
  refine TC.keep [0, 3] ?_
  refine TC.seq ?_
  refine TC.seqR mix rfl ?_
  refine TR.s OpY.move rfl ?_
  refine TR.s OpY.len rfl ?_
  refine TR.s OpY.move rfl ?_
  refine TR.nil ?_
  refine TC.keep [0, 3, 9, 10, 11] ?_
  refine TC.block ?_
  refine TC.loop (γ := {k : Nat // k ≤ xss.length}) (fun ⟨k, hk⟩ => (Env.set (Env.set (Env.set (Env.set (Env.set Env.nil 0 (D (Old A1 w.heap.size) xss)) 3 (I (xss.take k).flatten.length)) 9 (D (Old A1 w.heap.size) xss)) 10 (I xss.length)) 11 (I (k : Nat)))) (fun ⟨k, hk⟩ => xss.length - k) ⟨0, by omega⟩ ?_ ?_
  · exact Env.le_set (Has.leAt (by (first | exact Ty.le.refl _ | exact I_le (by omega)))) (Env.le_set (Has.leAt (by (first | exact Ty.le.refl _ | exact I_le (by omega)))) (Env.le_set (Has.leAt (by (first | exact Ty.le.refl _ | exact I_le (by omega)))) (Env.le_set (Has.leAt (by (first | exact Ty.le.refl _ | exact I_le (by omega)))) (Env.le_set (Has.leAt (by (first | exact Ty.le.refl _ | exact I_le (by omega)))) (Env.le_nil _)))))
  rintro ⟨k, hk⟩
  refine TC.seqR mix rfl ?_
  refine TR.s OpY.lss rfl ?_
  refine TR.nil ?_
  refine TC.keep [0, 3, 9, 10, 11, 12] ?_
  refine TC.seq ?_
  refine TC.cond (fun hc => ?_) (fun hc => ?_)
  · replace hc := of_decide_eq_true hc
    refine TC.skip ?_
    refine TE.then ?_
    refine TC.keep [0, 3, 9, 10, 11] ?_
    refine TC.seq ?_
    refine TC.block ?_
    refine TC.seqR mix rfl ?_
    refine TR.s (OpY.indexN (List.getElem?_eq_getElem (by omega))) rfl ?_
    refine TR.s OpY.load rfl ?_
    refine TR.s OpY.assign rfl ?_
    refine TR.nil ?_
    refine TC.keep [0, 3, 5, 9, 10, 11] ?_
    refine TC.seqR mix rfl ?_
    refine TR.s OpY.move rfl ?_
    refine TR.s OpY.move rfl ?_
    refine TR.s OpY.len rfl ?_
    refine TR.s (OpY.add (by omega) (by have := flat_le (xss := xss) (k := k) (by omega); omega)) rfl ?_
    refine TR.s OpY.assign rfl ?_
    refine TR.nil ?_
    refine TC.keep [0, 3, 9, 10, 11] ?_
    refine TC.seqR mix rfl ?_
    refine TR.s OpY.move rfl ?_
    refine TR.s OpY.lss rfl ?_
    refine TR.nil ?_
    refine TC.keep [0, 3, 9, 10, 11, 20] ?_
    refine TC.cond (fun hc => ?_) (fun hc => ?_)
    · exact absurd (of_decide_eq_true hc) (by omega)
    · skip
      replace hc := of_decide_eq_false hc
      refine TC.skip ?_
      refine TE.inBlock_normal ?_
      refine TE.then ?_
      refine TC.keep [0, 3, 9, 10, 11] ?_
      refine TC.region mix rfl ?_
      refine TR.s (OpY.add (by omega) (by omega)) rfl ?_
      refine TR.s OpY.move rfl ?_
      refine TR.nil ?_
      refine TE.keep [0, 3, 9, 10, 11] ?_
      refine TE.back (γ := {k : Nat // k ≤ xss.length}) (μ := fun ⟨k, hk⟩ => xss.length - k) (g := ⟨k, hk⟩) ⟨k + 1, by omega⟩ (by first | omega | (dsimp only; omega)) ?_
      exact Env.le_set (Has.leAt (by (first | exact Ty.le.refl _ | exact I_le (by omega)))) (Env.le_set (Has.leAt (by (first | exact Ty.le.refl _ | exact I_le (by omega)))) (Env.le_set (Has.leAt (by (first | exact Ty.le.refl _ | exact I_le (by omega)))) (Env.le_set (Has.leAt (by exact I_le (by rw [flat_step (by omega), List.length_append]; omega))) (Env.le_set (Has.leAt (by (first | exact Ty.le.refl _ | exact I_le (by omega)))) (Env.le_nil _)))))
  · replace hc := of_decide_eq_false hc
    refine TC.exit ?_
    refine TE.then_exit ?_
    refine TE.then_exit ?_
    refine TE.inBlock_here ?_
    refine TE.then ?_
    refine TC.keep [0, 3] ?_
    refine TC.seqR mix rfl ?_
    refine TR.s OpY.move rfl ?_
    refine TR.s (OpY.call2 fun w v0 v1 hB h0 h1 => grow_bytes_c (A := A) w v0 v1 hB (by omega) (by have := flat_take_le xss k; omega) h0 h1) rfl ?_
    refine TR.s OpY.assign rfl ?_
    refine TR.nil ?_
    refine TC.keep [0, 6] ?_
    refine TC.seq ?_
    refine TC.seqR mix rfl ?_
    refine TR.s OpY.move rfl ?_
    refine TR.s OpY.len rfl ?_
    refine TR.s OpY.move rfl ?_
    refine TR.nil ?_
    refine TC.keep [6, 25, 26, 27] ?_
    refine TC.block ?_
    refine TC.loop (γ := {k : Nat // k ≤ xss.length}) (fun ⟨k, hk⟩ => (Env.set (Env.set (Env.set (Env.set Env.nil 6 (Own w.heap.size A (xss.take k).flatten)) 25 (D (Old A1 w.heap.size) xss)) 26 (I xss.length)) 27 (I (k : Nat)))) (fun ⟨k, hk⟩ => xss.length - k) ⟨0, by omega⟩ ?_ ?_
    · exact Env.le_set (Has.leAt (by (first | exact Ty.le.refl _ | exact I_le (by omega)))) (Env.le_set (Has.leAt (by (first | exact Ty.le.refl _ | exact I_le (by omega)))) (Env.le_set (Has.leAt (by (first | exact Ty.le.refl _ | exact I_le (by omega)))) (Env.le_set (Has.leAt (by (first | exact Ty.le.refl _ | exact I_le (by omega)))) (Env.le_nil _))))
    rintro ⟨k, hk⟩
    refine TC.seqR mix rfl ?_
    refine TR.s OpY.lss rfl ?_
    refine TR.nil ?_
    refine TC.keep [6, 25, 26, 27, 28] ?_
    refine TC.seq ?_
    refine TC.cond (fun hc => ?_) (fun hc => ?_)
    · replace hc := of_decide_eq_true hc
      refine TC.skip ?_
      refine TE.then ?_
      refine TC.keep [6, 25, 26, 27] ?_
      refine TC.seq ?_
      refine TC.block ?_
      refine TC.seqR mix rfl ?_
      refine TR.s (OpY.indexN (List.getElem?_eq_getElem (by omega))) rfl ?_
      refine TR.s OpY.load rfl ?_
      refine TR.s OpY.assign rfl ?_
      refine TR.nil ?_
      refine TC.keep [6, 8, 25, 26, 27] ?_
      refine TC.regionS ?_
      refine TS.s OpY.move rfl ?_
      refine TS.s OpY.move rfl ?_
      refine TS.append (by have := flat_le (xss := xss) (k := k) (by omega); omega) (by have := flat_le (xss := xss) (k := k) (by omega); unfold most; omega) rfl ?_
      refine TS.s OpY.assign rfl ?_
      refine TS.nil ?_
      refine TE.keep [6, 25, 26, 27] ?_
      refine TE.inBlock_normal ?_
      refine TE.then ?_
      refine TC.keep [6, 25, 26, 27] ?_
      refine TC.region mix rfl ?_
      refine TR.s (OpY.add (by omega) (by omega)) rfl ?_
      refine TR.s OpY.move rfl ?_
      refine TR.nil ?_
      refine TE.keep [6, 25, 26, 27] ?_
      refine TE.back (γ := {k : Nat // k ≤ xss.length}) (μ := fun ⟨k, hk⟩ => xss.length - k) (g := ⟨k, hk⟩) ⟨k + 1, by omega⟩ (by first | omega | (dsimp only; omega)) ?_
      exact Env.le_set (Has.leAt (by (first | exact Ty.le.refl _ | exact I_le (by omega)))) (Env.le_set (Has.leAt (by (first | exact Ty.le.refl _ | exact I_le (by omega)))) (Env.le_set (Has.leAt (by (first | exact Ty.le.refl _ | exact I_le (by omega)))) (Env.le_set (Has.leAt (by exact Own_le (flat_step (by omega)).symm)) (Env.le_nil _))))
    · replace hc := of_decide_eq_false hc
      refine TC.exit ?_
      refine TE.then_exit ?_
      refine TE.then_exit ?_
      refine TE.inBlock_here ?_
      refine TE.then ?_
      refine TC.keep [6] ?_
      refine TC.seqR mix rfl ?_
      refine TR.s OpY.move rfl ?_
      refine TR.s OpY.assign rfl ?_
      refine TR.nil ?_
      refine TC.keep [2] ?_
      refine TC.ret ?_
      exact TE.ret1 rfl ((Own.mono hB).trans (Own_le (by rw [show k = xss.length by omega, List.take_length])))
/-- slices.Clone   byte byte  -/
theorem clone_bytes_c {A A1 : Nat → Prop} {B0 : Nat} {xs : List UInt8} (w : World) (v0 : Value) (hB : B0 ≤ w.heap.size) (H1 : xs.length ≤ 140737488355328) (h0 : (D A1 xs).p w v0) :
    Calls Try.prog 19 #[v0] w (Ret w (Own B0 A xs)) := by
  refine enter1 Try.func19 rfl Try.ntmps19 rfl h0 ?_
  refine TC.seqR mix rfl ?_
  refine TR.s OpY.assign rfl ?_
  refine TR.nil ?_
  refine TC.keep [0] ?_
  refine TC.seq ?_
  refine TC.seqR mix rfl ?_
  refine TR.s OpY.move rfl ?_
  refine TR.s OpY.eql_slice rfl ?_
  refine TR.nil ?_
  refine TC.keep [0, 4] ?_
  refine TC.condE (fun hc => ?_) (fun hc => ?_)
  · skip
    refine TC.seqR mix rfl ?_
    refine TR.s OpY.assign rfl ?_
    refine TR.nil ?_
    refine TC.keep [2] ?_
    refine TC.ret ?_
    refine TE.then_ret ?_
    exact TE.ret1 rfl (NilS.own.trans (Own_le (hc rfl).symm))
  · skip
    refine TC.skip ?_
    refine TE.then ?_
    refine TC.keep [0] ?_
    refine TC.seqR mix rfl ?_
    refine TR.s (OpY.buildSlice (A := fun _ => True) [] rfl rfl (by decide)) rfl ?_
    refine TR.s OpY.move rfl ?_
    refine TR.s (OpY.appendFull (by simp; omega) (by simp; unfold most; omega)) rfl ?_
    refine TR.s OpY.assign rfl ?_
    refine TR.nil ?_
    refine TC.keep [2] ?_
    refine TC.ret ?_
    exact TE.ret1 rfl ((Own.vis).trans (Own.mono hB))
/-- sum.Sealed -/
theorem sum_Sealed_c {A A1 : Nat → Prop} {B0 : Nat} {xs : List UInt8} (w : World) (v0 : Value) (hB : B0 ≤ w.heap.size) (H1 : xs.length ≤ 140737488355000) (h0 : (D A1 xs).p w v0) :
    Calls Try.prog 17 #[v0] w (Ret w (Own B0 A (sealed xs))) := by
  refine enter1 Try.func17 rfl Try.ntmps17 rfl h0 ?_
  refine TC.seqR mix rfl ?_
  refine TR.s OpY.assign rfl ?_
  refine TR.nil ?_
  refine TC.keep [0] ?_
  refine TC.seqR mix rfl ?_
  refine TR.s OpY.move rfl ?_
  refine TR.s OpY.move rfl ?_
  refine TR.s (OpY.call1 fun w v0 hB h0 => sum_Of_c w v0 h0) rfl ?_
  refine TR.s OpY.conv32_64 rfl ?_
  refine TR.s (OpY.call2 fun w v0 v1 hB h0 h1 => sum_Put_c (A := fun _ => True) w v0 v1 hB h0 h1) rfl ?_
  refine TR.s (OpY.buildSlice (A := fun _ => True) [.tmp 3, .tmp 7] rfl rfl (by decide)) rfl ?_
  refine TR.s (OpY.call1 fun w v0 hB h0 => concat_bytes_c (A := A) w v0 hB (by have := putOf_le (crcOn 0 xs).toUInt64 4; simp; omega) (Own.le _ _ (Full.own _ _ h0))) rfl ?_
  refine TR.s OpY.assign rfl ?_
  refine TR.nil ?_
  refine TC.keep [2] ?_
  refine TC.ret ?_
  exact TE.ret1 rfl ((Own.mono hB).trans (Own_le (by simp [sealed])))
/-- bywayref05.Sealed -/
theorem bywayref05_Sealed_c {A A1 : Nat → Prop} {B0 : Nat} {xs : List UInt8} (w : World) (v0 : Value) (hB : B0 ≤ w.heap.size) (H1 : xs.length ≤ 140737488355000) (h0 : (D A1 xs).p w v0) :
    Calls Try.prog 18 #[v0] w (Ret w (Own B0 A (sealed xs))) := by
  replace h0 := D.old h0
  refine enter1 Try.func18 rfl Try.ntmps18 rfl h0 ?_
  refine TC.seqR mix rfl ?_
  refine TR.s OpY.assign rfl ?_
  refine TR.nil ?_
  refine TC.keep [0] ?_
  refine TC.seqS ?_
  refine TS.s (OpY.buildSlice (A := fun _ => True) [] rfl rfl (by decide)) rfl ?_
  refine TS.s OpY.move rfl ?_
  refine TS.s (OpY.appendFull (by simp; omega) (by simp; unfold most; omega)) rfl ?_
  refine TS.s OpY.move rfl ?_
  refine TS.s (OpY.call1 fun w v0 hB h0 => bywayref05_Of_c w v0 h0) rfl ?_
  refine TS.s OpY.conv32_64 rfl ?_
  refine TS.s (OpY.call2 fun w v0 v1 hB h0 h1 => bywayref05_Put_c (A := fun _ => True) w v0 v1 hB h0 h1) rfl ?_
  refine TS.append (by have := putOf_le (crcOn 0 xs).toUInt64 4; simp; omega) (by have := putOf_le (crcOn 0 xs).toUInt64 4; simp; unfold most; omega) rfl ?_
  refine TS.s OpY.assign rfl ?_
  refine TS.nil ?_
  refine TE.then ?_
  refine TC.keep [2] ?_
  refine TC.ret ?_
  exact TE.ret1 rfl ((Own.vis).trans ((Own.mono hB).trans (Own_le (by simp [sealed]))))
/-- sum.Open -/
theorem sum_Open_c {A A1 : Nat → Prop} {B0 : Nat} {xs : List UInt8} (w : World) (v0 : Value) (hB : B0 ≤ w.heap.size) (H1 : xs.length ≤ 140737488355000) (h0 : (D A1 xs).p w v0) :
    Calls Try.prog 8 #[v0] w (Ret w (Tup [Own B0 A (openOf xs).1, I (openOf xs).2])) := by
  refine enter1 Try.func8 rfl Try.ntmps8 rfl h0 ?_
  refine TC.seqR mix rfl ?_
  refine TR.s OpY.assign rfl ?_
  refine TR.s OpY.assign rfl ?_
  refine TR.nil ?_
  refine TC.keep [0] ?_
  refine TC.seq ?_
  refine TC.seqR mix rfl ?_
  refine TR.s OpY.move rfl ?_
  refine TR.s OpY.len rfl ?_
  refine TR.s OpY.lss rfl ?_
  refine TR.nil ?_
  refine TC.keep [0, 8] ?_
  refine TC.cond (fun hc => ?_) (fun hc => ?_)
  · replace hc := of_decide_eq_true hc
    refine TC.seqR mix rfl ?_
    refine TR.s OpY.assign rfl ?_
    refine TR.s OpY.assign rfl ?_
    refine TR.nil ?_
    refine TC.keep [2, 3] ?_
    refine TC.ret ?_
    refine TE.then_ret ?_
    exact TE.ret2 rfl (NilS.own.trans (Own_le (openOf_long (by omega)).1.symm)) (I_le (openOf_long (by omega)).2.symm)
  · replace hc := of_decide_eq_false hc
    refine TC.skip ?_
    refine TE.then ?_
    refine TC.keep [0] ?_
    refine TC.seqR mix (by kernel_rfl) ?_
    refine TR.s OpY.move rfl ?_
    refine TR.s OpY.move rfl ?_
    refine TR.s OpY.len rfl ?_
    refine TR.s (OpY.sub (by omega) (by omega)) rfl ?_
    refine TR.s (OpY.sliceTo (by omega) (by omega)) rfl ?_
    refine TR.s OpY.move rfl ?_
    refine TR.s OpY.move rfl ?_
    refine TR.s OpY.len rfl ?_
    refine TR.s (OpY.sub (by omega) (by omega)) rfl ?_
    refine TR.s (OpY.sliceFrom (by omega) (by omega)) rfl ?_
    refine TR.s OpY.assign rfl ?_
    refine TR.s OpY.assign rfl ?_
    refine TR.nil ?_
    refine TC.keep [4, 5] ?_
    refine TC.seq ?_
    refine TC.seqR mix rfl ?_
    refine TR.s OpY.move rfl ?_
    refine TR.s (OpY.call1 fun w v0 hB h0 => sum_Of_c w v0 h0) rfl ?_
    refine TR.s OpY.conv32_64 rfl ?_
    refine TR.s OpY.move rfl ?_
    refine TR.s (OpY.call1 fun w v0 hB h0 => sum_Get_c w v0 h0) rfl ?_
    refine TR.s OpY.neq64 rfl ?_
    refine TR.nil ?_
    refine TC.keep [4, 24] ?_
    refine TC.cond (fun hc => ?_) (fun hc => ?_)
    · replace hc := of_decide_eq_true hc
      refine TC.seqR mix rfl ?_
      refine TR.s OpY.assign rfl ?_
      refine TR.s OpY.assign rfl ?_
      refine TR.nil ?_
      refine TC.keep [2, 3] ?_
      refine TC.ret ?_
      refine TE.then_ret ?_
      exact TE.ret2 rfl (NilS.own.trans (Own_le (openOf_sum (by omega) hc).1.symm)) (I_le (openOf_sum (by omega) hc).2.symm)
    · replace hc := of_decide_eq_false hc
      refine TC.skip ?_
      refine TE.then ?_
      refine TC.keep [4] ?_
      refine TC.seqR mix rfl ?_
      refine TR.s OpY.move rfl ?_
      refine TR.s (OpY.call1 fun w v0 hB h0 => clone_bytes_c (A := A) w v0 hB (by simp; omega) h0) rfl ?_
      refine TR.s OpY.assign rfl ?_
      refine TR.s OpY.assign rfl ?_
      refine TR.nil ?_
      refine TC.keep [2, 3] ?_
      refine TC.ret ?_
      exact TE.ret2 rfl ((Own.mono hB).trans (Own_le (openOf_ok (by omega) hc).1.symm)) (I_le (openOf_ok (by omega) hc).2.symm)
/-- bywayref05.Open -/
theorem bywayref05_Open_c {A1 : Nat → Prop} {xs : List UInt8} (w : World) (v0 : Value) (H1 : xs.length ≤ 140737488355000) (h0 : (D A1 xs).p w v0) :
    Calls Try.prog 9 #[v0] w (Ret w (Tup [D A1 (openOf xs).1, I (openOf xs).2])) := by
  refine enter1 Try.func9 rfl Try.ntmps9 rfl h0 ?_
  refine TC.seqR mix rfl ?_
  refine TR.s OpY.assign rfl ?_
  refine TR.s OpY.assign rfl ?_
  refine TR.nil ?_
  refine TC.keep [0] ?_
  refine TC.seq ?_
  refine TC.seqR mix rfl ?_
  refine TR.s OpY.move rfl ?_
  refine TR.s OpY.len rfl ?_
  refine TR.s OpY.lss rfl ?_
  refine TR.nil ?_
  refine TC.keep [0, 6] ?_
  refine TC.cond (fun hc => ?_) (fun hc => ?_)
  · replace hc := of_decide_eq_true hc
    refine TC.seqR mix rfl ?_
    refine TR.s OpY.assign rfl ?_
    refine TR.s OpY.assign rfl ?_
    refine TR.nil ?_
    refine TC.keep [2, 3] ?_
    refine TC.ret ?_
    refine TE.then_ret ?_
    exact TE.ret2 rfl (NilS.le.trans (D_le (openOf_long (by omega)).1.symm)) (I_le (openOf_long (by omega)).2.symm)
  · replace hc := of_decide_eq_false hc
    refine TC.skip ?_
    refine TE.then ?_
    refine TC.keep [0] ?_
    refine TC.seq ?_
    refine TC.seqR mix (by kernel_rfl) ?_
    refine TR.s OpY.move rfl ?_
    refine TR.s OpY.move rfl ?_
    refine TR.s OpY.len rfl ?_
    refine TR.s (OpY.sub (by omega) (by omega)) rfl ?_
    refine TR.s (OpY.sliceTo (by omega) (by omega)) rfl ?_
    refine TR.s (OpY.call1 fun w v0 hB h0 => bywayref05_Sealed_c (A := fun _ => True) w v0 hB (by simp; omega) h0) rfl ?_
    refine TR.s OpY.conv_slice_string rfl ?_
    refine TR.s OpY.move rfl ?_
    refine TR.s OpY.conv_slice_string rfl ?_
    refine TR.s OpY.neq_string rfl ?_
    refine TR.nil ?_
    refine TC.keep [0, 16] ?_
    refine TC.cond (fun hc => ?_) (fun hc => ?_)
    · replace hc := of_decide_eq_true hc
      refine TC.seqR mix rfl ?_
      refine TR.s OpY.assign rfl ?_
      refine TR.s OpY.assign rfl ?_
      refine TR.nil ?_
      refine TC.keep [2, 3] ?_
      refine TC.ret ?_
      refine TE.then_ret ?_
      exact TE.ret2 rfl (NilS.le.trans (D_le (openOf_ref1 (by omega) hc).1.symm)) (I_le (openOf_ref1 (by omega) hc).2.symm)
    · replace hc := of_decide_eq_false hc
      refine TC.skip ?_
      refine TE.then ?_
      refine TC.keep [0] ?_
      refine TC.seqR mix rfl ?_
      refine TR.s OpY.move rfl ?_
      refine TR.s OpY.move rfl ?_
      refine TR.s OpY.len rfl ?_
      refine TR.s (OpY.sub (by omega) (by omega)) rfl ?_
      refine TR.s (OpY.sliceTo (by omega) (by omega)) rfl ?_
      refine TR.s OpY.assign rfl ?_
      refine TR.s OpY.assign rfl ?_
      refine TR.nil ?_
      refine TC.keep [2, 3] ?_
      refine TC.ret ?_
      exact TE.ret2 rfl (D_le (openOf_ref0 (by omega) hc).1.symm) (I_le (openOf_ref0 (by omega) hc).2.symm)
end Go.Proofs.Ytkohjmiipameeaa.Tr
