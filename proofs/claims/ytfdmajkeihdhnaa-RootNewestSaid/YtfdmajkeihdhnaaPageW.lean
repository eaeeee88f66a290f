/- The functions, as plain ones. Conditions: none. -/
import Derived.Test.YtfdmajkeihdhnaaTab
import Derived.Test.YtfdmajkeihdhnaaBaseW
namespace Go.Proofs.Ytfdmajkeihdhnaa.Tr
open Go Go.RowKit
set_option maxRecDepth 100000
set_option synthInstance.maxHeartbeats 400000
set_option synthInstance.maxSize 4096
set_option linter.unusedVariables false
set_option linter.unusedSimpArgs false

def bywaylaw07_awake : Option Bool :=
  (some ((⟨(1 : Int), (3 : Int), (UInt64.ofNat 9), ([(UInt8.ofNat 97), (UInt8.ofNat 98), (UInt8.ofNat 99)] : List UInt8)⟩ : Page) : Page)).bind fun p_3 => (page_Put p_3 (24 : Int)).bind fun r_4 => (page_Read r_4.1).bind fun r_5 => (gb (((decide (r_4.2 = (0 : Int))) && (decide ((r_4.1.length : Int) = (24 : Int)))) && (decide (r_5.2 = (0 : Int)))) (bywayref07_Same p_3 r_5.1)).bind fun x_7 => (gb ((((decide (r_4.2 = (0 : Int))) && (decide ((r_4.1.length : Int) = (24 : Int)))) && (decide (r_5.2 = (0 : Int)))) && x_7) (page_May p_3 (24 : Int))).bind fun x_8 => (gb (((((decide (r_4.2 = (0 : Int))) && (decide ((r_4.1.length : Int) = (24 : Int)))) && (decide (r_5.2 = (0 : Int)))) && x_7) && x_8) (page_Room (24 : Int))).bind fun x_9 => (gb ((((((decide (r_4.2 = (0 : Int))) && (decide ((r_4.1.length : Int) = (24 : Int)))) && (decide (r_5.2 = (0 : Int)))) && x_7) && x_8) && (decide (x_9 = (8 : Int)))) (page_Blank ([(UInt8.ofNat 255)] : List UInt8))).bind fun x_10 => (gb (((((((decide (r_4.2 = (0 : Int))) && (decide ((r_4.1.length : Int) = (24 : Int)))) && (decide (r_5.2 = (0 : Int)))) && x_7) && x_8) && (decide (x_9 = (8 : Int)))) && x_10) (page_Blank r_4.1)).bind fun x_11 => some ((((((((decide (r_4.2 = (0 : Int))) && (decide ((r_4.1.length : Int) = (24 : Int)))) && (decide (r_5.2 = (0 : Int)))) && x_7) && x_8) && (decide (x_9 = (8 : Int)))) && x_10) && (!x_11))
/-- bywaylaw07.awake -/
theorem bywaylaw07_awake_c {A : Nat → Prop}   {r : Bool} (w : World)  (hA : ∀ k, w.heap.size ≤ k → A k)   (H : bywaylaw07_awake = some r) :
    Calls Try.prog 14 #[] w (Ret A w (D (r : Bool))) := by
  unfold bywaylaw07_awake at H
  refine enter0 hA Try.func14 rfl Try.ntmps14 rfl  ?_
  refine TC.seqS ?_
  refine TS.s OpY.assign rfl ?_
  refine TS.nil ?_
  refine TE.then ?_
  refine TC.kp [] [] ?_
  refine TC.seqS ?_
  refine TS.build [.const (.int .u8 97), .const (.int .u8 98), .const (.int .u8 99)] rfl rfl (by decide) rfl fun b6_0 => ?_
  refine TS.u OpT.convB rfl ?_
  refine TS.pub b6_0 (PubE.set 7 (PubC.sv PlS.all rfl) (PubE.set 6 (PubC.sv PlS.all rfl) PubE.refl)) ?_
  refine TS.s (OpY.buildAs (⟨(1 : Int), (3 : Int), (UInt64.ofNat 9), ([(UInt8.ofNat 97), (UInt8.ofNat 98), (UInt8.ofNat 99)] : List UInt8)⟩ : Page) rfl ⟨_, Try.underlying25, by kernel_rfl⟩ rfl rfl) rfl ?_
  refine TS.alloc (α := Page) rfl fun b1_1 => ?_
  refine TS.un (OpT.storeq (y := ((⟨(1 : Int), (3 : Int), (UInt64.ofNat 9), ([(UInt8.ofNat 97), (UInt8.ofNat 98), (UInt8.ofNat 99)] : List UInt8)⟩ : Page) : Page)) Pl.one) ?_
  refine TS.nil ?_
  refine TE.then ?_
  refine TC.kp [1] [b1_1] ?_
  obtain ⟨p_3, ep_3, H⟩ := bnd H
  refine TC.nmB b1_1 (nm_one ep_3) ?_
  refine TC.seqS ?_
  refine TS.s (OpD.ldq Pl.one) rfl ?_
  obtain ⟨r_4, er_4, H⟩ := bnd H
  refine TS.s (OpY.call2 fun w v0 v1 hA h0 h1 => page_Put_c w v0 v1 hA (toD h0) (toD h1) er_4) rfl ?_
  refine TS.s OpY.move rfl ?_
  refine TS.s (OpY.extract rfl) rfl ?_
  refine TS.s (OpY.extract rfl) rfl ?_
  refine TS.s OpY.assign rfl ?_
  refine TS.s OpY.assign rfl ?_
  refine TS.nil ?_
  refine TE.then ?_
  refine TC.kp [1, 2, 3] [b1_1] ?_
  refine TC.seqS ?_
  refine TS.s OpY.move rfl ?_
  obtain ⟨r_5, er_5, H⟩ := bnd H
  refine TS.s (OpY.call1 fun w v0 hA h0 => page_Read_c w v0 hA (toD h0) er_5) rfl ?_
  refine TS.s OpY.move rfl ?_
  refine TS.s (OpY.extract rfl) rfl ?_
  refine TS.s (OpY.extract rfl) rfl ?_
  refine TS.alloc (α := Page) rfl fun b4_5 => ?_
  refine TS.un (OpT.storeq (y := (r_5.1 : Page)) Pl.one) ?_
  refine TS.s OpY.assign rfl ?_
  refine TS.nil ?_
  refine TE.then ?_
  refine TC.kp [1, 2, 3, 4, 5] [b1_1, b4_5] ?_
  refine TC.seqS ?_
  refine TS.s OpY.move rfl ?_
  refine TS.s OpY.eql rfl ?_
  refine TS.s OpY.move rfl ?_
  refine TS.g 21 rfl (fun hg => OpY.move) rfl ?_
  refine TS.g 21 rfl (fun hg => OpD.len) rfl ?_
  refine TS.g 21 rfl (fun hg => OpY.eql) rfl ?_
  refine TS.s OpY.pickAnd rfl ?_
  refine TS.s OpY.move rfl ?_
  refine TS.g 26 rfl (fun hg => OpY.move) rfl ?_
  refine TS.g 26 rfl (fun hg => OpY.eql) rfl ?_
  refine TS.s OpY.pickAnd rfl ?_
  refine TS.s OpY.move rfl ?_
  refine TS.g 30 rfl (fun hg => (OpD.ldq Pl.one)) rfl ?_
  refine TS.g 30 rfl (fun hg => (OpD.ldq Pl.one)) rfl ?_
  obtain ⟨x_7, ex_7, H⟩ := bnd H
  refine TS.g 30 rfl (fun hg => (OpY.call2 fun w v0 v1 hA h0 h1 => bywayref07_Same_c w v0 v1 hA (toD h0) (toD h1) (gb_some ex_7 hg.h))) rfl ?_
  refine TS.s OpY.pickAnd rfl ?_
  refine TS.s OpY.move rfl ?_
  refine TS.g 35 rfl (fun hg => (OpD.ldq Pl.one)) rfl ?_
  obtain ⟨x_8, ex_8, H⟩ := bnd H
  refine TS.g 35 rfl (fun hg => (OpY.call2 fun w v0 v1 hA h0 h1 => page_May_c w v0 v1 hA (toD h0) (toD h1) (gb_some ex_8 hg.h))) rfl ?_
  refine TS.s OpY.pickAnd rfl ?_
  refine TS.s OpY.move rfl ?_
  obtain ⟨x_9, ex_9, H⟩ := bnd H
  refine TS.g 39 rfl (fun hg => (OpY.call1 fun w v0 hA h0 => page_Room_c w v0 hA (toD h0) (gb_some ex_9 hg.h))) rfl ?_
  refine TS.g 39 rfl (fun hg => OpY.eql) rfl ?_
  refine TS.s OpY.pickAnd rfl ?_
  refine TS.s OpY.move rfl ?_
  refine TS.g 43 rfl (fun hg => (OpY.buildSlice [.const (.int .u8 255)] rfl rfl (by decide))) rfl ?_
  obtain ⟨x_10, ex_10, H⟩ := bnd H
  refine TS.g 43 rfl (fun hg => (OpY.call1 fun w v0 hA h0 => page_Blank_c w v0 hA (toD h0) (gb_some ex_10 hg.h))) rfl ?_
  refine TS.s OpY.pickAnd rfl ?_
  refine TS.s OpY.move rfl ?_
  refine TS.g 47 rfl (fun hg => OpY.move) rfl ?_
  obtain ⟨x_11, ex_11, H⟩ := bnd H
  refine TS.g 47 rfl (fun hg => (OpY.call1 fun w v0 hA h0 => page_Blank_c w v0 hA (toD h0) (gb_some ex_11 hg.h))) rfl ?_
  refine TS.g 47 rfl (fun hg => OpY.notB) rfl ?_
  refine TS.s OpY.pickAnd rfl ?_
  refine TS.s OpY.assign rfl ?_
  refine TS.nil ?_
  refine TE.then ?_
  refine TC.kp [0] [] ?_
  refine TC.ret ?_
  obtain rfl := (Option.some.inj H)
  exact TE.ret1 rfl Cv.le
def bywaylaw07_PageRight (p0 : Page) (size0 : Int) (b0 : (List UInt8)) : Option Bool :=
  (bywaylaw07_awake).bind fun x_2 => bif (!x_2) then (some false) else (bif ((decide ((p0.Body.length : Int) > (400 : Int))) || (decide ((b0.length : Int) > (400 : Int)))) then (some true) else ((page_Put p0 size0).bind fun r_3 => (bywayref07_Put p0 size0).bind fun r_4 => (page_Read b0).bind fun r_5 => (bywayref07_Read b0).bind fun r_7 => (gb ((decide (r_3.1 = r_4.1)) && (decide (r_3.2 = r_4.2))) (bywayref07_Same r_5.1 r_7.1)).bind fun x_9 => (gb ((((decide (r_3.1 = r_4.1)) && (decide (r_3.2 = r_4.2))) && x_9) && (decide (r_5.2 = r_7.2))) (page_May p0 size0)).bind fun x_10 => (gb ((((decide (r_3.1 = r_4.1)) && (decide (r_3.2 = r_4.2))) && x_9) && (decide (r_5.2 = r_7.2))) (bywayref07_May p0 size0)).bind fun x_11 => (gb (((((decide (r_3.1 = r_4.1)) && (decide (r_3.2 = r_4.2))) && x_9) && (decide (r_5.2 = r_7.2))) && (decide (x_10 = x_11))) (page_Room size0)).bind fun x_12 => (gb (((((decide (r_3.1 = r_4.1)) && (decide (r_3.2 = r_4.2))) && x_9) && (decide (r_5.2 = r_7.2))) && (decide (x_10 = x_11))) (bywayref07_Room size0)).bind fun x_13 => (gb ((((((decide (r_3.1 = r_4.1)) && (decide (r_3.2 = r_4.2))) && x_9) && (decide (r_5.2 = r_7.2))) && (decide (x_10 = x_11))) && (decide (x_12 = x_13))) (page_Blank b0)).bind fun x_14 => (gb ((((((decide (r_3.1 = r_4.1)) && (decide (r_3.2 = r_4.2))) && x_9) && (decide (r_5.2 = r_7.2))) && (decide (x_10 = x_11))) && (decide (x_12 = x_13))) (bywayref07_Blank b0)).bind fun x_15 => some (((((((decide (r_3.1 = r_4.1)) && (decide (r_3.2 = r_4.2))) && x_9) && (decide (r_5.2 = r_7.2))) && (decide (x_10 = x_11))) && (decide (x_12 = x_13))) && (decide (x_14 = x_15)))))
/-- bywaylaw07.PageRight -/
theorem bywaylaw07_PageRight_c {A : Nat → Prop} {p0 : Page} {size0 : Int} {b0 : (List UInt8)}  {r : Bool} (w : World) (v0 v1 v2 : Value) (hA : ∀ k, w.heap.size ≤ k → A k)  (h0 : (D (p0 : Page)).p A w v0) (h1 : (D (size0 : Int)).p A w v1) (h2 : (D (b0 : (List UInt8))).p A w v2) (H : bywaylaw07_PageRight p0 size0 b0 = some r) :
    Calls Try.prog 3 #[v0, v1, v2] w (Ret A w (D (r : Bool))) := by
  unfold bywaylaw07_PageRight at H
  refine enter3 hA Try.func3 rfl Try.ntmps3 rfl h0 h1 h2 ?_
  refine TC.seqS ?_
  refine TS.box rfl fun b3_0 => ?_
  refine TS.s OpY.assign rfl ?_
  refine TS.nil ?_
  refine TE.then ?_
  refine TC.kp [1, 2, 3] [b3_0] ?_
  refine TC.seq ?_
  refine TC.seqS ?_
  obtain ⟨x_2, ex_2, H⟩ := bnd H
  refine TS.s (OpY.call0 fun w hA => bywaylaw07_awake_c w hA ex_2) rfl ?_
  refine TS.s OpY.notB rfl ?_
  refine TS.nil ?_
  refine TE.then ?_
  refine TC.kp [1, 2, 3, 16] [b3_0] ?_
  refine TC.cond (fun hc => ?_) (fun hc => ?_)
  · replace H := cT H hc
    refine TC.seqS ?_
    refine TS.s OpY.assign rfl ?_
    refine TS.nil ?_
    refine TE.then ?_
    refine TC.kp [6] [] ?_
    refine TC.ret ?_
    refine TE.then_ret ?_
    obtain rfl := (Option.some.inj H)
    exact TE.ret1 rfl Cv.le
  · replace H := cF H hc
    refine TC.skip ?_
    refine TE.then ?_
    refine TC.kp [1, 2, 3] [b3_0] ?_
    refine TC.seq ?_
    refine TC.seqS ?_
    refine TS.s OpY.fieldAddr rfl ?_
    refine TS.s (OpD.ldq (Pl.fld (off := 3) (α := Page) (β := (List UInt8)) Pl.one)) rfl ?_
    refine TS.s OpD.len rfl ?_
    refine TS.s OpY.gtr rfl ?_
    refine TS.s OpY.move rfl ?_
    refine TS.g 21 rfl (fun hg => OpY.move) rfl ?_
    refine TS.g 21 rfl (fun hg => OpD.len) rfl ?_
    refine TS.g 21 rfl (fun hg => OpY.gtr) rfl ?_
    refine TS.s OpY.pickOr rfl ?_
    refine TS.nil ?_
    refine TE.then ?_
    refine TC.kp [1, 2, 3, 25] [b3_0] ?_
    refine TC.cond (fun hc => ?_) (fun hc => ?_)
    · replace H := cT H hc
      refine TC.seqS ?_
      refine TS.s OpY.assign rfl ?_
      refine TS.nil ?_
      refine TE.then ?_
      refine TC.kp [6] [] ?_
      refine TC.ret ?_
      refine TE.then_ret ?_
      obtain rfl := (Option.some.inj H)
      exact TE.ret1 rfl Cv.le
    · replace H := cF H hc
      refine TC.skip ?_
      refine TE.then ?_
      refine TC.kp [1, 2, 3] [b3_0] ?_
      refine TC.seqS ?_
      refine TS.s (OpD.ldq Pl.one) rfl ?_
      refine TS.s OpY.move rfl ?_
      obtain ⟨r_3, er_3, H⟩ := bnd H
      refine TS.s (OpY.call2 fun w v0 v1 hA h0 h1 => page_Put_c w v0 v1 hA (toD h0) (toD h1) er_3) rfl ?_
      refine TS.s OpY.move rfl ?_
      refine TS.s (OpY.extract rfl) rfl ?_
      refine TS.s (OpY.extract rfl) rfl ?_
      refine TS.s OpY.assign rfl ?_
      refine TS.s OpY.assign rfl ?_
      refine TS.nil ?_
      refine TE.then ?_
      refine TC.kp [1, 2, 3, 7, 8] [b3_0] ?_
      refine TC.seqS ?_
      refine TS.s (OpD.ldq Pl.one) rfl ?_
      refine TS.s OpY.move rfl ?_
      obtain ⟨r_4, er_4, H⟩ := bnd H
      refine TS.s (OpY.call2 fun w v0 v1 hA h0 h1 => bywayref07_Put_c w v0 v1 hA (toD h0) (toD h1) er_4) rfl ?_
      refine TS.s OpY.move rfl ?_
      refine TS.s (OpY.extract rfl) rfl ?_
      refine TS.s (OpY.extract rfl) rfl ?_
      refine TS.s OpY.assign rfl ?_
      refine TS.s OpY.assign rfl ?_
      refine TS.nil ?_
      refine TE.then ?_
      refine TC.kp [1, 2, 3, 7, 8, 9, 10] [b3_0] ?_
      refine TC.seqS ?_
      refine TS.s OpY.move rfl ?_
      obtain ⟨r_5, er_5, H⟩ := bnd H
      refine TS.s (OpY.call1 fun w v0 hA h0 => page_Read_c w v0 hA (toD h0) er_5) rfl ?_
      refine TS.s OpY.move rfl ?_
      refine TS.s (OpY.extract rfl) rfl ?_
      refine TS.s (OpY.extract rfl) rfl ?_
      refine TS.alloc (α := Page) rfl fun b11_5 => ?_
      refine TS.un (OpT.storeq (y := (r_5.1 : Page)) Pl.one) ?_
      refine TS.s OpY.assign rfl ?_
      refine TS.nil ?_
      refine TE.then ?_
      refine TC.kp [1, 2, 3, 7, 8, 9, 10, 11, 12] [b3_0, b11_5] ?_
      refine TC.seqS ?_
      refine TS.s OpY.move rfl ?_
      obtain ⟨r_7, er_7, H⟩ := bnd H
      refine TS.s (OpY.call1 fun w v0 hA h0 => bywayref07_Read_c w v0 hA (toD h0) er_7) rfl ?_
      refine TS.s OpY.move rfl ?_
      refine TS.s (OpY.extract rfl) rfl ?_
      refine TS.s (OpY.extract rfl) rfl ?_
      refine TS.alloc (α := Page) rfl fun b13_7 => ?_
      refine TS.un (OpT.storeq (y := (r_7.1 : Page)) Pl.one) ?_
      refine TS.s OpY.assign rfl ?_
      refine TS.nil ?_
      refine TE.then ?_
      refine TC.kp [1, 2, 3, 7, 8, 9, 10, 11, 12, 13, 14] [b3_0, b11_5, b13_7] ?_
      refine TC.seqD0 mix (by kernel_rfl) ?_
      refine TR.s OpY.move rfl ?_
      refine TR.s OpY.conv_slice_string rfl ?_
      refine TR.s OpY.move rfl ?_
      refine TR.s OpY.conv_slice_string rfl ?_
      refine TR.s OpY.eql_string rfl ?_
      refine TR.s OpY.move rfl ?_
      refine TR.g 53 rfl (fun hg => OpY.move) rfl ?_
      refine TR.g 53 rfl (fun hg => OpY.move) rfl ?_
      refine TR.g 53 rfl (fun hg => OpY.eql) rfl ?_
      refine TR.s OpY.pickAnd rfl ?_
      refine TR.s OpY.move rfl ?_
      refine TR.g 58 rfl (fun hg => (OpD.ldq Pl.one)) rfl ?_
      refine TR.g 58 rfl (fun hg => (OpD.ldq Pl.one)) rfl ?_
      obtain ⟨x_9, ex_9, H⟩ := bnd H
      refine TR.g 58 rfl (fun hg => (OpY.call2 fun w v0 v1 hA h0 h1 => bywayref07_Same_c w v0 v1 hA (toD h0) (toD h1) (gb_some ex_9 hg.h))) rfl ?_
      refine TR.s OpY.pickAnd rfl ?_
      refine TR.s OpY.move rfl ?_
      refine TR.g 63 rfl (fun hg => OpY.move) rfl ?_
      refine TR.g 63 rfl (fun hg => OpY.move) rfl ?_
      refine TR.g 63 rfl (fun hg => OpY.eql) rfl ?_
      refine TR.s OpY.pickAnd rfl ?_
      refine TR.s OpY.move rfl ?_
      refine TR.g 68 rfl (fun hg => (OpD.ldq Pl.one)) rfl ?_
      refine TR.g 68 rfl (fun hg => OpY.move) rfl ?_
      obtain ⟨x_10, ex_10, H⟩ := bnd H
      refine TR.g 68 rfl (fun hg => (OpY.call2 fun w v0 v1 hA h0 h1 => page_May_c w v0 v1 hA (toD h0) (toD h1) (gb_some ex_10 hg.h))) rfl ?_
      refine TR.g 68 rfl (fun hg => (OpD.ldq Pl.one)) rfl ?_
      refine TR.g 68 rfl (fun hg => OpY.move) rfl ?_
      obtain ⟨x_11, ex_11, H⟩ := bnd H
      refine TR.g 68 rfl (fun hg => (OpY.call2 fun w v0 v1 hA h0 h1 => bywayref07_May_c w v0 v1 hA (toD h0) (toD h1) (gb_some ex_11 hg.h))) rfl ?_
      refine TR.g 68 rfl (fun hg => (OpY.eql_bool Try.underlying4)) rfl ?_
      refine TR.s OpY.pickAnd rfl ?_
      refine TR.s OpY.move rfl ?_
      refine TR.g 77 rfl (fun hg => OpY.move) rfl ?_
      obtain ⟨x_12, ex_12, H⟩ := bnd H
      refine TR.g 77 rfl (fun hg => (OpY.call1 fun w v0 hA h0 => page_Room_c w v0 hA (toD h0) (gb_some ex_12 hg.h))) rfl ?_
      refine TR.g 77 rfl (fun hg => OpY.move) rfl ?_
      obtain ⟨x_13, ex_13, H⟩ := bnd H
      refine TR.g 77 rfl (fun hg => (OpY.call1 fun w v0 hA h0 => bywayref07_Room_c w v0 hA (toD h0) (gb_some ex_13 hg.h))) rfl ?_
      refine TR.g 77 rfl (fun hg => OpY.eql) rfl ?_
      refine TR.s OpY.pickAnd rfl ?_
      refine TR.s OpY.move rfl ?_
      refine TR.g 84 rfl (fun hg => OpY.move) rfl ?_
      obtain ⟨x_14, ex_14, H⟩ := bnd H
      refine TR.g 84 rfl (fun hg => (OpY.call1 fun w v0 hA h0 => page_Blank_c w v0 hA (toD h0) (gb_some ex_14 hg.h))) rfl ?_
      refine TR.g 84 rfl (fun hg => OpY.move) rfl ?_
      obtain ⟨x_15, ex_15, H⟩ := bnd H
      refine TR.g 84 rfl (fun hg => (OpY.call1 fun w v0 hA h0 => bywayref07_Blank_c w v0 hA (toD h0) (gb_some ex_15 hg.h))) rfl ?_
      refine TR.g 84 rfl (fun hg => (OpY.eql_bool Try.underlying4)) rfl ?_
      refine TR.s OpY.pickAnd rfl ?_
      refine TR.s OpY.assign rfl ?_
      refine TR.nil ?_
      refine TC.kp [6] [] ?_
      refine TC.ret ?_
      obtain rfl := (Option.some.inj H)
      exact TE.ret1 rfl Cv.le
def bywaylaw07_PageTorn_l1 (bits_17 : Int) (x_18 : UInt8) : Option ((Int × UInt8) ⊕ Int) :=
  bif (decide ((UInt8.ofNat 0) < x_18)) then ((addI bits_17 ((x_18 % (UInt8.ofNat 2)).toNat : Int)).bind fun x_20 => some (.inl (x_20, (x_18 / (UInt8.ofNat 2))))) else (some (.inr bits_17))
def bywaylaw07_PageTorn_l2 (size0 : Int) (i_27 : Int) (blank_28 : (List UInt8)) : Option ((Int × (List UInt8)) ⊕ (List UInt8)) :=
  bif (decide (i_27 < size0)) then ((idx blank_28 i_27).bind fun x_30 => (some ((blank_28.set (Int.toNat i_27) (UInt8.ofNat 255)) : (List UInt8))).bind fun l_31 => (addI i_27 (1 : Int)).bind fun x_32 => some (.inl (x_32, l_31))) else (some (.inr blank_28))
def bywaylaw07_PageTorn (p0 : Page) (size0 : Int) (at0 : UInt16) : Option Bool :=
  (bywaylaw07_awake).bind fun x_2 => bif (!x_2) then (some false) else ((page_Put p0 size0).bind fun r_3 => bif (decide (r_3.2 ≠ (0 : Int))) then ((gb (decide ((r_3.1.length : Int) = (0 : Int))) (page_May p0 size0)).bind fun x_4 => some ((decide ((r_3.1.length : Int) = (0 : Int))) && (!x_4))) else ((room 1 ((([] : List UInt8).length + r_3.1.length : Nat) : Int)).bind fun u_7 => (some ((([] : List UInt8) ++ r_3.1) : (List UInt8))).bind fun l_8 => (remI (at0.toNat : Int) size0).bind fun x_9 => (idx l_8 x_9).bind fun x_10 => (idx l_8 x_9).bind fun x_11 => (some ((l_8.set (Int.toNat x_9) (UInt8.ofNat 255)) : (List UInt8))).bind fun l_12 => (page_Read l_12).bind fun r_13 => (loopO (fun s => bywaylaw07_PageTorn_l1 s.1 s.2) ((0 : Int), ((UInt8.ofNat 255) - x_10))).bind fun bits_15 => bif (decide (bits_15 = (0 : Int))) then ((gb (decide (r_13.2 = (0 : Int))) (bywayref07_Same p0 r_13.1)).bind fun x_21 => some ((decide (r_13.2 = (0 : Int))) && x_21)) else ((room 1 size0).bind fun u_22 => (some ((List.replicate (Int.toNat size0) (Dat.z : UInt8)) : (List UInt8))).bind fun l_24 => (loopO (fun s => bywaylaw07_PageTorn_l2 size0 s.1 s.2) ((0 : Int), l_24)).bind fun blank_25 => (page_Read blank_25).bind fun r_33 => (gb (((decide (bits_15 > (2 : Int))) || (decide (r_13.2 = (4 : Int)))) && (!(decide (r_13.2 ≠ (0 : Int))))) (bywayref07_Same p0 r_13.1)).bind fun x_35 => (gb (((((decide (bits_15 > (2 : Int))) || (decide (r_13.2 = (4 : Int)))) && ((decide (r_13.2 ≠ (0 : Int))) || (!x_35))) && (decide (r_33.2 = (0 : Int)))) && (decide (r_33.1.Kind = (0 : Int)))) (page_Blank blank_25)).bind fun x_36 => some ((((((decide (bits_15 > (2 : Int))) || (decide (r_13.2 = (4 : Int)))) && ((decide (r_13.2 ≠ (0 : Int))) || (!x_35))) && (decide (r_33.2 = (0 : Int)))) && (decide (r_33.1.Kind = (0 : Int)))) && x_36))))
/-- bywaylaw07.PageTorn -/
theorem bywaylaw07_PageTorn_c {A : Nat → Prop} {p0 : Page} {size0 : Int} {at0 : UInt16}  {r : Bool} (w : World) (v0 v1 v2 : Value) (hA : ∀ k, w.heap.size ≤ k → A k)  (h0 : (D (p0 : Page)).p A w v0) (h1 : (D (size0 : Int)).p A w v1) (h2 : (D (at0 : UInt16)).p A w v2) (H : bywaylaw07_PageTorn p0 size0 at0 = some r) :
    Calls Try.prog 5 #[v0, v1, v2] w (Ret A w (D (r : Bool))) := by
  unfold bywaylaw07_PageTorn at H
  refine enter3 hA Try.func5 rfl Try.ntmps5 rfl h0 h1 h2 ?_
  refine TC.seqS ?_
  refine TS.box rfl fun b3_0 => ?_
  refine TS.s OpY.assign rfl ?_
  refine TS.nil ?_
  refine TE.then ?_
  refine TC.kp [1, 2, 3] [b3_0] ?_
  refine TC.seq ?_
  refine TC.seqS ?_
  obtain ⟨x_2, ex_2, H⟩ := bnd H
  refine TS.s (OpY.call0 fun w hA => bywaylaw07_awake_c w hA ex_2) rfl ?_
  refine TS.s OpY.notB rfl ?_
  refine TS.nil ?_
  refine TE.then ?_
  refine TC.kp [1, 2, 3, 21] [b3_0] ?_
  refine TC.cond (fun hc => ?_) (fun hc => ?_)
  · replace H := cT H hc
    refine TC.seqS ?_
    refine TS.s OpY.assign rfl ?_
    refine TS.nil ?_
    refine TE.then ?_
    refine TC.kp [6] [] ?_
    refine TC.ret ?_
    refine TE.then_ret ?_
    obtain rfl := (Option.some.inj H)
    exact TE.ret1 rfl Cv.le
  · replace H := cF H hc
    refine TC.skip ?_
    refine TE.then ?_
    refine TC.kp [1, 2, 3] [b3_0] ?_
    refine TC.seqS ?_
    refine TS.s (OpD.ldq Pl.one) rfl ?_
    refine TS.s OpY.move rfl ?_
    obtain ⟨r_3, er_3, H⟩ := bnd H
    refine TS.s (OpY.call2 fun w v0 v1 hA h0 h1 => page_Put_c w v0 v1 hA (toD h0) (toD h1) er_3) rfl ?_
    refine TS.s OpY.move rfl ?_
    refine TS.s (OpY.extract rfl) rfl ?_
    refine TS.s (OpY.extract rfl) rfl ?_
    refine TS.s OpY.assign rfl ?_
    refine TS.s OpY.assign rfl ?_
    refine TS.nil ?_
    refine TE.then ?_
    refine TC.kp [1, 2, 3, 7, 8] [b3_0] ?_
    refine TC.seq ?_
    refine TC.seqS ?_
    refine TS.s OpY.move rfl ?_
    refine TS.s OpY.neq rfl ?_
    refine TS.nil ?_
    refine TE.then ?_
    refine TC.kp [1, 2, 3, 7, 29] [b3_0] ?_
    refine TC.cond (fun hc => ?_) (fun hc => ?_)
    · replace H := cT H hc
      refine TC.seqS ?_
      refine TS.s OpY.move rfl ?_
      refine TS.s OpD.len rfl ?_
      refine TS.s OpY.eql rfl ?_
      refine TS.s OpY.move rfl ?_
      refine TS.g 33 rfl (fun hg => (OpD.ldq Pl.one)) rfl ?_
      refine TS.g 33 rfl (fun hg => OpY.move) rfl ?_
      obtain ⟨x_4, ex_4, H⟩ := bnd H
      refine TS.g 33 rfl (fun hg => (OpY.call2 fun w v0 v1 hA h0 h1 => page_May_c w v0 v1 hA (toD h0) (toD h1) (gb_some ex_4 hg.h))) rfl ?_
      refine TS.g 33 rfl (fun hg => OpY.notB) rfl ?_
      refine TS.s OpY.pickAnd rfl ?_
      refine TS.s OpY.assign rfl ?_
      refine TS.nil ?_
      refine TE.then ?_
      refine TC.kp [6] [] ?_
      refine TC.ret ?_
      refine TE.then_ret ?_
      obtain rfl := (Option.some.inj H)
      exact TE.ret1 rfl Cv.le
    · replace H := cF H hc
      refine TC.skip ?_
      refine TE.then ?_
      refine TC.kp [1, 2, 3, 7] [b3_0] ?_
      refine TC.seqS ?_
      refine TS.build [] rfl rfl (by decide) rfl fun b39_4 => ?_
      refine TS.s OpY.move rfl ?_
      obtain ⟨u_7, eu_7, H⟩ := bnd H
      refine TS.app (ys := r_3.1) inferInstance eu_7 rfl rfl rfl fun b41_5 p41_5 c41_5 => ?_
      refine TS.s OpY.assign rfl ?_
      refine TS.nil ?_
      refine TE.then ?_
      refine TC.kp [1, 2, 3, 9] [b3_0, b41_5] ?_
      obtain ⟨l_8, el_8, H⟩ := bnd H
      refine TC.nmB b41_5 (nm_row el_8) ?_
      refine TC.see 9 _ (nm_sl2 el_8 rfl) ?_
      refine TC.seqS ?_
      refine TS.s OpY.move rfl ?_
      refine TS.s OpD.conv16_i rfl ?_
      refine TS.s OpY.move rfl ?_
      obtain ⟨x_9, ex_9, H⟩ := bnd H
      refine TS.s (OpD.rem ex_9) rfl ?_
      refine TS.s OpY.assign rfl ?_
      refine TS.nil ?_
      refine TE.then ?_
      refine TC.kp [1, 3, 9, 10] [b3_0, b41_5] ?_
      refine TC.seqS ?_
      refine TS.s OpY.move rfl ?_
      refine TS.s OpY.move rfl ?_
      obtain ⟨x_10, ex_10, H⟩ := bnd H
      refine TS.s (OpD.indexq (idx_in ex_10 rfl)) rfl ?_
      refine TS.s (OpD.ldq (Pl.rowz ex_10)) rfl ?_
      refine TS.s OpY.assign rfl ?_
      refine TS.nil ?_
      refine TE.then ?_
      refine TC.kp [1, 3, 9, 10, 11] [b3_0, b41_5] ?_
      refine TC.seqS ?_
      refine TS.s OpY.move rfl ?_
      refine TS.s OpY.move rfl ?_
      obtain ⟨x_11, ex_11, H⟩ := bnd H
      refine TS.s (OpD.indexq (idx_in ex_11 rfl)) rfl ?_
      refine TS.un (OpT.storeq (y := ((UInt8.ofNat 255) : UInt8)) (Pl.rowz ex_11)) ?_
      refine TS.nil ?_
      refine TE.then ?_
      refine TC.kp [1, 3, 9, 11] [b3_0, b41_5] ?_
      obtain ⟨l_12, el_12, H⟩ := bnd H
      refine TC.nmB b41_5 (nm_row el_12) ?_
      refine TC.see 9 _ (nm_sl2 el_12 (by simp)) ?_
      refine TC.seqS ?_
      refine TS.s OpY.move rfl ?_
      refine TS.pub b41_5 (PubE.set 54 (PubC.sv PlS.all rfl) (PubE.set 9 (PubC.sv PlS.all rfl) PubE.refl)) ?_
      obtain ⟨r_13, er_13, H⟩ := bnd H
      refine TS.s (OpY.call1 fun w v0 hA h0 => page_Read_c w v0 hA (toD h0) er_13) rfl ?_
      refine TS.s OpY.move rfl ?_
      refine TS.s (OpY.extract rfl) rfl ?_
      refine TS.s (OpY.extract rfl) rfl ?_
      refine TS.alloc (α := Page) rfl fun b12_13 => ?_
      refine TS.un (OpT.storeq (y := (r_13.1 : Page)) Pl.one) ?_
      refine TS.s OpY.assign rfl ?_
      refine TS.nil ?_
      refine TE.then ?_
      refine TC.kp [1, 3, 11, 12, 13] [b3_0, b12_13] ?_
      refine TC.seqS ?_
      refine TS.s OpY.assign rfl ?_
      refine TS.nil ?_
      refine TE.then ?_
      refine TC.kp [1, 3, 11, 12, 13, 14] [b3_0, b12_13] ?_
      refine TC.seq ?_
      refine TC.seqS ?_
      refine TS.s OpY.move rfl ?_
      refine TS.s OpY.sub8 rfl ?_
      refine TS.s OpY.assign rfl ?_
      refine TS.nil ?_
      refine TE.then ?_
      refine TC.kp [1, 3, 12, 13, 14, 15] [b3_0, b12_13] ?_
      obtain ⟨o_16, H16, H⟩ := bnd H
      refine TC.cutP (fun s : Int => o_16 = s) (fun (bits_15 : Int) (_ : Unit) => (Env.set (Env.set (Env.set (Env.set (Env.set Env.nil 1 (D (size0 : Int))) 3 (Pt b3_0 0)) 12 (Pt b12_13 0)) 13 (D (r_13.2 : Int))) 14 (D (bits_15 : Int)))) (fun (bits_15 : Int) (_ : Unit) => [⟨b3_0, True, (One (p0 : Page))⟩, ⟨b12_13, True, (One (r_13.1 : Page))⟩]) ?_ ?_
      · skip
        refine TC.block ?_
        refine TC.loopP H16 (fun ⟨bits_17, x_18⟩ (_ : Unit) => (Env.set (Env.set (Env.set (Env.set (Env.set (Env.set Env.nil 1 (D (size0 : Int))) 3 (Pt b3_0 0)) 12 (Pt b12_13 0)) 13 (D (r_13.2 : Int))) 14 (D (bits_17 : Int))) 15 (D (x_18 : UInt8)))) (fun ⟨bits_17, x_18⟩ (_ : Unit) => [⟨b3_0, True, (One (p0 : Page))⟩, ⟨b12_13, True, (One (r_13.1 : Page))⟩]) () (Env.cv (Env.cv (Env.cv (Env.cv (Env.cv (Env.cv (Env.le_nil _))))))) (Less.pk rfl (Less.pk rfl (Less.nil _))) ?_
        rintro ⟨bits_17, x_18⟩ ⟨⟩ x_19 H19 he19
        replace H19 : bywaylaw07_PageTorn_l1 bits_17 x_18 = some x_19 := H19
        unfold bywaylaw07_PageTorn_l1 at H19
        refine TC.seq ?_
        refine TC.seqS ?_
        refine TS.s OpY.move rfl ?_
        refine TS.s OpY.gtr8 rfl ?_
        refine TS.nil ?_
        refine TE.then ?_
        refine TC.kp [1, 3, 12, 13, 14, 15, 61] [b3_0, b12_13] ?_
        refine TC.cond (fun hc => ?_) (fun hc => ?_)
        · replace H19 := cT H19 hc
          refine TC.skip ?_
          refine TE.then ?_
          refine TC.kp [1, 3, 12, 13, 14, 15] [b3_0, b12_13] ?_
          refine TC.seq ?_
          refine TC.block ?_
          refine TC.regionS ?_
          refine TS.s OpY.move rfl ?_
          refine TS.s OpY.move rfl ?_
          refine TS.s (OpY.rem8 (by decide)) rfl ?_
          refine TS.s OpD.conv8_i rfl ?_
          obtain ⟨x_20, ex_20, H19⟩ := bnd H19
          refine TS.s (OpD.add ex_20) rfl ?_
          refine TS.s OpY.assign rfl ?_
          refine TS.nil ?_
          refine TE.kp [1, 3, 12, 13, 14, 15] [b3_0, b12_13] ?_
          refine TE.inBlock_normal ?_
          refine TE.then ?_
          refine TC.kp [1, 3, 12, 13, 14, 15] [b3_0, b12_13] ?_
          refine TC.regionS ?_
          refine TS.s OpY.move rfl ?_
          refine TS.s (OpY.quo8 (by decide)) rfl ?_
          refine TS.s OpY.assign rfl ?_
          refine TS.nil ?_
          refine TE.kp [1, 3, 12, 13, 14, 15] [b3_0, b12_13] ?_
          exact TE.backP ⟨x_20, (x_18 / (UInt8.ofNat 2))⟩ () (Option.some.inj H19).symm (Env.cv (Env.cv (Env.cv (Env.cv (Env.cv (Env.cv (Env.le_nil _))))))) (Less.pk rfl (Less.pk rfl (Less.nil _)))
        · replace H19 := cF H19 hc
          refine TC.exit ?_
          refine TE.then_exit ?_
          refine TE.then_exit ?_
          refine TE.inBlock_here ?_
          exact TE.cutP bits_17 () (he19 _ (Option.some.inj H19).symm).symm (Env.cv (Env.cv (Env.cv (Env.cv (Env.cv (Env.le_nil _)))))) (Less.pk rfl (Less.pk rfl (Less.nil _)))
      rintro bits_15 ⟨⟩ hp
      replace hp := hp.symm
      subst hp
      refine TE.then ?_
      refine TC.kp [1, 3, 12, 13, 14] [b3_0, b12_13] ?_
      refine TC.seq ?_
      refine TC.seqS ?_
      refine TS.s OpY.move rfl ?_
      refine TS.s OpY.eql rfl ?_
      refine TS.nil ?_
      refine TE.then ?_
      refine TC.kp [1, 3, 12, 13, 14, 70] [b3_0, b12_13] ?_
      refine TC.cond (fun hc => ?_) (fun hc => ?_)
      · replace H := cT H hc
        refine TC.seqS ?_
        refine TS.s OpY.move rfl ?_
        refine TS.s OpY.eql rfl ?_
        refine TS.s OpY.move rfl ?_
        refine TS.g 73 rfl (fun hg => (OpD.ldq Pl.one)) rfl ?_
        refine TS.g 73 rfl (fun hg => (OpD.ldq Pl.one)) rfl ?_
        obtain ⟨x_21, ex_21, H⟩ := bnd H
        refine TS.g 73 rfl (fun hg => (OpY.call2 fun w v0 v1 hA h0 h1 => bywayref07_Same_c w v0 v1 hA (toD h0) (toD h1) (gb_some ex_21 hg.h))) rfl ?_
        refine TS.s OpY.pickAnd rfl ?_
        refine TS.s OpY.assign rfl ?_
        refine TS.nil ?_
        refine TE.then ?_
        refine TC.kp [6] [] ?_
        refine TC.ret ?_
        refine TE.then_ret ?_
        obtain rfl := (Option.some.inj H)
        exact TE.ret1 rfl Cv.le
      · replace H := cF H hc
        refine TC.skip ?_
        refine TE.then ?_
        refine TC.kp [1, 3, 12, 13, 14] [b3_0, b12_13] ?_
        refine TC.seqS ?_
        refine TS.s OpY.move rfl ?_
        obtain ⟨u_22, eu_22, H⟩ := bnd H
        refine TS.make eu_22 ⟨(room_some eu_22).1, Int.le_refl _⟩ rfl fun b79_22 => ?_
        refine TS.s OpY.assign rfl ?_
        refine TS.nil ?_
        refine TE.then ?_
        refine TC.kp [1, 3, 12, 13, 14, 16] [b3_0, b12_13, b79_22] ?_
        obtain ⟨l_24, el_24, H⟩ := bnd H
        refine TC.nmB b79_22 (nm_row el_24) ?_
        refine TC.see 16 _ (nm_sl2 el_24 (by simp)) ?_
        refine TC.seq ?_
        refine TC.seqS ?_
        refine TS.s OpY.assign rfl ?_
        refine TS.nil ?_
        refine TE.then ?_
        refine TC.kp [1, 3, 12, 13, 14, 16, 17] [b3_0, b12_13, b79_22] ?_
        obtain ⟨o_26, H26, H⟩ := bnd H
        refine TC.cutP (fun s : (List UInt8) => o_26 = s) (fun (blank_25 : (List UInt8)) (_ : Unit) => (Env.set (Env.set (Env.set (Env.set (Env.set Env.nil 3 (Pt b3_0 0)) 12 (Pt b12_13 0)) 13 (D (r_13.2 : Int))) 14 (D (bits_15 : Int))) 16 (Sl b79_22 True 0 blank_25.length (Int.toNat size0)))) (fun (blank_25 : (List UInt8)) (_ : Unit) => [⟨b79_22, True, (Row (blank_25 : List UInt8) (Int.toNat size0))⟩, ⟨b3_0, True, (One (p0 : Page))⟩, ⟨b12_13, True, (One (r_13.1 : Page))⟩]) ?_ ?_
        · skip
          refine TC.block ?_
          refine TC.loopP H26 (fun ⟨i_27, blank_28⟩ (_ : Unit) => (Env.set (Env.set (Env.set (Env.set (Env.set (Env.set (Env.set Env.nil 1 (D (size0 : Int))) 3 (Pt b3_0 0)) 12 (Pt b12_13 0)) 13 (D (r_13.2 : Int))) 14 (D (bits_15 : Int))) 16 (Sl b79_22 True 0 blank_28.length (Int.toNat size0))) 17 (D (i_27 : Int)))) (fun ⟨i_27, blank_28⟩ (_ : Unit) => [⟨b79_22, True, (Row (blank_28 : List UInt8) (Int.toNat size0))⟩, ⟨b3_0, True, (One (p0 : Page))⟩, ⟨b12_13, True, (One (r_13.1 : Page))⟩]) () (Env.cv (Env.cvBy (Sl_le rfl) (Env.cv (Env.cv (Env.cv (Env.cv (Env.cv (Env.le_nil _)))))))) (Less.pk rfl (Less.pk rfl (Less.pk rfl (Less.nil _)))) ?_
          rintro ⟨i_27, blank_28⟩ ⟨⟩ x_29 H29 he29
          replace H29 : bywaylaw07_PageTorn_l2 size0 i_27 blank_28 = some x_29 := H29
          unfold bywaylaw07_PageTorn_l2 at H29
          refine TC.seq ?_
          refine TC.seqS ?_
          refine TS.s OpY.move rfl ?_
          refine TS.s OpY.move rfl ?_
          refine TS.s OpY.lss rfl ?_
          refine TS.nil ?_
          refine TE.then ?_
          refine TC.kp [1, 3, 12, 13, 14, 16, 17, 82] [b3_0, b12_13, b79_22] ?_
          refine TC.cond (fun hc => ?_) (fun hc => ?_)
          · replace H29 := cT H29 hc
            refine TC.skip ?_
            refine TE.then ?_
            refine TC.kp [1, 3, 12, 13, 14, 16, 17] [b3_0, b12_13, b79_22] ?_
            refine TC.seq ?_
            refine TC.block ?_
            refine TC.regionS ?_
            refine TS.s OpY.move rfl ?_
            refine TS.s OpY.move rfl ?_
            obtain ⟨x_30, ex_30, H29⟩ := bnd H29
            refine TS.s (OpD.indexq (idx_in ex_30 rfl)) rfl ?_
            refine TS.un (OpT.storeq (y := ((UInt8.ofNat 255) : UInt8)) (Pl.rowz ex_30)) ?_
            refine TS.nil ?_
            refine TE.kp [1, 3, 12, 13, 14, 16, 17] [b3_0, b12_13, b79_22] ?_
            obtain ⟨l_31, el_31, H29⟩ := bnd H29
            refine TE.nmB b79_22 (nm_row el_31) ?_
            refine TE.see 16 _ (nm_sl2 el_31 (by simp)) ?_
            refine TE.inBlock_normal ?_
            refine TE.then ?_
            refine TC.kp [1, 3, 12, 13, 14, 16, 17] [b3_0, b12_13, b79_22] ?_
            refine TC.regionS ?_
            refine TS.s OpY.move rfl ?_
            obtain ⟨x_32, ex_32, H29⟩ := bnd H29
            refine TS.s (OpD.add ex_32) rfl ?_
            refine TS.s OpY.assign rfl ?_
            refine TS.nil ?_
            refine TE.kp [1, 3, 12, 13, 14, 16, 17] [b3_0, b12_13, b79_22] ?_
            exact TE.backP ⟨x_32, l_31⟩ () (Option.some.inj H29).symm (Env.cv (Env.cvBy (Sl_le rfl) (Env.cv (Env.cv (Env.cv (Env.cv (Env.cv (Env.le_nil _)))))))) (Less.pk rfl (Less.pk rfl (Less.pk rfl (Less.nil _))))
          · replace H29 := cF H29 hc
            refine TC.exit ?_
            refine TE.then_exit ?_
            refine TE.then_exit ?_
            refine TE.inBlock_here ?_
            exact TE.cutP blank_28 () (he29 _ (Option.some.inj H29).symm).symm (Env.cvBy (Sl_le rfl) (Env.cv (Env.cv (Env.cv (Env.cv (Env.le_nil _)))))) (Less.pk rfl (Less.pk rfl (Less.pk rfl (Less.nil _))))
        rintro blank_25 ⟨⟩ hp
        replace hp := hp.symm
        subst hp
        refine TE.then ?_
        refine TC.kp [3, 12, 13, 14, 16] [b3_0, b12_13, b79_22] ?_
        refine TC.seqS ?_
        refine TS.s OpY.move rfl ?_
        refine TS.pub b79_22 (PubE.set 89 (PubC.sv PlS.all rfl) (PubE.set 16 (PubC.sv PlS.all rfl) PubE.refl)) ?_
        obtain ⟨r_33, er_33, H⟩ := bnd H
        refine TS.s (OpY.call1 fun w v0 hA h0 => page_Read_c w v0 hA (toD h0) er_33) rfl ?_
        refine TS.s OpY.move rfl ?_
        refine TS.s (OpY.extract rfl) rfl ?_
        refine TS.s (OpY.extract rfl) rfl ?_
        refine TS.alloc (α := Page) rfl fun b18_33 => ?_
        refine TS.un (OpT.storeq (y := (r_33.1 : Page)) Pl.one) ?_
        refine TS.s OpY.assign rfl ?_
        refine TS.nil ?_
        refine TE.then ?_
        refine TC.kp [3, 12, 13, 14, 16, 18, 19] [b3_0, b12_13, b18_33] ?_
        refine TC.seqS ?_
        refine TS.s OpY.move rfl ?_
        refine TS.s OpY.gtr rfl ?_
        refine TS.s OpY.move rfl ?_
        refine TS.g 95 rfl (fun hg => OpY.move) rfl ?_
        refine TS.g 95 rfl (fun hg => OpY.eql) rfl ?_
        refine TS.s OpY.pickOr rfl ?_
        refine TS.s OpY.move rfl ?_
        refine TS.g 99 rfl (fun hg => OpY.move) rfl ?_
        refine TS.g 99 rfl (fun hg => OpY.neq) rfl ?_
        refine TS.g 99 rfl (fun hg => OpY.move) rfl ?_
        refine TS.gg 102 rfl (fun hp hg => (OpD.ldq Pl.one)) rfl ?_
        refine TS.gg 102 rfl (fun hp hg => (OpD.ldq Pl.one)) rfl ?_
        obtain ⟨x_35, ex_35, H⟩ := bnd H
        refine TS.gg 102 rfl (fun hp hg => (OpY.call2 fun w v0 v1 hA h0 h1 => bywayref07_Same_c w v0 v1 hA (toD h0) (toD h1) (gb_some ex_35 (aT hp.h (nF hg.h))))) rfl ?_
        refine TS.gg 102 rfl (fun hp hg => OpY.notB) rfl ?_
        refine TS.g 99 rfl (fun hg => OpY.pickOr) rfl ?_
        refine TS.s OpY.pickAnd rfl ?_
        refine TS.s OpY.move rfl ?_
        refine TS.g 109 rfl (fun hg => OpY.move) rfl ?_
        refine TS.g 109 rfl (fun hg => OpY.eql) rfl ?_
        refine TS.s OpY.pickAnd rfl ?_
        refine TS.s OpY.move rfl ?_
        refine TS.g 113 rfl (fun hg => OpY.fieldAddr) rfl ?_
        refine TS.g 113 rfl (fun hg => (OpD.ldq (Pl.fld (off := 0) (α := Page) (β := Int) Pl.one))) rfl ?_
        refine TS.g 113 rfl (fun hg => OpY.eql) rfl ?_
        refine TS.s OpY.pickAnd rfl ?_
        refine TS.s OpY.move rfl ?_
        refine TS.g 118 rfl (fun hg => OpY.move) rfl ?_
        obtain ⟨x_36, ex_36, H⟩ := bnd H
        refine TS.g 118 rfl (fun hg => (OpY.call1 fun w v0 hA h0 => page_Blank_c w v0 hA (toD h0) (gb_some ex_36 hg.h))) rfl ?_
        refine TS.s OpY.pickAnd rfl ?_
        refine TS.s OpY.assign rfl ?_
        refine TS.nil ?_
        refine TE.then ?_
        refine TC.kp [6] [] ?_
        refine TC.ret ?_
        obtain rfl := (Option.some.inj H)
        exact TE.ret1 rfl Cv.le
def page_Read_v1_l1 (b0x : (List UInt8)) (x_6 : Int) (x_25 : Int) (x_28 : Int) : Option (Int ⊕ (Unit ⊕ (Page × Int))) :=
  bif (decide (x_28 < ((((((Int.toNat x_6) : Nat) : Int) - x_25).toNat : Nat) : Int))) then ((idx ((b0x.drop (Int.toNat x_25)).take (((((Int.toNat x_6) : Nat) : Int) - x_25).toNat)) x_28).bind fun x_30 => bif (decide (x_30 ≠ (UInt8.ofNat 0))) then ((some ((⟨0, 0, 0, []⟩ : Page) : Page)).bind fun k_31 => some (.inr (.inr (k_31, (2 : Int))))) else ((addI x_28 (1 : Int)).bind fun x_33 => some (.inl x_33))) else (some (.inr (.inl ())))
def page_Read_v1 (b0x : (List UInt8)) : Option (Page × Int) :=
  (page_fits (b0x.length : Int)).bind fun x_2 => bif (!x_2) then ((some ((⟨0, 0, 0, []⟩ : Page) : Page)).bind fun k_3 => some (k_3, (3 : Int))) else ((page_Blank b0x).bind fun x_4 => bif x_4 then ((some ((⟨(0 : Int), 0, 0, []⟩ : Page) : Page)).bind fun k_5 => some (k_5, (0 : Int))) else ((subI (b0x.length : Int) (4 : Int)).bind fun x_6 => (cut b0x.length 0 x_6).bind fun u_7 => (subI (b0x.length : Int) (4 : Int)).bind fun x_8 => (cut b0x.length x_8 (b0x.length : Int)).bind fun u_9 => (sum_Get ((b0x.drop (Int.toNat x_8)).take (((b0x.length : Nat) - x_8 : Int).toNat))).bind fun x_10 => (sum_Of (b0x.take (Int.toNat x_6))).bind fun x_11 => bif (decide (x_10 ≠ (x_11.toUInt64))) then ((some ((⟨0, 0, 0, []⟩ : Page) : Page)).bind fun k_12 => some (k_12, (4 : Int))) else ((idx b0x (0 : Int)).bind fun x_13 => (idx b0x (1 : Int)).bind fun x_14 => (cut b0x.length (2 : Int) (8 : Int)).bind fun u_15 => (sum_Get ((b0x.drop (Int.toNat (2 : Int))).take (((8 : Int) - (2 : Int)).toNat))).bind fun x_16 => (some ((⟨(x_13.toNat : Int), (x_14.toNat : Int), x_16, []⟩ : Page) : Page)).bind fun p_18 => (cut b0x.length (8 : Int) (10 : Int)).bind fun u_19 => (sum_Get ((b0x.drop (Int.toNat (8 : Int))).take (((10 : Int) - (8 : Int)).toNat))).bind fun x_20 => (ok64 (x_20.toNat : Int)).bind fun x_21 => (page_Room (b0x.length : Int)).bind fun x_22 => (gb (!(decide (x_21 > x_22))) (page_May p_18 (b0x.length : Int))).bind fun x_23 => bif ((decide (x_21 > x_22)) || (!x_23)) then ((some ((⟨0, 0, 0, []⟩ : Page) : Page)).bind fun k_24 => some (k_24, (2 : Int))) else ((addI (10 : Int) x_21).bind fun x_25 => (cut (Int.toNat x_6) x_25 (((Int.toNat x_6) : Nat) : Int)).bind fun u_26 => (loopO (fun s => page_Read_v1_l1 b0x x_6 x_25 s) (0 : Int)).bind fun o_27 => elS o_27 (fun _ => (bif (decide (x_21 > (0 : Int))) then ((addI (10 : Int) x_21).bind fun x_36 => (cut b0x.length (10 : Int) x_36).bind fun u_37 => (slices_Clone_byte ((b0x.drop (Int.toNat (10 : Int))).take ((x_36 - (10 : Int)).toNat))).bind fun x_38 => some (⟨p_18.Kind, p_18.Id, p_18.Gen, x_38⟩ : Page)) else (some p_18)).bind fun p_34 => some (p_34, (0 : Int))) (fun q => some q)))))
/-- page.Read -/
theorem page_Read_v1_o {A : Nat → Prop} {b0x : (List UInt8)} {b0 c0 : Nat} {p0 : Prop} {r : (Page × Int)} (w : World) (v0 : Value) (hA : ∀ k, w.heap.size ≤ k → A k) (hO : OwnIn A [⟨b0, p0, Row (b0x : List UInt8) c0⟩]) (hap : Apart [⟨b0, p0, Row (b0x : List UInt8) c0⟩]) (hks : Pks (Pub A [⟨b0, p0, Row (b0x : List UInt8) c0⟩]) [⟨b0, p0, Row (b0x : List UInt8) c0⟩] w) (h0 : (Sl b0 p0 0 b0x.length c0).p (Pub A [⟨b0, p0, Row (b0x : List UInt8) c0⟩]) w v0) (H : page_Read_v1 b0x = some r) :
    Calls Try.prog 17 #[v0] w (RetO A w [⟨b0, p0, Row (b0x : List UInt8) c0⟩] (fun g : Unit => Tup [D (r.1 : Page), D (r.2 : Int)]) fun g => [⟨b0, p0, Row (b0x : List UInt8) c0⟩]) := by
  unfold page_Read_v1 at H
  refine enterO1 hA hap hks Try.func17 rfl Try.ntmps17 rfl h0 ?_
  refine TC.seqS ?_
  refine TS.alloc (α := Page) rfl fun b2_0 => ?_
  refine TS.s OpY.assign rfl ?_
  refine TS.nil ?_
  refine TE.then ?_
  refine TC.kp [0, 2] [b0, b2_0] ?_
  refine TC.seq ?_
  refine TC.seqS ?_
  refine TS.s OpY.move rfl ?_
  refine TS.s (OpD.lenSv (n := b0x.length) rfl) rfl ?_
  obtain ⟨x_2, ex_2, H⟩ := bnd H
  refine TS.s (OpY.call1 fun w v0 hA h0 => page_fits_c w v0 hA (toD h0) ex_2) rfl ?_
  refine TS.s OpY.notB rfl ?_
  refine TS.nil ?_
  refine TE.then ?_
  refine TC.kp [0, 2, 13] [b0, b2_0] ?_
  refine TC.cond (fun hc => ?_) (fun hc => ?_)
  · replace H := cT H hc
    refine TC.seqS ?_
    refine TS.s (OpY.buildAs (⟨0, 0, 0, []⟩ : Page) rfl ⟨_, Try.underlying25, by kernel_rfl⟩ rfl rfl) rfl ?_
    refine TS.un (OpT.storeq (y := ((⟨0, 0, 0, []⟩ : Page) : Page)) Pl.one) ?_
    refine TS.s OpY.assign rfl ?_
    refine TS.nil ?_
    refine TE.then ?_
    refine TC.kp [2, 3] [b2_0, b0] ?_
    obtain ⟨k_3, ek_3, H⟩ := bnd H
    refine TC.nmB b2_0 (nm_one ek_3) ?_
    refine TC.ret ?_
    refine TE.then_ret ?_
    obtain rfl := (Option.some.inj H)
    exact TE.retON rfl rfl () (.cons Cv.le (.cons Cv.le .nil)) (Less.pk rfl (Less.nil _))
  · replace H := cF H hc
    refine TC.skip ?_
    refine TE.then ?_
    refine TC.kp [0, 2] [b0, b2_0] ?_
    refine TC.seq ?_
    refine TC.seqS ?_
    refine TS.s OpY.move rfl ?_
    obtain ⟨x_4, ex_4, H⟩ := bnd H
    refine TS.s (OpY.callB1 [b0] (ArgB.sv PlS.all rfl (by simp)) fun w v0 hA h0 => page_Blank_c w v0 hA (toD h0) ex_4) rfl ?_
    refine TS.nil ?_
    refine TE.then ?_
    refine TC.kp [0, 2, 16] [b0, b2_0] ?_
    refine TC.cond (fun hc => ?_) (fun hc => ?_)
    · replace H := cT H hc
      refine TC.seqS ?_
      refine TS.s (OpY.buildAs (⟨(0 : Int), 0, 0, []⟩ : Page) rfl ⟨_, Try.underlying25, by kernel_rfl⟩ rfl rfl) rfl ?_
      refine TS.un (OpT.storeq (y := ((⟨(0 : Int), 0, 0, []⟩ : Page) : Page)) Pl.one) ?_
      refine TS.s OpY.assign rfl ?_
      refine TS.nil ?_
      refine TE.then ?_
      refine TC.kp [2, 3] [b2_0, b0] ?_
      obtain ⟨k_5, ek_5, H⟩ := bnd H
      refine TC.nmB b2_0 (nm_one ek_5) ?_
      refine TC.ret ?_
      refine TE.then_ret ?_
      obtain rfl := (Option.some.inj H)
      exact TE.retON rfl rfl () (.cons Cv.le (.cons Cv.le .nil)) (Less.pk rfl (Less.nil _))
    · replace H := cF H hc
      refine TC.skip ?_
      refine TE.then ?_
      refine TC.kp [0, 2] [b0, b2_0] ?_
      refine TC.seqD0 mix (by kernel_rfl) ?_
      refine TR.s OpY.move rfl ?_
      refine TR.s OpY.move rfl ?_
      refine TR.s (OpD.lenSv (n := b0x.length) rfl) rfl ?_
      obtain ⟨x_6, ex_6, H⟩ := bnd H
      refine TR.s (OpD.sub ex_6) rfl ?_
      obtain ⟨u_7, eu_7, H⟩ := bnd H
      refine TR.s (OpY.sliceSlTo (cut_row eu_7 rfl).2.1 (cut_row eu_7 rfl).2.2) rfl ?_
      refine TR.s OpY.move rfl ?_
      refine TR.s OpY.move rfl ?_
      refine TR.s (OpD.lenSv (n := b0x.length) rfl) rfl ?_
      obtain ⟨x_8, ex_8, H⟩ := bnd H
      refine TR.s (OpD.sub ex_8) rfl ?_
      obtain ⟨u_9, eu_9, H⟩ := bnd H
      refine TR.s (OpY.sliceSvFrom (cut_row eu_9 rfl).1 (cut_row eu_9 rfl).2.1) rfl ?_
      refine TR.s OpY.assign rfl ?_
      refine TR.s OpY.assign rfl ?_
      refine TR.nil ?_
      refine TC.kp [0, 2, 4, 5] [b0, b2_0] ?_
      refine TC.seq ?_
      refine TC.seqS ?_
      refine TS.s OpY.move rfl ?_
      obtain ⟨x_10, ex_10, H⟩ := bnd H
      refine TS.s (OpY.callB1 [b0] (ArgB.sv (PlS.rowz (cut_leF eu_9 rfl)) (cut_lenF eu_9 rfl) (by simp)) fun w v0 hA h0 => sum_Get_c w v0 hA (toD h0) ex_10) rfl ?_
      refine TS.s OpY.move rfl ?_
      obtain ⟨x_11, ex_11, H⟩ := bnd H
      refine TS.s (OpY.callB1 [b0] (ArgB.sv (PlS.row0 (cut_le0 eu_7)) (List.length_take_of_le (cut_le0 eu_7)).symm (by simp)) fun w v0 hA h0 => sum_Of_c w v0 hA (toD h0) ex_11) rfl ?_
      refine TS.s OpY.conv32_64 rfl ?_
      refine TS.s OpY.neq64 rfl ?_
      refine TS.nil ?_
      refine TE.then ?_
      refine TC.kp [0, 2, 4, 33] [b0, b2_0] ?_
      refine TC.cond (fun hc => ?_) (fun hc => ?_)
      · replace H := cT H hc
        refine TC.seqS ?_
        refine TS.s (OpY.buildAs (⟨0, 0, 0, []⟩ : Page) rfl ⟨_, Try.underlying25, by kernel_rfl⟩ rfl rfl) rfl ?_
        refine TS.un (OpT.storeq (y := ((⟨0, 0, 0, []⟩ : Page) : Page)) Pl.one) ?_
        refine TS.s OpY.assign rfl ?_
        refine TS.nil ?_
        refine TE.then ?_
        refine TC.kp [2, 3] [b2_0, b0] ?_
        obtain ⟨k_12, ek_12, H⟩ := bnd H
        refine TC.nmB b2_0 (nm_one ek_12) ?_
        refine TC.ret ?_
        refine TE.then_ret ?_
        obtain rfl := (Option.some.inj H)
        exact TE.retON rfl rfl () (.cons Cv.le (.cons Cv.le .nil)) (Less.pk rfl (Less.nil _))
      · replace H := cF H hc
        refine TC.skip ?_
        refine TE.then ?_
        refine TC.kp [0, 2, 4] [b0, b2_0] ?_
        refine TC.seqD [12, 13] [] mix (by kernel_rfl) (by kernel_rfl) ?_
        refine TR.s OpY.move rfl ?_
        obtain ⟨x_13, ex_13, H⟩ := bnd H
        refine TR.s (OpD.indexq (idx_in ex_13 rfl)) rfl ?_
        refine TR.s (OpD.ldq (Pl.rowz ex_13)) rfl ?_
        refine TR.s OpD.conv8_i rfl ?_
        refine TR.s OpY.move rfl ?_
        obtain ⟨x_14, ex_14, H⟩ := bnd H
        refine TR.s (OpD.indexq (idx_in ex_14 rfl)) rfl ?_
        refine TR.s (OpD.ldq (Pl.rowz ex_14)) rfl ?_
        refine TR.s OpD.conv8_i rfl ?_
        refine TR.s OpY.move rfl ?_
        obtain ⟨u_15, eu_15, H⟩ := bnd H
        refine TR.s (OpY.sliceSv2 (cut_row eu_15 rfl).1 (cut_row eu_15 rfl).2.1 (cut_row eu_15 rfl).2.2) rfl ?_
        obtain ⟨x_16, ex_16, H⟩ := bnd H
        refine TR.s (OpY.callB1 [b0] (ArgB.sv (PlS.rowz (cut_le eu_15)) (cut_len eu_15 rfl) (by simp)) fun w v0 hA h0 => sum_Get_c w v0 hA (toD h0) ex_16) rfl ?_
        refine TR.s (OpY.buildAs (⟨(x_13.toNat : Int), (x_14.toNat : Int), x_16, []⟩ : Page) rfl ⟨_, Try.underlying25, by kernel_rfl⟩ rfl rfl) rfl ?_
        refine TR.t (fun g => OpT.allocT (α := Page)) rfl ?_
        refine TR.tn (fun g => (OpT.storeq (y := ((⟨(x_13.toNat : Int), (x_14.toNat : Int), x_16, []⟩ : Page) : Page)) Pl.one)) rfl ?_
        refine TR.nil ?_
        rintro ⟨⟨_, ⟨b6_16, _⟩⟩, _⟩
        dsimp only [Fam.nextS, Fam.nextN, Fam.one, List.cons_append, List.nil_append]
        refine TC.kp [0, 2, 4, 6] [b0, b2_0, b6_16] ?_
        obtain ⟨p_18, ep_18, H⟩ := bnd H
        refine TC.nmB b6_16 (nm_one ep_18) ?_
        refine TC.seqS ?_
        refine TS.s OpY.move rfl ?_
        obtain ⟨u_19, eu_19, H⟩ := bnd H
        refine TS.s (OpY.sliceSv2 (cut_row eu_19 rfl).1 (cut_row eu_19 rfl).2.1 (cut_row eu_19 rfl).2.2) rfl ?_
        obtain ⟨x_20, ex_20, H⟩ := bnd H
        refine TS.s (OpY.callB1 [b0] (ArgB.sv (PlS.rowz (cut_le eu_19)) (cut_len eu_19 rfl) (by simp)) fun w v0 hA h0 => sum_Get_c w v0 hA (toD h0) ex_20) rfl ?_
        obtain ⟨x_21, ex_21, H⟩ := bnd H
        refine TS.s (OpD.conv64_i ex_21) rfl ?_
        refine TS.s OpY.assign rfl ?_
        refine TS.nil ?_
        refine TE.then ?_
        refine TC.kp [0, 2, 4, 6, 7] [b0, b2_0, b6_16] ?_
        refine TC.seq ?_
        refine TC.seqS ?_
        refine TS.s OpY.move rfl ?_
        refine TS.s OpY.move rfl ?_
        refine TS.s (OpD.lenSv (n := b0x.length) rfl) rfl ?_
        obtain ⟨x_22, ex_22, H⟩ := bnd H
        refine TS.s (OpY.call1 fun w v0 hA h0 => page_Room_c w v0 hA (toD h0) ex_22) rfl ?_
        refine TS.s OpY.gtr rfl ?_
        refine TS.s OpY.move rfl ?_
        refine TS.g 56 rfl (fun hg => (OpD.ldq Pl.one)) rfl ?_
        refine TS.g 56 rfl (fun hg => OpY.move) rfl ?_
        refine TS.g 56 rfl (fun hg => (OpD.lenSv (n := b0x.length) rfl)) rfl ?_
        obtain ⟨x_23, ex_23, H⟩ := bnd H
        refine TS.g 56 rfl (fun hg => (OpY.call2 fun w v0 v1 hA h0 h1 => page_May_c w v0 v1 hA (toD h0) (toD h1) (gb_some ex_23 (nF hg.h)))) rfl ?_
        refine TS.g 56 rfl (fun hg => OpY.notB) rfl ?_
        refine TS.s OpY.pickOr rfl ?_
        refine TS.nil ?_
        refine TE.then ?_
        refine TC.kp [0, 2, 4, 6, 7, 62] [b0, b2_0, b6_16] ?_
        refine TC.cond (fun hc => ?_) (fun hc => ?_)
        · replace H := cT H hc
          refine TC.seqS ?_
          refine TS.s (OpY.buildAs (⟨0, 0, 0, []⟩ : Page) rfl ⟨_, Try.underlying25, by kernel_rfl⟩ rfl rfl) rfl ?_
          refine TS.un (OpT.storeq (y := ((⟨0, 0, 0, []⟩ : Page) : Page)) Pl.one) ?_
          refine TS.s OpY.assign rfl ?_
          refine TS.nil ?_
          refine TE.then ?_
          refine TC.kp [2, 3] [b2_0, b0] ?_
          obtain ⟨k_24, ek_24, H⟩ := bnd H
          refine TC.nmB b2_0 (nm_one ek_24) ?_
          refine TC.ret ?_
          refine TE.then_ret ?_
          obtain rfl := (Option.some.inj H)
          exact TE.retON rfl rfl () (.cons Cv.le (.cons Cv.le .nil)) (Less.pk rfl (Less.nil _))
        · replace H := cF H hc
          refine TC.skip ?_
          refine TE.then ?_
          refine TC.kp [0, 2, 4, 6, 7] [b0, b2_0, b6_16] ?_
          refine TC.seq ?_
          refine TC.seqS ?_
          refine TS.s OpY.move rfl ?_
          refine TS.s OpY.move rfl ?_
          obtain ⟨x_25, ex_25, H⟩ := bnd H
          refine TS.s (OpD.add ex_25) rfl ?_
          obtain ⟨u_26, eu_26, H⟩ := bnd H
          refine TS.s (OpY.sliceSvFrom (cut_some eu_26).1 (cut_some eu_26).2.1) rfl ?_
          refine TS.s (OpD.lenSv rfl) rfl ?_
          refine TS.s OpY.move rfl ?_
          refine TS.nil ?_
          refine TE.then ?_
          refine TC.kp [0, 2, 6, 7, 67, 68, 69] [b0, b2_0, b6_16] ?_
          obtain ⟨o_27, H27, H⟩ := bnd H
          refine TC.cutP (fun s : Unit => o_27 = .inl s) (fun (_ : Unit) (_ : Unit) => (Env.set (Env.set (Env.set (Env.set Env.nil 0 (Sl b0 p0 0 b0x.length c0)) 2 (Pt b2_0 0)) 6 (Pt b6_16 0)) 7 (D (x_21 : Int)))) (fun (_ : Unit) (_ : Unit) => [⟨b0, p0, (Row (b0x : List UInt8) c0)⟩, ⟨b2_0, True, (One (Dat.z : Page))⟩, ⟨b6_16, True, (One (p_18 : Page))⟩]) ?_ ?_
          · skip
            refine TC.block ?_
            refine TC.loopP H27 (fun (x_28 : Int) (_ : Unit) => (Env.set (Env.set (Env.set (Env.set (Env.set (Env.set (Env.set Env.nil 0 (Sl b0 p0 0 b0x.length c0)) 2 (Pt b2_0 0)) 6 (Pt b6_16 0)) 7 (D (x_21 : Int))) 67 (Sv b0 p0 (0 + (Int.toNat x_25) * Dat.sz UInt8) (((((Int.toNat x_6) : Nat) : Int) - x_25).toNat))) 68 (D (((((((Int.toNat x_6) : Nat) : Int) - x_25).toNat : Nat) : Int) : Int))) 69 (D (x_28 : Int)))) (fun (x_28 : Int) (_ : Unit) => [⟨b0, p0, (Row (b0x : List UInt8) c0)⟩, ⟨b2_0, True, (One (Dat.z : Page))⟩, ⟨b6_16, True, (One (p_18 : Page))⟩]) () (Env.cv (Env.cv (Env.cv (Env.cv (Env.cv (Env.cv (Env.cvBy (Sl_le rfl) (Env.le_nil _)))))))) (Less.pk rfl (Less.pk rfl (Less.pk rfl (Less.nil _)))) ?_
            rintro x_28 ⟨⟩ x_29 H29 he29
            replace H29 : page_Read_v1_l1 b0x x_6 x_25 x_28 = some x_29 := H29
            unfold page_Read_v1_l1 at H29
            refine TC.seqS ?_
            refine TS.s OpY.lss rfl ?_
            refine TS.nil ?_
            refine TE.then ?_
            refine TC.kp [0, 2, 6, 7, 67, 68, 69, 70] [b0, b2_0, b6_16] ?_
            refine TC.seq ?_
            refine TC.cond (fun hc => ?_) (fun hc => ?_)
            · replace H29 := cT H29 hc
              refine TC.skip ?_
              refine TE.then ?_
              refine TC.kp [0, 2, 6, 7, 67, 68, 69] [b0, b2_0, b6_16] ?_
              refine TC.seq ?_
              refine TC.block ?_
              refine TC.seqS ?_
              obtain ⟨x_30, ex_30, H29⟩ := bnd H29
              refine TS.s (OpD.indexq (idx_sv ex_30 (by have h1 := cut_le eu_26; have h2 := (cut_le0 eu_7); simp; omega))) rfl ?_
              refine TS.s (OpD.ldq (Pl.rowSub (k := (Int.toNat x_25)) ex_30)) rfl ?_
              refine TS.s OpY.assign rfl ?_
              refine TS.nil ?_
              refine TE.then ?_
              refine TC.kp [0, 2, 6, 7, 9, 67, 68, 69] [b0, b2_0, b6_16] ?_
              refine TC.seqS ?_
              refine TS.s OpY.move rfl ?_
              refine TS.s OpY.neq8 rfl ?_
              refine TS.nil ?_
              refine TE.then ?_
              refine TC.kp [0, 2, 6, 7, 67, 68, 69, 74] [b0, b2_0, b6_16] ?_
              refine TC.cond (fun hc => ?_) (fun hc => ?_)
              · replace H29 := cT H29 hc
                refine TC.seqS ?_
                refine TS.s (OpY.buildAs (⟨0, 0, 0, []⟩ : Page) rfl ⟨_, Try.underlying25, by kernel_rfl⟩ rfl rfl) rfl ?_
                refine TS.un (OpT.storeq (y := ((⟨0, 0, 0, []⟩ : Page) : Page)) Pl.one) ?_
                refine TS.s OpY.assign rfl ?_
                refine TS.nil ?_
                refine TE.then ?_
                refine TC.kp [2, 3] [b2_0, b0] ?_
                obtain ⟨k_31, ek_31, H29⟩ := bnd H29
                refine TC.nmB b2_0 (nm_one ek_31) ?_
                refine TC.ret ?_
                refine TE.inBlock_ret ?_
                refine TE.then_ret ?_
                refine TE.then_ret ?_
                refine TE.inBlock_ret ?_
                refine TE.cut_ret ?_
                have R31 := elS_r (he29 _ (Option.some.inj H29).symm) H
                refine TE.then_ret ?_
                obtain rfl := (Option.some.inj R31)
                exact TE.retON rfl rfl () (.cons Cv.le (.cons Cv.le .nil)) (Less.pk rfl (Less.nil _))
              · replace H29 := cF H29 hc
                refine TC.skip ?_
                refine TE.inBlock_normal ?_
                refine TE.then ?_
                refine TC.kp [0, 2, 6, 7, 67, 68, 69] [b0, b2_0, b6_16] ?_
                refine TC.regionS ?_
                obtain ⟨x_33, ex_33, H29⟩ := bnd H29
                refine TS.s (OpD.add ex_33) rfl ?_
                refine TS.s OpY.move rfl ?_
                refine TS.nil ?_
                refine TE.kp [0, 2, 6, 7, 67, 68, 69] [b0, b2_0, b6_16] ?_
                exact TE.backP x_33 () (Option.some.inj H29).symm (Env.cv (Env.cv (Env.cv (Env.cv (Env.cv (Env.cv (Env.cvBy (Sl_le rfl) (Env.le_nil _)))))))) (Less.pk rfl (Less.pk rfl (Less.pk rfl (Less.nil _))))
            · replace H29 := cF H29 hc
              refine TC.exit ?_
              refine TE.then_exit ?_
              refine TE.then_exit ?_
              refine TE.inBlock_here ?_
              exact TE.cutP () () (he29 _ (Option.some.inj H29).symm).symm (Env.cv (Env.cv (Env.cv (Env.cvBy (Sl_le rfl) (Env.le_nil _))))) (Less.pk rfl (Less.pk rfl (Less.pk rfl (Less.nil _))))
          rintro ⟨⟩ ⟨⟩ hp
          replace H := elS_l hp H
          refine TE.then ?_
          refine TC.kp [0, 2, 6, 7] [b0, b2_0, b6_16] ?_
          refine TC.seq ?_
          obtain ⟨o_35, H35, H⟩ := bnd H
          refine TC.cutP (fun s : Page => o_35 = s) (fun (p_34 : Page) (_ : Unit) => (Env.set (Env.set Env.nil 2 (Pt b2_0 0)) 6 (Pt b6_16 0))) (fun (p_34 : Page) (_ : Unit) => [⟨b2_0, True, (One (Dat.z : Page))⟩, ⟨b6_16, True, (One (p_34 : Page))⟩, ⟨b0, p0, (Row (b0x : List UInt8) c0)⟩]) ?_ ?_
          · skip
            refine TC.seqS ?_
            refine TS.s OpY.move rfl ?_
            refine TS.s OpY.gtr rfl ?_
            refine TS.nil ?_
            refine TE.then ?_
            refine TC.kp [0, 2, 6, 7, 78] [b0, b2_0, b6_16] ?_
            refine TC.cond (fun hc => ?_) (fun hc => ?_)
            · replace H35 := cT H35 hc
              refine TC.regionS ?_
              refine TS.s OpY.move rfl ?_
              refine TS.s OpY.move rfl ?_
              obtain ⟨x_36, ex_36, H35⟩ := bnd H35
              refine TS.s (OpD.add ex_36) rfl ?_
              obtain ⟨u_37, eu_37, H35⟩ := bnd H35
              refine TS.s (OpY.sliceSv2 (cut_row eu_37 rfl).1 (cut_row eu_37 rfl).2.1 (cut_row eu_37 rfl).2.2) rfl ?_
              obtain ⟨x_38, ex_38, H35⟩ := bnd H35
              refine TS.t (OpT.callLO1 (xs := x_38) [b0] (ArgB.sv (PlS.rowz (cut_le eu_37)) (cut_len eu_37 rfl) (by simp)) fun w v0 hA hO hap hks h0 => slices_Clone_byte_o w v0 hA hO hap hks (toD h0) ex_38) rfl fun ⟨b83_38, p83_38, c83_38⟩ => ?_
              refine TS.s OpY.fieldAddr rfl ?_
              refine TS.un (OpT.storeHq (CtH.new (by decide))) ?_
              refine TS.nil ?_
              refine TE.kp [2, 6] [b2_0, b6_16, b83_38, b0] ?_
              refine TE.coll b6_16 b83_38 (o := 3) (((Pl.fld (off := 3) (α := Page) (β := (List UInt8)) Pl.one)).st (x_38 : List UInt8)) (PubC.sv PlS.all rfl) ?_
              exact TE.cutP (⟨p_18.Kind, p_18.Id, p_18.Gen, x_38⟩ : Page) () (Option.some.inj H35).symm (Env.cv (Env.cv (Env.le_nil _))) (Less.pk rfl (Less.pk rfl (Less.pk rfl (Less.nil _))))
            · replace H35 := cF H35 hc
              refine TC.skip ?_
              exact TE.cutP p_18 () (Option.some.inj H35).symm (Env.cv (Env.cv (Env.le_nil _))) (Less.pk rfl (Less.pk rfl (Less.pk rfl (Less.nil _))))
          rintro p_34 ⟨⟩ hp
          replace hp := hp.symm
          subst hp
          refine TE.then ?_
          refine TC.kp [2, 6] [b2_0, b6_16, b0] ?_
          refine TC.seqS ?_
          refine TS.s (OpD.ldq Pl.one) rfl ?_
          refine TS.un (OpT.storeq (y := (p_34 : Page)) Pl.one) ?_
          refine TS.s OpY.assign rfl ?_
          refine TS.nil ?_
          refine TE.then ?_
          refine TC.kp [2, 3] [b2_0, b0] ?_
          refine TC.ret ?_
          obtain rfl := (Option.some.inj H)
          exact TE.retON rfl rfl () (.cons Cv.le (.cons Cv.le .nil)) (Less.pk rfl (Less.nil _))
def bywaylaw07_PageTells (p0 : Page) (o0 : Page) (size0 : Int) (i0 : UInt16) (k0 : UInt16) (b0 : (List UInt8)) : Option Bool :=
  (bywaylaw07_awake).bind fun x_3 => bif (!x_3) then (some false) else ((page_Put p0 size0).bind fun x_4 => (bif (decide (x_4.2 = (0 : Int))) then ((page_Read_v1 x_4.1).bind fun x_7 => (page_Put o0 size0).bind fun r_10 => (gb (!(decide (x_7.2 ≠ (0 : Int)))) (bywayref07_Same p0 x_7.1)).bind fun x_11 => (gb ((!(((decide (x_7.2 ≠ (0 : Int))) || (!x_11)) || (decide ((x_4.1.length : Int) ≠ size0)))) && (decide (r_10.2 = (0 : Int)))) (bywayref07_Same p0 o0)).bind fun x_12 => bif ((((decide (x_7.2 ≠ (0 : Int))) || (!x_11)) || (decide ((x_4.1.length : Int) ≠ size0))) || ((decide (r_10.2 = (0 : Int))) && (decide ((decide (x_4.1 = r_10.1)) ≠ x_12)))) then (some (.inr false)) else ((mulI (8 : Int) size0).bind fun x_14 => (remI (i0.toNat : Int) x_14).bind fun x_15 => (mulI (8 : Int) size0).bind fun x_16 => (remI (k0.toNat : Int) x_16).bind fun x_17 => (quoI x_15 (8 : Int)).bind fun x_18 => (quoI x_15 (8 : Int)).bind fun x_19 => (idx x_4.1 x_19).bind fun x_20 => (remI x_15 (8 : Int)).bind fun x_21 => (idx x_4.1 x_18).bind fun x_22 => (some ((x_4.1.set (Int.toNat x_18) (x_20 ^^^ (shl8 (UInt8.ofNat 1) ((UInt64.ofInt x_21).toNat : Int)))) : (List UInt8))).bind fun l_23 => (page_Read_v1 l_23).bind fun x_24 => (quoI x_17 (8 : Int)).bind fun x_27 => (quoI x_17 (8 : Int)).bind fun x_28 => (idx l_23 x_28).bind fun x_29 => (remI x_17 (8 : Int)).bind fun x_30 => (idx l_23 x_27).bind fun x_31 => (some ((l_23.set (Int.toNat x_27) (x_29 ^^^ (shl8 (UInt8.ofNat 1) ((UInt64.ofInt x_30).toNat : Int)))) : (List UInt8))).bind fun l_32 => (page_Read l_32).bind fun r_33 => bif ((decide (x_24.2 ≠ (4 : Int))) || ((decide (x_15 ≠ x_17)) && (decide (r_33.2 ≠ (4 : Int))))) then (some (.inr false)) else (some (.inl ())))) else (some (.inl ()))).bind fun o_6 => elS o_6 (fun _ => bif (decide ((b0.length : Int) > (400 : Int))) then (some true) else ((page_Read b0).bind fun r_36 => bif ((decide (r_36.2 ≠ (0 : Int))) || (decide (r_36.1.Kind = (0 : Int)))) then ((bywayref07_Same r_36.1 (⟨0, 0, 0, []⟩ : Page)).bind fun x_38 => some x_38) else ((page_Put r_36.1 (b0.length : Int)).bind fun r_39 => some ((decide (r_39.2 = (0 : Int))) && (decide (r_39.1 = b0)))))) (fun q => some q))
/-- bywaylaw07.PageTells -/
theorem bywaylaw07_PageTells_c {A : Nat → Prop} {p0 : Page} {o0 : Page} {size0 : Int} {i0 : UInt16} {k0 : UInt16} {b0 : (List UInt8)}  {r : Bool} (w : World) (v0 v1 v2 v3 v4 v5 : Value) (hA : ∀ k, w.heap.size ≤ k → A k)  (h0 : (D (p0 : Page)).p A w v0) (h1 : (D (o0 : Page)).p A w v1) (h2 : (D (size0 : Int)).p A w v2) (h3 : (D (i0 : UInt16)).p A w v3) (h4 : (D (k0 : UInt16)).p A w v4) (h5 : (D (b0 : (List UInt8))).p A w v5) (H : bywaylaw07_PageTells p0 o0 size0 i0 k0 b0 = some r) :
    Calls Try.prog 4 #[v0, v1, v2, v3, v4, v5] w (Ret A w (D (r : Bool))) := by
  unfold bywaylaw07_PageTells at H
  refine enter6 hA Try.func4 rfl Try.ntmps4 rfl h0 h1 h2 h3 h4 h5 ?_
  refine TC.seqS ?_
  refine TS.box rfl fun b6_0 => ?_
  refine TS.box rfl fun b7_1 => ?_
  refine TS.s OpY.assign rfl ?_
  refine TS.nil ?_
  refine TE.then ?_
  refine TC.kp [2, 3, 4, 5, 6, 7] [b6_0, b7_1] ?_
  refine TC.seq ?_
  refine TC.seqS ?_
  obtain ⟨x_3, ex_3, H⟩ := bnd H
  refine TS.s (OpY.call0 fun w hA => bywaylaw07_awake_c w hA ex_3) rfl ?_
  refine TS.s OpY.notB rfl ?_
  refine TS.nil ?_
  refine TE.then ?_
  refine TC.kp [2, 3, 4, 5, 6, 7, 30] [b6_0, b7_1] ?_
  refine TC.cond (fun hc => ?_) (fun hc => ?_)
  · replace H := cT H hc
    refine TC.seqS ?_
    refine TS.s OpY.assign rfl ?_
    refine TS.nil ?_
    refine TE.then ?_
    refine TC.kp [12] [] ?_
    refine TC.ret ?_
    refine TE.then_ret ?_
    obtain rfl := (Option.some.inj H)
    exact TE.ret1 rfl Cv.le
  · replace H := cF H hc
    refine TC.skip ?_
    refine TE.then ?_
    refine TC.kp [2, 3, 4, 5, 6, 7] [b6_0, b7_1] ?_
    refine TC.seqS ?_
    refine TS.s (OpD.ldq Pl.one) rfl ?_
    refine TS.s OpY.move rfl ?_
    obtain ⟨x_4, ex_4, H⟩ := bnd H
    refine TS.t (OpT.callO2 [] fun w v0 v1 hA hO hap hks h0 h1 => page_Put_o w v0 v1 hA hO hap hks (toD h0) (toD h1) ex_4) rfl fun ⟨b34_4, p34_4, c34_4⟩ => ?_
    dsimp only [List.cons_append, List.nil_append]
    refine TS.s OpY.move rfl ?_
    refine TS.s (OpY.extract rfl) rfl ?_
    refine TS.s (OpY.extract rfl) rfl ?_
    refine TS.s OpY.assign rfl ?_
    refine TS.s OpY.assign rfl ?_
    refine TS.nil ?_
    refine TE.then ?_
    refine TC.kp [2, 3, 4, 5, 6, 7, 13, 14] [b6_0, b7_1, b34_4] ?_
    refine TC.seq ?_
    obtain ⟨o_6, H6, H⟩ := bnd H
    refine TC.cutP (fun s : Unit => o_6 = .inl s) (fun (_ : Unit) (_ : Unit) => (Env.set Env.nil 5 (D (b0 : (List UInt8))))) (fun (_ : Unit) (_ : Unit) => []) ?_ ?_
    · skip
      refine TC.seqS ?_
      refine TS.s OpY.move rfl ?_
      refine TS.s OpY.eql rfl ?_
      refine TS.nil ?_
      refine TE.then ?_
      refine TC.kp [2, 3, 4, 5, 6, 7, 13, 38] [b6_0, b7_1, b34_4] ?_
      refine TC.cond (fun hc => ?_) (fun hc => ?_)
      · replace H6 := cT H6 hc
        refine TC.seqS ?_
        refine TS.s OpY.move rfl ?_
        obtain ⟨x_7, ex_7, H6⟩ := bnd H6
        refine TS.t (OpT.callO1 [b34_4] fun w v0 hA hO hap hks h0 => page_Read_v1_o w v0 hA hO hap hks (slD rfl h0) ex_7) rfl fun _ => ?_
        dsimp only [List.cons_append, List.nil_append]
        refine TS.s OpY.move rfl ?_
        refine TS.s (OpY.extract rfl) rfl ?_
        refine TS.s (OpY.extract rfl) rfl ?_
        refine TS.alloc (α := Page) rfl fun b15_8 => ?_
        refine TS.un (OpT.storeq (y := (x_7.1 : Page)) Pl.one) ?_
        refine TS.s OpY.assign rfl ?_
        refine TS.nil ?_
        refine TE.then ?_
        refine TC.kp [2, 3, 4, 5, 6, 7, 13, 15, 16] [b6_0, b7_1, b34_4, b15_8] ?_
        refine TC.seqS ?_
        refine TS.s (OpD.ldq Pl.one) rfl ?_
        refine TS.s OpY.move rfl ?_
        obtain ⟨r_10, er_10, H6⟩ := bnd H6
        refine TS.s (OpY.call2 fun w v0 v1 hA h0 h1 => page_Put_c w v0 v1 hA (toD h0) (toD h1) er_10) rfl ?_
        refine TS.s OpY.move rfl ?_
        refine TS.s (OpY.extract rfl) rfl ?_
        refine TS.s (OpY.extract rfl) rfl ?_
        refine TS.s OpY.assign rfl ?_
        refine TS.s OpY.assign rfl ?_
        refine TS.nil ?_
        refine TE.then ?_
        refine TC.kp [2, 3, 4, 5, 6, 7, 13, 15, 16, 17, 18] [b6_0, b7_1, b34_4, b15_8] ?_
        refine TC.seq ?_
        refine TC.seqD0 mix (by kernel_rfl) ?_
        refine TR.s OpY.move rfl ?_
        refine TR.s OpY.neq rfl ?_
        refine TR.s OpY.move rfl ?_
        refine TR.g 52 rfl (fun hg => (OpD.ldq Pl.one)) rfl ?_
        refine TR.g 52 rfl (fun hg => (OpD.ldq Pl.one)) rfl ?_
        obtain ⟨x_11, ex_11, H6⟩ := bnd H6
        refine TR.g 52 rfl (fun hg => (OpY.call2 fun w v0 v1 hA h0 h1 => bywayref07_Same_c w v0 v1 hA (toD h0) (toD h1) (gb_some ex_11 (nF hg.h)))) rfl ?_
        refine TR.g 52 rfl (fun hg => OpY.notB) rfl ?_
        refine TR.s OpY.pickOr rfl ?_
        refine TR.s OpY.move rfl ?_
        refine TR.g 58 rfl (fun hg => OpY.move) rfl ?_
        refine TR.g 58 rfl (fun hg => (OpD.lenSv (n := x_4.1.length) rfl)) rfl ?_
        refine TR.g 58 rfl (fun hg => OpY.move) rfl ?_
        refine TR.g 58 rfl (fun hg => OpY.neq) rfl ?_
        refine TR.s OpY.pickOr rfl ?_
        refine TR.s OpY.move rfl ?_
        refine TR.g 64 rfl (fun hg => OpY.move) rfl ?_
        refine TR.g 64 rfl (fun hg => OpY.eql) rfl ?_
        refine TR.g 64 rfl (fun hg => OpY.move) rfl ?_
        refine TR.gg 67 rfl (fun hp hg => OpY.move) rfl ?_
        refine TR.gg 67 rfl (fun hp hg => (OpY.convSrc (SrcOf.sv PlS.all rfl))) rfl ?_
        refine TR.gg 67 rfl (fun hp hg => OpY.move) rfl ?_
        refine TR.gg 67 rfl (fun hp hg => OpY.conv_slice_string) rfl ?_
        refine TR.gg 67 rfl (fun hp hg => OpY.eql_string) rfl ?_
        refine TR.gg 67 rfl (fun hp hg => (OpD.ldq Pl.one)) rfl ?_
        refine TR.gg 67 rfl (fun hp hg => (OpD.ldq Pl.one)) rfl ?_
        obtain ⟨x_12, ex_12, H6⟩ := bnd H6
        refine TR.gg 67 rfl (fun hp hg => (OpY.call2 fun w v0 v1 hA h0 h1 => bywayref07_Same_c w v0 v1 hA (toD h0) (toD h1) (gb_some ex_12 (aT (nF hp.h) hg.h)))) rfl ?_
        refine TR.gg 67 rfl (fun hp hg => (OpY.neq_bool Try.underlying4)) rfl ?_
        refine TR.g 64 rfl (fun hg => OpY.pickAnd) rfl ?_
        refine TR.s OpY.pickOr rfl ?_
        refine TR.nil ?_
        refine TC.kp [2, 3, 4, 5, 13, 78] [b34_4] ?_
        refine TC.cond (fun hc => ?_) (fun hc => ?_)
        · replace H6 := cT H6 hc
          refine TC.seqS ?_
          refine TS.s OpY.assign rfl ?_
          refine TS.nil ?_
          refine TE.then ?_
          refine TC.kp [12] [] ?_
          refine TC.ret ?_
          refine TE.then_ret ?_
          refine TE.cut_ret ?_
          have R12 := elS_r (Option.some.inj H6) H
          refine TE.then_ret ?_
          obtain rfl := (Option.some.inj R12)
          exact TE.ret1 rfl Cv.le
        · replace H6 := cF H6 hc
          refine TC.skip ?_
          refine TE.then ?_
          refine TC.kp [2, 3, 4, 5, 13] [b34_4] ?_
          refine TC.seqD0 mix (by kernel_rfl) ?_
          refine TR.s OpY.move rfl ?_
          refine TR.s OpD.conv16_i rfl ?_
          refine TR.s OpY.move rfl ?_
          obtain ⟨x_14, ex_14, H6⟩ := bnd H6
          refine TR.s (OpD.mul ex_14) rfl ?_
          obtain ⟨x_15, ex_15, H6⟩ := bnd H6
          refine TR.s (OpD.rem ex_15) rfl ?_
          refine TR.s OpY.move rfl ?_
          refine TR.s OpD.conv16_i rfl ?_
          refine TR.s OpY.move rfl ?_
          obtain ⟨x_16, ex_16, H6⟩ := bnd H6
          refine TR.s (OpD.mul ex_16) rfl ?_
          obtain ⟨x_17, ex_17, H6⟩ := bnd H6
          refine TR.s (OpD.rem ex_17) rfl ?_
          refine TR.s OpY.assign rfl ?_
          refine TR.s OpY.assign rfl ?_
          refine TR.nil ?_
          refine TC.kp [5, 13, 19, 20] [b34_4] ?_
          refine TC.seqS ?_
          refine TS.s OpY.move rfl ?_
          refine TS.s OpY.move rfl ?_
          obtain ⟨x_18, ex_18, H6⟩ := bnd H6
          refine TS.s (OpD.quo ex_18) rfl ?_
          refine TS.s OpY.move rfl ?_
          refine TS.s OpY.move rfl ?_
          obtain ⟨x_19, ex_19, H6⟩ := bnd H6
          refine TS.s (OpD.quo ex_19) rfl ?_
          obtain ⟨x_20, ex_20, H6⟩ := bnd H6
          refine TS.s (OpD.indexq (idx_in ex_20 rfl)) rfl ?_
          refine TS.s (OpD.ldq (Pl.rowz ex_20)) rfl ?_
          refine TS.s OpY.move rfl ?_
          obtain ⟨x_21, ex_21, H6⟩ := bnd H6
          refine TS.s (OpD.rem ex_21) rfl ?_
          refine TS.s OpY.convi_64 rfl ?_
          refine TS.s (OpD.shl8 (Int.natCast_nonneg _)) rfl ?_
          refine TS.s OpY.xor8 rfl ?_
          obtain ⟨x_22, ex_22, H6⟩ := bnd H6
          refine TS.s (OpD.indexq (idx_in ex_22 rfl)) rfl ?_
          refine TS.un (OpT.storeq (y := ((x_20 ^^^ (shl8 (UInt8.ofNat 1) ((UInt64.ofInt x_21).toNat : Int))) : UInt8)) (Pl.rowz ex_22)) ?_
          refine TS.nil ?_
          refine TE.then ?_
          refine TC.kp [5, 13, 19, 20] [b34_4] ?_
          obtain ⟨l_23, el_23, H6⟩ := bnd H6
          refine TC.nmB b34_4 (nm_row el_23) ?_
          refine TC.see 13 _ (nm_sl2 el_23 (by simp)) ?_
          refine TC.seqS ?_
          refine TS.s OpY.move rfl ?_
          obtain ⟨x_24, ex_24, H6⟩ := bnd H6
          refine TS.t (OpT.callO1 [b34_4] fun w v0 hA hO hap hks h0 => page_Read_v1_o w v0 hA hO hap hks (slD rfl h0) ex_24) rfl fun _ => ?_
          dsimp only [List.cons_append, List.nil_append]
          refine TS.s OpY.move rfl ?_
          refine TS.s (OpY.extract rfl) rfl ?_
          refine TS.s (OpY.extract rfl) rfl ?_
          refine TS.alloc (α := Page) rfl fun b21_25 => ?_
          refine TS.un (OpT.storeq (y := (x_24.1 : Page)) Pl.one) ?_
          refine TS.s OpY.assign rfl ?_
          refine TS.nil ?_
          refine TE.then ?_
          refine TC.kp [5, 13, 19, 20, 22] [b34_4] ?_
          refine TC.seqS ?_
          refine TS.s OpY.move rfl ?_
          refine TS.s OpY.move rfl ?_
          obtain ⟨x_27, ex_27, H6⟩ := bnd H6
          refine TS.s (OpD.quo ex_27) rfl ?_
          refine TS.s OpY.move rfl ?_
          refine TS.s OpY.move rfl ?_
          obtain ⟨x_28, ex_28, H6⟩ := bnd H6
          refine TS.s (OpD.quo ex_28) rfl ?_
          obtain ⟨x_29, ex_29, H6⟩ := bnd H6
          refine TS.s (OpD.indexq (idx_in ex_29 rfl)) rfl ?_
          refine TS.s (OpD.ldq (Pl.rowz ex_29)) rfl ?_
          refine TS.s OpY.move rfl ?_
          obtain ⟨x_30, ex_30, H6⟩ := bnd H6
          refine TS.s (OpD.rem ex_30) rfl ?_
          refine TS.s OpY.convi_64 rfl ?_
          refine TS.s (OpD.shl8 (Int.natCast_nonneg _)) rfl ?_
          refine TS.s OpY.xor8 rfl ?_
          obtain ⟨x_31, ex_31, H6⟩ := bnd H6
          refine TS.s (OpD.indexq (idx_in ex_31 rfl)) rfl ?_
          refine TS.un (OpT.storeq (y := ((x_29 ^^^ (shl8 (UInt8.ofNat 1) ((UInt64.ofInt x_30).toNat : Int))) : UInt8)) (Pl.rowz ex_31)) ?_
          refine TS.nil ?_
          refine TE.then ?_
          refine TC.kp [5, 13, 19, 20, 22] [b34_4] ?_
          obtain ⟨l_32, el_32, H6⟩ := bnd H6
          refine TC.nmB b34_4 (nm_row el_32) ?_
          refine TC.see 13 _ (nm_sl2 el_32 (by simp)) ?_
          refine TC.seqS ?_
          refine TS.s OpY.move rfl ?_
          refine TS.pub b34_4 (PubE.set 123 (PubC.sv PlS.all rfl) (PubE.set 13 (PubC.sv PlS.all rfl) PubE.refl)) ?_
          obtain ⟨r_33, er_33, H6⟩ := bnd H6
          refine TS.s (OpY.call1 fun w v0 hA h0 => page_Read_c w v0 hA (toD h0) er_33) rfl ?_
          refine TS.s OpY.move rfl ?_
          refine TS.s (OpY.extract rfl) rfl ?_
          refine TS.s (OpY.extract rfl) rfl ?_
          refine TS.alloc (α := Page) rfl fun b23_33 => ?_
          refine TS.un (OpT.storeq (y := (r_33.1 : Page)) Pl.one) ?_
          refine TS.s OpY.assign rfl ?_
          refine TS.nil ?_
          refine TE.then ?_
          refine TC.kp [5, 19, 20, 22, 24] [] ?_
          refine TC.seqS ?_
          refine TS.s OpY.move rfl ?_
          refine TS.s OpY.neq rfl ?_
          refine TS.s OpY.move rfl ?_
          refine TS.g 129 rfl (fun hg => OpY.move) rfl ?_
          refine TS.g 129 rfl (fun hg => OpY.move) rfl ?_
          refine TS.g 129 rfl (fun hg => OpY.neq) rfl ?_
          refine TS.g 129 rfl (fun hg => OpY.move) rfl ?_
          refine TS.gg 133 rfl (fun hp hg => OpY.move) rfl ?_
          refine TS.gg 133 rfl (fun hp hg => OpY.neq) rfl ?_
          refine TS.g 129 rfl (fun hg => OpY.pickAnd) rfl ?_
          refine TS.s OpY.pickOr rfl ?_
          refine TS.nil ?_
          refine TE.then ?_
          refine TC.kp [5, 137] [] ?_
          refine TC.cond (fun hc => ?_) (fun hc => ?_)
          · replace H6 := cT H6 hc
            refine TC.seqS ?_
            refine TS.s OpY.assign rfl ?_
            refine TS.nil ?_
            refine TE.then ?_
            refine TC.kp [12] [] ?_
            refine TC.ret ?_
            refine TE.cut_ret ?_
            have R34 := elS_r (Option.some.inj H6) H
            refine TE.then_ret ?_
            obtain rfl := (Option.some.inj R34)
            exact TE.ret1 rfl Cv.le
          · replace H6 := cF H6 hc
            refine TC.skip ?_
            exact TE.cutP () () (Option.some.inj H6).symm (Env.cv (Env.le_nil _)) (Less.nil _)
      · replace H6 := cF H6 hc
        refine TC.skip ?_
        exact TE.cutP () () (Option.some.inj H6).symm (Env.cv (Env.le_nil _)) (Less.nil _)
    rintro ⟨⟩ ⟨⟩ hp
    replace H := elS_l hp H
    refine TE.then ?_
    refine TC.kp [5] [] ?_
    refine TC.seq ?_
    refine TC.seqS ?_
    refine TS.s OpY.move rfl ?_
    refine TS.s OpD.len rfl ?_
    refine TS.s OpY.gtr rfl ?_
    refine TS.nil ?_
    refine TE.then ?_
    refine TC.kp [5, 140] [] ?_
    refine TC.cond (fun hc => ?_) (fun hc => ?_)
    · replace H := cT H hc
      refine TC.seqS ?_
      refine TS.s OpY.assign rfl ?_
      refine TS.nil ?_
      refine TE.then ?_
      refine TC.kp [12] [] ?_
      refine TC.ret ?_
      refine TE.then_ret ?_
      obtain rfl := (Option.some.inj H)
      exact TE.ret1 rfl Cv.le
    · replace H := cF H hc
      refine TC.skip ?_
      refine TE.then ?_
      refine TC.kp [5] [] ?_
      refine TC.seqS ?_
      refine TS.s OpY.move rfl ?_
      obtain ⟨r_36, er_36, H⟩ := bnd H
      refine TS.s (OpY.call1 fun w v0 hA h0 => page_Read_c w v0 hA (toD h0) er_36) rfl ?_
      refine TS.s OpY.move rfl ?_
      refine TS.s (OpY.extract rfl) rfl ?_
      refine TS.s (OpY.extract rfl) rfl ?_
      refine TS.alloc (α := Page) rfl fun b25_36 => ?_
      refine TS.un (OpT.storeq (y := (r_36.1 : Page)) Pl.one) ?_
      refine TS.s OpY.assign rfl ?_
      refine TS.nil ?_
      refine TE.then ?_
      refine TC.kp [5, 25, 26] [b25_36] ?_
      refine TC.seq ?_
      refine TC.seqS ?_
      refine TS.s OpY.move rfl ?_
      refine TS.s OpY.neq rfl ?_
      refine TS.s OpY.move rfl ?_
      refine TS.g 148 rfl (fun hg => OpY.fieldAddr) rfl ?_
      refine TS.g 148 rfl (fun hg => (OpD.ldq (Pl.fld (off := 0) (α := Page) (β := Int) Pl.one))) rfl ?_
      refine TS.g 148 rfl (fun hg => OpY.eql) rfl ?_
      refine TS.s OpY.pickOr rfl ?_
      refine TS.nil ?_
      refine TE.then ?_
      refine TC.kp [5, 25, 152] [b25_36] ?_
      refine TC.cond (fun hc => ?_) (fun hc => ?_)
      · replace H := cT H hc
        refine TC.seqS ?_
        refine TS.s (OpD.ldq Pl.one) rfl ?_
        refine TS.s (OpY.buildAs (⟨0, 0, 0, []⟩ : Page) rfl ⟨_, Try.underlying25, by kernel_rfl⟩ rfl rfl) rfl ?_
        obtain ⟨x_38, ex_38, H⟩ := bnd H
        refine TS.s (OpY.call2 fun w v0 v1 hA h0 h1 => bywayref07_Same_c w v0 v1 hA (toD h0) (toD h1) ex_38) rfl ?_
        refine TS.s OpY.assign rfl ?_
        refine TS.nil ?_
        refine TE.then ?_
        refine TC.kp [12] [] ?_
        refine TC.ret ?_
        refine TE.then_ret ?_
        obtain rfl := (Option.some.inj H)
        exact TE.ret1 rfl Cv.le
      · replace H := cF H hc
        refine TC.skip ?_
        refine TE.then ?_
        refine TC.kp [5, 25] [b25_36] ?_
        refine TC.seqS ?_
        refine TS.s (OpD.ldq Pl.one) rfl ?_
        refine TS.s OpY.move rfl ?_
        refine TS.s OpD.len rfl ?_
        obtain ⟨r_39, er_39, H⟩ := bnd H
        refine TS.s (OpY.call2 fun w v0 v1 hA h0 h1 => page_Put_c w v0 v1 hA (toD h0) (toD h1) er_39) rfl ?_
        refine TS.s OpY.move rfl ?_
        refine TS.s (OpY.extract rfl) rfl ?_
        refine TS.s (OpY.extract rfl) rfl ?_
        refine TS.s OpY.assign rfl ?_
        refine TS.s OpY.assign rfl ?_
        refine TS.nil ?_
        refine TE.then ?_
        refine TC.kp [5, 27, 28] [] ?_
        refine TC.seqS ?_
        refine TS.s OpY.move rfl ?_
        refine TS.s OpY.eql rfl ?_
        refine TS.s OpY.move rfl ?_
        refine TS.g 165 rfl (fun hg => OpY.move) rfl ?_
        refine TS.g 165 rfl (fun hg => OpY.conv_slice_string) rfl ?_
        refine TS.g 165 rfl (fun hg => OpY.move) rfl ?_
        refine TS.g 165 rfl (fun hg => OpY.conv_slice_string) rfl ?_
        refine TS.g 165 rfl (fun hg => OpY.eql_string) rfl ?_
        refine TS.s OpY.pickAnd rfl ?_
        refine TS.s OpY.assign rfl ?_
        refine TS.nil ?_
        refine TE.then ?_
        refine TC.kp [12] [] ?_
        refine TC.ret ?_
        obtain rfl := (Option.some.inj H)
        exact TE.ret1 rfl Cv.le
end Go.Proofs.Ytfdmajkeihdhnaa.Tr
