/- The functions, as plain ones. Conditions: none. -/
import Derived.Test.YtfdmajkeihdhnaaTab
import Derived.Test.YtfdmajkeihdhnaaBaseW
namespace Go.Proofs.Ytfdmajkeihdhnaa.Tr
open Go Go.RowKit
set_option maxRecDepth 100000
set_option synthInstance.maxHeartbeats 400000
set_option synthInstance.maxSize 4096
set_option linter.unusedVariables false
set_option linter.unusedSimpArgs false

def bywaylaw10_awake : Option Bool :=
  (root_Put (⟨(UInt64.ofNat 3), ([(0 : Int), (258 : Int)] : List Int)⟩ : Roots) (24 : Int)).bind fun r_1 => (root_Put (⟨(UInt64.ofNat 5), ([(7 : Int)] : List Int)⟩ : Roots) (24 : Int)).bind fun r_2 => (root_Read r_1.1).bind fun r_3 => (room 1 (24 : Int)).bind fun u_5 => (root_Newest ([r_1.1, r_2.1, (List.replicate (Int.toNat (24 : Int)) (Dat.z : UInt8))] : List (List UInt8))).bind fun r_6 => (gb (((((decide (r_1.2 = (0 : Int))) && (decide (r_2.2 = (0 : Int)))) && (decide (r_3.2 = (0 : Int)))) && (decide (r_6.2.2 = (0 : Int)))) && (decide ((r_3.1.At.length : Int) = (2 : Int)))) (idx r_3.1.At (1 : Int))).bind fun x_8 => (gb ((((((((decide (r_1.2 = (0 : Int))) && (decide (r_2.2 = (0 : Int)))) && (decide (r_3.2 = (0 : Int)))) && (decide (r_6.2.2 = (0 : Int)))) && (decide ((r_3.1.At.length : Int) = (2 : Int)))) && (decide (x_8 = (258 : Int)))) && (decide (r_6.1 = (1 : Int)))) && (decide (r_6.2.1.Gen = (UInt64.ofNat 5)))) (root_Most (24 : Int))).bind fun x_9 => (gb (((((((((decide (r_1.2 = (0 : Int))) && (decide (r_2.2 = (0 : Int)))) && (decide (r_3.2 = (0 : Int)))) && (decide (r_6.2.2 = (0 : Int)))) && (decide ((r_3.1.At.length : Int) = (2 : Int)))) && (decide (x_8 = (258 : Int)))) && (decide (r_6.1 = (1 : Int)))) && (decide (r_6.2.1.Gen = (UInt64.ofNat 5)))) && (decide (x_9 = (4 : Int)))) (root_May r_3.1 (24 : Int))).bind fun x_10 => some ((((((((((decide (r_1.2 = (0 : Int))) && (decide (r_2.2 = (0 : Int)))) && (decide (r_3.2 = (0 : Int)))) && (decide (r_6.2.2 = (0 : Int)))) && (decide ((r_3.1.At.length : Int) = (2 : Int)))) && (decide (x_8 = (258 : Int)))) && (decide (r_6.1 = (1 : Int)))) && (decide (r_6.2.1.Gen = (UInt64.ofNat 5)))) && (decide (x_9 = (4 : Int)))) && x_10)
/-- bywaylaw10.awake -/
theorem bywaylaw10_awake_c {A : Nat → Prop}   {r : Bool} (w : World)  (hA : ∀ k, w.heap.size ≤ k → A k)   (H : bywaylaw10_awake = some r) :
    Calls Try.prog 41 #[] w (Ret A w (D (r : Bool))) := by
  unfold bywaylaw10_awake at H
  refine enter0 hA Try.func41 rfl Try.ntmps41 rfl  ?_
  refine TC.seqS ?_
  refine TS.s OpY.assign rfl ?_
  refine TS.nil ?_
  refine TE.then ?_
  refine TC.kp [] [] ?_
  refine TC.seqS ?_
  refine TS.s (OpY.buildSlice [.const (.int .i64 0), .const (.int .i64 258)] rfl rfl (by decide)) rfl ?_
  refine TS.s (OpY.buildAs (⟨(UInt64.ofNat 3), ([(0 : Int), (258 : Int)] : List Int)⟩ : Roots) rfl ⟨_, Try.underlying80, by kernel_rfl⟩ rfl rfl) rfl ?_
  obtain ⟨r_1, er_1, H⟩ := bnd H
  refine TS.s (OpY.call2 fun w v0 v1 hA h0 h1 => root_Put_c w v0 v1 hA (toD h0) (toD h1) er_1) rfl ?_
  refine TS.s OpY.move rfl ?_
  refine TS.s (OpY.extract rfl) rfl ?_
  refine TS.s (OpY.extract rfl) rfl ?_
  refine TS.s OpY.assign rfl ?_
  refine TS.s OpY.assign rfl ?_
  refine TS.nil ?_
  refine TE.then ?_
  refine TC.kp [1, 2] [] ?_
  refine TC.seqS ?_
  refine TS.s (OpY.buildSlice [.const (.int .i64 7)] rfl rfl (by decide)) rfl ?_
  refine TS.s (OpY.buildAs (⟨(UInt64.ofNat 5), ([(7 : Int)] : List Int)⟩ : Roots) rfl ⟨_, Try.underlying80, by kernel_rfl⟩ rfl rfl) rfl ?_
  obtain ⟨r_2, er_2, H⟩ := bnd H
  refine TS.s (OpY.call2 fun w v0 v1 hA h0 h1 => root_Put_c w v0 v1 hA (toD h0) (toD h1) er_2) rfl ?_
  refine TS.s OpY.move rfl ?_
  refine TS.s (OpY.extract rfl) rfl ?_
  refine TS.s (OpY.extract rfl) rfl ?_
  refine TS.s OpY.assign rfl ?_
  refine TS.s OpY.assign rfl ?_
  refine TS.nil ?_
  refine TE.then ?_
  refine TC.kp [1, 2, 3, 4] [] ?_
  refine TC.seqS ?_
  refine TS.s OpY.move rfl ?_
  obtain ⟨r_3, er_3, H⟩ := bnd H
  refine TS.s (OpY.call1 fun w v0 hA h0 => root_Read_c w v0 hA (toD h0) er_3) rfl ?_
  refine TS.s OpY.move rfl ?_
  refine TS.s (OpY.extract rfl) rfl ?_
  refine TS.s (OpY.extract rfl) rfl ?_
  refine TS.alloc (α := Roots) rfl fun b5_3 => ?_
  refine TS.un (OpT.storeq (y := (r_3.1 : Roots)) Pl.one) ?_
  refine TS.s OpY.assign rfl ?_
  refine TS.nil ?_
  refine TE.then ?_
  refine TC.kp [1, 2, 3, 4, 5, 6] [b5_3] ?_
  refine TC.seqS ?_
  refine TS.s OpY.move rfl ?_
  refine TS.s OpY.move rfl ?_
  obtain ⟨u_5, eu_5, H⟩ := bnd H
  refine TS.s (OpY.makeSlice (room_make eu_5).1 (room_make eu_5).2.1 (room_make eu_5).2.2) rfl ?_
  refine TS.s (OpY.buildSlice [.tmp 28, .tmp 29, .tmp 30] rfl rfl (by decide)) rfl ?_
  obtain ⟨r_6, er_6, H⟩ := bnd H
  refine TS.s (OpY.call1 fun w v0 hA h0 => root_Newest_c w v0 hA (toD h0) er_6) rfl ?_
  refine TS.s OpY.move rfl ?_
  refine TS.s (OpY.extract rfl) rfl ?_
  refine TS.s (OpY.extract rfl) rfl ?_
  refine TS.s (OpY.extract rfl) rfl ?_
  refine TS.alloc (α := Roots) rfl fun b8_6 => ?_
  refine TS.s OpY.assign rfl ?_
  refine TS.un (OpT.storeq (y := (r_6.2.1 : Roots)) Pl.one) ?_
  refine TS.s OpY.assign rfl ?_
  refine TS.nil ?_
  refine TE.then ?_
  refine TC.kp [2, 4, 5, 6, 7, 8, 9] [b5_3, b8_6] ?_
  refine TC.seqS ?_
  refine TS.s OpY.move rfl ?_
  refine TS.s OpY.eql rfl ?_
  refine TS.s OpY.move rfl ?_
  refine TS.g 38 rfl (fun hg => OpY.move) rfl ?_
  refine TS.g 38 rfl (fun hg => OpY.eql) rfl ?_
  refine TS.s OpY.pickAnd rfl ?_
  refine TS.s OpY.move rfl ?_
  refine TS.g 42 rfl (fun hg => OpY.move) rfl ?_
  refine TS.g 42 rfl (fun hg => OpY.eql) rfl ?_
  refine TS.s OpY.pickAnd rfl ?_
  refine TS.s OpY.move rfl ?_
  refine TS.g 46 rfl (fun hg => OpY.move) rfl ?_
  refine TS.g 46 rfl (fun hg => OpY.eql) rfl ?_
  refine TS.s OpY.pickAnd rfl ?_
  refine TS.s OpY.move rfl ?_
  refine TS.g 50 rfl (fun hg => OpY.fieldAddr) rfl ?_
  refine TS.g 50 rfl (fun hg => (OpD.ldq (Pl.fld (off := 1) (α := Roots) (β := (List Int)) Pl.one))) rfl ?_
  refine TS.g 50 rfl (fun hg => OpD.len) rfl ?_
  refine TS.g 50 rfl (fun hg => OpY.eql) rfl ?_
  refine TS.s OpY.pickAnd rfl ?_
  refine TS.s OpY.move rfl ?_
  refine TS.g 56 rfl (fun hg => OpY.fieldAddr) rfl ?_
  refine TS.g 56 rfl (fun hg => (OpD.ldq (Pl.fld (off := 1) (α := Roots) (β := (List Int)) Pl.one))) rfl ?_
  obtain ⟨x_8, ex_8, H⟩ := bnd H
  refine TS.g 56 rfl (fun hg => (OpD.index (gb_some ex_8 hg.h))) rfl ?_
  refine TS.g 56 rfl (fun hg => OpY.load) rfl ?_
  refine TS.g 56 rfl (fun hg => OpY.eql) rfl ?_
  refine TS.s OpY.pickAnd rfl ?_
  refine TS.s OpY.move rfl ?_
  refine TS.g 63 rfl (fun hg => OpY.move) rfl ?_
  refine TS.g 63 rfl (fun hg => OpY.eql) rfl ?_
  refine TS.s OpY.pickAnd rfl ?_
  refine TS.s OpY.move rfl ?_
  refine TS.g 67 rfl (fun hg => OpY.fieldAddr) rfl ?_
  refine TS.g 67 rfl (fun hg => (OpD.ldq (Pl.fld (off := 0) (α := Roots) (β := UInt64) Pl.one))) rfl ?_
  refine TS.g 67 rfl (fun hg => OpY.eql64) rfl ?_
  refine TS.s OpY.pickAnd rfl ?_
  refine TS.s OpY.move rfl ?_
  obtain ⟨x_9, ex_9, H⟩ := bnd H
  refine TS.g 72 rfl (fun hg => (OpY.call1 fun w v0 hA h0 => root_Most_c w v0 hA (toD h0) (gb_some ex_9 hg.h))) rfl ?_
  refine TS.g 72 rfl (fun hg => OpY.eql) rfl ?_
  refine TS.s OpY.pickAnd rfl ?_
  refine TS.s OpY.move rfl ?_
  refine TS.g 76 rfl (fun hg => (OpD.ldq Pl.one)) rfl ?_
  obtain ⟨x_10, ex_10, H⟩ := bnd H
  refine TS.g 76 rfl (fun hg => (OpY.call2 fun w v0 v1 hA h0 h1 => root_May_c w v0 v1 hA (toD h0) (toD h1) (gb_some ex_10 hg.h))) rfl ?_
  refine TS.s OpY.pickAnd rfl ?_
  refine TS.s OpY.assign rfl ?_
  refine TS.nil ?_
  refine TE.then ?_
  refine TC.kp [0] [] ?_
  refine TC.ret ?_
  obtain rfl := (Option.some.inj H)
  exact TE.ret1 rfl Cv.le
def bywaylaw10_RootNewest (r0 : Roots) (size0 : Int) (l0 : (List (List UInt8))) (bit0 : UInt16) : Option Bool :=
  (bywaylaw10_awake).bind fun x_2 => bif (!x_2) then (some false) else (bif ((decide ((r0.At.length : Int) > (80 : Int))) || (decide ((l0.length : Int) > (20 : Int)))) then (some true) else ((root_Put r0 size0).bind fun r_3 => bif (decide (r_3.2 ≠ (0 : Int))) then ((gb (decide ((r_3.1.length : Int) = (0 : Int))) (root_May r0 size0)).bind fun x_4 => some ((decide ((r_3.1.length : Int) = (0 : Int))) && (!x_4))) else ((root_Read r_3.1).bind fun r_5 => (gb (!(decide (r_5.2 ≠ (0 : Int)))) (bywayref10_Same r_5.1 r0)).bind fun x_7 => bif (((decide (r_5.2 ≠ (0 : Int))) || (!x_7)) || (decide ((r_3.1.length : Int) ≠ size0))) then (some false) else ((root_Newest l0).bind fun r_8 => (room 24 ((([] : List (List UInt8)).length + l0.length : Nat) : Int)).bind fun u_12 => (room 24 (((([] : List (List UInt8)) ++ l0).length + ([r_3.1] : List (List UInt8)).length : Nat) : Int)).bind fun u_14 => (root_Newest ((([] : List (List UInt8)) ++ l0) ++ ([r_3.1] : List (List UInt8)))).bind fun r_15 => (room 24 ((([r_3.1] : List (List UInt8)).length + l0.length : Nat) : Int)).bind fun u_17 => (root_Newest (([r_3.1] : List (List UInt8)) ++ l0)).bind fun r_18 => bif ((decide (r_15.2.2 ≠ (0 : Int))) || (decide (r_18.2.2 ≠ (0 : Int)))) then (some false) else ((bif ((decide (r_8.2.2 ≠ (0 : Int))) || (decide (r_8.2.1.Gen ≤ r0.Gen))) then ((gb (!(decide (r_15.1 ≠ (l0.length : Int)))) (bywayref10_Same r_15.2.1 r0)).bind fun x_21 => bif ((decide (r_15.1 ≠ (l0.length : Int))) || (!x_21)) then (some (.inr false)) else (some (.inl ()))) else ((gb (!(decide (r_15.1 ≠ r_8.1))) (bywayref10_Same r_15.2.1 r_8.2.1)).bind fun x_23 => bif ((decide (r_15.1 ≠ r_8.1)) || (!x_23)) then (some (.inr false)) else (some (.inl ())))).bind fun o_20 => elS o_20 (fun _ => (bif ((decide (r_8.2.2 ≠ (0 : Int))) || (decide (r_8.2.1.Gen < r0.Gen))) then ((gb (!(decide (r_18.1 ≠ (0 : Int)))) (bywayref10_Same r_18.2.1 r0)).bind fun x_26 => bif ((decide (r_18.1 ≠ (0 : Int))) || (!x_26)) then (some (.inr false)) else (some (.inl ()))) else ((addI r_8.1 (1 : Int)).bind fun x_28 => (gb (!(decide (r_18.1 ≠ x_28))) (bywayref10_Same r_18.2.1 r_8.2.1)).bind fun x_29 => bif ((decide (r_18.1 ≠ x_28)) || (!x_29)) then (some (.inr false)) else (some (.inl ())))).bind fun o_25 => elS o_25 (fun _ => (room 1 ((([] : List UInt8).length + r_3.1.length : Nat) : Int)).bind fun u_33 => (some ((([] : List UInt8) ++ r_3.1) : (List UInt8))).bind fun l_34 => (mulI (8 : Int) size0).bind fun x_35 => (remI (bit0.toNat : Int) x_35).bind fun x_36 => (quoI x_36 (8 : Int)).bind fun x_37 => (quoI x_36 (8 : Int)).bind fun x_38 => (idx l_34 x_38).bind fun x_39 => (remI x_36 (8 : Int)).bind fun x_40 => (idx l_34 x_37).bind fun x_41 => (some ((l_34.set (Int.toNat x_37) (x_39 ^^^ (shl8 (UInt8.ofNat 1) ((UInt64.ofInt x_40).toNat : Int)))) : (List UInt8))).bind fun l_42 => (room 24 ((([] : List (List UInt8)).length + l0.length : Nat) : Int)).bind fun u_45 => (room 24 (((([] : List (List UInt8)) ++ l0).length + ([l_42] : List (List UInt8)).length : Nat) : Int)).bind fun u_47 => (root_Newest ((([] : List (List UInt8)) ++ l0) ++ ([l_42] : List (List UInt8)))).bind fun r_48 => (gb ((decide (r_48.2.2 = r_8.2.2)) && (decide (r_48.1 = r_8.1))) (bywayref10_Same r_48.2.1 r_8.2.1)).bind fun x_50 => some ((((decide (r_48.2.2 = r_8.2.2)) && (decide (r_48.1 = r_8.1))) && x_50) || ((decide (r_8.2.2 = (6 : Int))) && (decide (r_48.2.2 = (2 : Int)))))) (fun q => some q)) (fun q => some q))))))
/-- bywaylaw10.RootNewest -/
theorem bywaylaw10_RootNewest_c {A : Nat → Prop} {r0 : Roots} {size0 : Int} {l0 : (List (List UInt8))} {bit0 : UInt16}  {r : Bool} (w : World) (v0 v1 v2 v3 : Value) (hA : ∀ k, w.heap.size ≤ k → A k)  (h0 : (D (r0 : Roots)).p A w v0) (h1 : (D (size0 : Int)).p A w v1) (h2 : (D (l0 : (List (List UInt8)))).p A w v2) (h3 : (D (bit0 : UInt16)).p A w v3) (H : bywaylaw10_RootNewest r0 size0 l0 bit0 = some r) :
    Calls Try.prog 9 #[v0, v1, v2, v3] w (Ret A w (D (r : Bool))) := by
  unfold bywaylaw10_RootNewest at H
  refine enter4 hA Try.func9 rfl Try.ntmps9 rfl h0 h1 h2 h3 ?_
  refine TC.seqS ?_
  refine TS.box rfl fun b4_0 => ?_
  refine TS.s OpY.assign rfl ?_
  refine TS.nil ?_
  refine TE.then ?_
  refine TC.kp [1, 2, 3, 4] [b4_0] ?_
  refine TC.seq ?_
  refine TC.seqS ?_
  obtain ⟨x_2, ex_2, H⟩ := bnd H
  refine TS.s (OpY.call0 fun w hA => bywaylaw10_awake_c w hA ex_2) rfl ?_
  refine TS.s OpY.notB rfl ?_
  refine TS.nil ?_
  refine TE.then ?_
  refine TC.kp [1, 2, 3, 4, 28] [b4_0] ?_
  refine TC.cond (fun hc => ?_) (fun hc => ?_)
  · replace H := cT H hc
    refine TC.seqS ?_
    refine TS.s OpY.assign rfl ?_
    refine TS.nil ?_
    refine TE.then ?_
    refine TC.kp [8] [] ?_
    refine TC.ret ?_
    refine TE.then_ret ?_
    obtain rfl := (Option.some.inj H)
    exact TE.ret1 rfl Cv.le
  · replace H := cF H hc
    refine TC.skip ?_
    refine TE.then ?_
    refine TC.kp [1, 2, 3, 4] [b4_0] ?_
    refine TC.seq ?_
    refine TC.seqS ?_
    refine TS.s OpY.fieldAddr rfl ?_
    refine TS.s (OpD.ldq (Pl.fld (off := 1) (α := Roots) (β := (List Int)) Pl.one)) rfl ?_
    refine TS.s OpD.len rfl ?_
    refine TS.s OpY.gtr rfl ?_
    refine TS.s OpY.move rfl ?_
    refine TS.g 33 rfl (fun hg => OpY.move) rfl ?_
    refine TS.g 33 rfl (fun hg => OpD.len) rfl ?_
    refine TS.g 33 rfl (fun hg => OpY.gtr) rfl ?_
    refine TS.s OpY.pickOr rfl ?_
    refine TS.nil ?_
    refine TE.then ?_
    refine TC.kp [1, 2, 3, 4, 37] [b4_0] ?_
    refine TC.cond (fun hc => ?_) (fun hc => ?_)
    · replace H := cT H hc
      refine TC.seqS ?_
      refine TS.s OpY.assign rfl ?_
      refine TS.nil ?_
      refine TE.then ?_
      refine TC.kp [8] [] ?_
      refine TC.ret ?_
      refine TE.then_ret ?_
      obtain rfl := (Option.some.inj H)
      exact TE.ret1 rfl Cv.le
    · replace H := cF H hc
      refine TC.skip ?_
      refine TE.then ?_
      refine TC.kp [1, 2, 3, 4] [b4_0] ?_
      refine TC.seqS ?_
      refine TS.s (OpD.ldq Pl.one) rfl ?_
      refine TS.s OpY.move rfl ?_
      obtain ⟨r_3, er_3, H⟩ := bnd H
      refine TS.s (OpY.call2 fun w v0 v1 hA h0 h1 => root_Put_c w v0 v1 hA (toD h0) (toD h1) er_3) rfl ?_
      refine TS.s OpY.move rfl ?_
      refine TS.s (OpY.extract rfl) rfl ?_
      refine TS.s (OpY.extract rfl) rfl ?_
      refine TS.s OpY.assign rfl ?_
      refine TS.s OpY.assign rfl ?_
      refine TS.nil ?_
      refine TE.then ?_
      refine TC.kp [1, 2, 3, 4, 9, 10] [b4_0] ?_
      refine TC.seq ?_
      refine TC.seqS ?_
      refine TS.s OpY.move rfl ?_
      refine TS.s OpY.neq rfl ?_
      refine TS.nil ?_
      refine TE.then ?_
      refine TC.kp [1, 2, 3, 4, 9, 45] [b4_0] ?_
      refine TC.cond (fun hc => ?_) (fun hc => ?_)
      · replace H := cT H hc
        refine TC.seqS ?_
        refine TS.s OpY.move rfl ?_
        refine TS.s OpD.len rfl ?_
        refine TS.s OpY.eql rfl ?_
        refine TS.s OpY.move rfl ?_
        refine TS.g 49 rfl (fun hg => (OpD.ldq Pl.one)) rfl ?_
        refine TS.g 49 rfl (fun hg => OpY.move) rfl ?_
        obtain ⟨x_4, ex_4, H⟩ := bnd H
        refine TS.g 49 rfl (fun hg => (OpY.call2 fun w v0 v1 hA h0 h1 => root_May_c w v0 v1 hA (toD h0) (toD h1) (gb_some ex_4 hg.h))) rfl ?_
        refine TS.g 49 rfl (fun hg => OpY.notB) rfl ?_
        refine TS.s OpY.pickAnd rfl ?_
        refine TS.s OpY.assign rfl ?_
        refine TS.nil ?_
        refine TE.then ?_
        refine TC.kp [8] [] ?_
        refine TC.ret ?_
        refine TE.then_ret ?_
        obtain rfl := (Option.some.inj H)
        exact TE.ret1 rfl Cv.le
      · replace H := cF H hc
        refine TC.skip ?_
        refine TE.then ?_
        refine TC.kp [1, 2, 3, 4, 9] [b4_0] ?_
        refine TC.seqS ?_
        refine TS.s OpY.move rfl ?_
        obtain ⟨r_5, er_5, H⟩ := bnd H
        refine TS.s (OpY.call1 fun w v0 hA h0 => root_Read_c w v0 hA (toD h0) er_5) rfl ?_
        refine TS.s OpY.move rfl ?_
        refine TS.s (OpY.extract rfl) rfl ?_
        refine TS.s (OpY.extract rfl) rfl ?_
        refine TS.alloc (α := Roots) rfl fun b11_5 => ?_
        refine TS.un (OpT.storeq (y := (r_5.1 : Roots)) Pl.one) ?_
        refine TS.s OpY.assign rfl ?_
        refine TS.nil ?_
        refine TE.then ?_
        refine TC.kp [1, 2, 3, 4, 9, 11, 12] [b4_0, b11_5] ?_
        refine TC.seq ?_
        refine TC.seqS ?_
        refine TS.s OpY.move rfl ?_
        refine TS.s OpY.neq rfl ?_
        refine TS.s OpY.move rfl ?_
        refine TS.g 62 rfl (fun hg => (OpD.ldq Pl.one)) rfl ?_
        refine TS.g 62 rfl (fun hg => (OpD.ldq Pl.one)) rfl ?_
        obtain ⟨x_7, ex_7, H⟩ := bnd H
        refine TS.g 62 rfl (fun hg => (OpY.call2 fun w v0 v1 hA h0 h1 => bywayref10_Same_c w v0 v1 hA (toD h0) (toD h1) (gb_some ex_7 (nF hg.h)))) rfl ?_
        refine TS.g 62 rfl (fun hg => OpY.notB) rfl ?_
        refine TS.s OpY.pickOr rfl ?_
        refine TS.s OpY.move rfl ?_
        refine TS.g 68 rfl (fun hg => OpY.move) rfl ?_
        refine TS.g 68 rfl (fun hg => OpD.len) rfl ?_
        refine TS.g 68 rfl (fun hg => OpY.move) rfl ?_
        refine TS.g 68 rfl (fun hg => OpY.neq) rfl ?_
        refine TS.s OpY.pickOr rfl ?_
        refine TS.nil ?_
        refine TE.then ?_
        refine TC.kp [1, 2, 3, 4, 9, 73] [b4_0] ?_
        refine TC.cond (fun hc => ?_) (fun hc => ?_)
        · replace H := cT H hc
          refine TC.seqS ?_
          refine TS.s OpY.assign rfl ?_
          refine TS.nil ?_
          refine TE.then ?_
          refine TC.kp [8] [] ?_
          refine TC.ret ?_
          refine TE.then_ret ?_
          obtain rfl := (Option.some.inj H)
          exact TE.ret1 rfl Cv.le
        · replace H := cF H hc
          refine TC.skip ?_
          refine TE.then ?_
          refine TC.kp [1, 2, 3, 4, 9] [b4_0] ?_
          refine TC.seqS ?_
          refine TS.s OpY.move rfl ?_
          obtain ⟨r_8, er_8, H⟩ := bnd H
          refine TS.s (OpY.call1 fun w v0 hA h0 => root_Newest_c w v0 hA (toD h0) er_8) rfl ?_
          refine TS.s OpY.move rfl ?_
          refine TS.s (OpY.extract rfl) rfl ?_
          refine TS.s (OpY.extract rfl) rfl ?_
          refine TS.s (OpY.extract rfl) rfl ?_
          refine TS.alloc (α := Roots) rfl fun b14_8 => ?_
          refine TS.s OpY.assign rfl ?_
          refine TS.un (OpT.storeq (y := (r_8.2.1 : Roots)) Pl.one) ?_
          refine TS.s OpY.assign rfl ?_
          refine TS.nil ?_
          refine TE.then ?_
          refine TC.kp [1, 2, 3, 4, 9, 13, 14, 15] [b4_0, b14_8] ?_
          refine TC.seqS ?_
          refine TS.build [] rfl rfl (by decide) rfl fun b81_9 => ?_
          refine TS.s OpY.move rfl ?_
          obtain ⟨u_12, eu_12, H⟩ := bnd H
          refine TS.app (ys := l0) inferInstance eu_12 rfl rfl rfl fun b83_10 p83_10 c83_10 => ?_
          refine TS.s OpY.move rfl ?_
          refine TS.s (OpY.buildSlice [.tmp 84] rfl rfl (by decide)) rfl ?_
          obtain ⟨u_14, eu_14, H⟩ := bnd H
          refine TS.app (ys := ([r_3.1] : List (List UInt8))) inferInstance eu_14 rfl rfl rfl fun b86_12 p86_12 c86_12 => ?_
          refine TS.pub b86_12 (PubE.set 86 (PubC.sv PlS.all rfl) PubE.refl) ?_
          obtain ⟨r_15, er_15, H⟩ := bnd H
          refine TS.s (OpY.call1 fun w v0 hA h0 => root_Newest_c w v0 hA (toD h0) er_15) rfl ?_
          refine TS.s OpY.move rfl ?_
          refine TS.s (OpY.extract rfl) rfl ?_
          refine TS.s (OpY.extract rfl) rfl ?_
          refine TS.s (OpY.extract rfl) rfl ?_
          refine TS.alloc (α := Roots) rfl fun b17_15 => ?_
          refine TS.s OpY.assign rfl ?_
          refine TS.un (OpT.storeq (y := (r_15.2.1 : Roots)) Pl.one) ?_
          refine TS.s OpY.assign rfl ?_
          refine TS.nil ?_
          refine TE.then ?_
          refine TC.kp [1, 2, 3, 4, 9, 13, 14, 15, 16, 17, 18] [b4_0, b14_8, b17_15] ?_
          refine TC.seqS ?_
          refine TS.s OpY.move rfl ?_
          refine TS.s (OpY.buildSlice [.tmp 92] rfl rfl (by decide)) rfl ?_
          refine TS.s OpY.move rfl ?_
          obtain ⟨u_17, eu_17, H⟩ := bnd H
          refine TS.s (OpY.appendFu (room_app eu_17).1 (room_app eu_17).2) rfl ?_
          obtain ⟨r_18, er_18, H⟩ := bnd H
          refine TS.s (OpY.call1 fun w v0 hA h0 => root_Newest_c w v0 hA (toD h0) er_18) rfl ?_
          refine TS.s OpY.move rfl ?_
          refine TS.s (OpY.extract rfl) rfl ?_
          refine TS.s (OpY.extract rfl) rfl ?_
          refine TS.s (OpY.extract rfl) rfl ?_
          refine TS.alloc (α := Roots) rfl fun b20_18 => ?_
          refine TS.s OpY.assign rfl ?_
          refine TS.un (OpT.storeq (y := (r_18.2.1 : Roots)) Pl.one) ?_
          refine TS.s OpY.assign rfl ?_
          refine TS.nil ?_
          refine TE.then ?_
          refine TC.kp [1, 2, 3, 4, 9, 13, 14, 15, 16, 17, 18, 19, 20, 21] [b4_0, b14_8, b17_15, b20_18] ?_
          refine TC.seq ?_
          refine TC.seqS ?_
          refine TS.s OpY.move rfl ?_
          refine TS.s OpY.neq rfl ?_
          refine TS.s OpY.move rfl ?_
          refine TS.g 102 rfl (fun hg => OpY.move) rfl ?_
          refine TS.g 102 rfl (fun hg => OpY.neq) rfl ?_
          refine TS.s OpY.pickOr rfl ?_
          refine TS.nil ?_
          refine TE.then ?_
          refine TC.kp [1, 2, 3, 4, 9, 13, 14, 15, 16, 17, 19, 20, 105] [b4_0, b14_8, b17_15, b20_18] ?_
          refine TC.cond (fun hc => ?_) (fun hc => ?_)
          · replace H := cT H hc
            refine TC.seqS ?_
            refine TS.s OpY.assign rfl ?_
            refine TS.nil ?_
            refine TE.then ?_
            refine TC.kp [8] [] ?_
            refine TC.ret ?_
            refine TE.then_ret ?_
            obtain rfl := (Option.some.inj H)
            exact TE.ret1 rfl Cv.le
          · replace H := cF H hc
            refine TC.skip ?_
            refine TE.then ?_
            refine TC.kp [1, 2, 3, 4, 9, 13, 14, 15, 16, 17, 19, 20] [b4_0, b14_8, b17_15, b20_18] ?_
            refine TC.seq ?_
            obtain ⟨o_20, H20, H⟩ := bnd H
            refine TC.cutP (fun s : Unit => o_20 = .inl s) (fun (_ : Unit) (_ : Unit) => (Env.set (Env.set (Env.set (Env.set (Env.set (Env.set (Env.set (Env.set (Env.set (Env.set Env.nil 1 (D (size0 : Int))) 2 (D (l0 : (List (List UInt8))))) 3 (D (bit0 : UInt16))) 4 (Pt b4_0 0)) 9 (D (r_3.1 : (List UInt8)))) 13 (D (r_8.1 : Int))) 14 (Pt b14_8 0)) 15 (D (r_8.2.2 : Int))) 19 (D (r_18.1 : Int))) 20 (Pt b20_18 0))) (fun (_ : Unit) (_ : Unit) => [⟨b4_0, True, (One (r0 : Roots))⟩, ⟨b14_8, True, (One (r_8.2.1 : Roots))⟩, ⟨b20_18, True, (One (r_18.2.1 : Roots))⟩]) ?_ ?_
            · skip
              refine TC.seqS ?_
              refine TS.s OpY.move rfl ?_
              refine TS.s OpY.neq rfl ?_
              refine TS.s OpY.move rfl ?_
              refine TS.g 108 rfl (fun hg => OpY.fieldAddr) rfl ?_
              refine TS.g 108 rfl (fun hg => (OpD.ldq (Pl.fld (off := 0) (α := Roots) (β := UInt64) Pl.one))) rfl ?_
              refine TS.g 108 rfl (fun hg => OpY.fieldAddr) rfl ?_
              refine TS.g 108 rfl (fun hg => (OpD.ldq (Pl.fld (off := 0) (α := Roots) (β := UInt64) Pl.one))) rfl ?_
              refine TS.g 108 rfl (fun hg => OpY.geq64) rfl ?_
              refine TS.s OpY.pickOr rfl ?_
              refine TS.nil ?_
              refine TE.then ?_
              refine TC.kp [1, 2, 3, 4, 9, 13, 14, 15, 16, 17, 19, 20, 114] [b4_0, b14_8, b17_15, b20_18] ?_
              refine TC.cond (fun hc => ?_) (fun hc => ?_)
              · replace H20 := cT H20 hc
                refine TC.seqS ?_
                refine TS.s OpY.move rfl ?_
                refine TS.s OpY.move rfl ?_
                refine TS.s OpD.len rfl ?_
                refine TS.s OpY.neq rfl ?_
                refine TS.s OpY.move rfl ?_
                refine TS.g 119 rfl (fun hg => (OpD.ldq Pl.one)) rfl ?_
                refine TS.g 119 rfl (fun hg => (OpD.ldq Pl.one)) rfl ?_
                obtain ⟨x_21, ex_21, H20⟩ := bnd H20
                refine TS.g 119 rfl (fun hg => (OpY.call2 fun w v0 v1 hA h0 h1 => bywayref10_Same_c w v0 v1 hA (toD h0) (toD h1) (gb_some ex_21 (nF hg.h)))) rfl ?_
                refine TS.g 119 rfl (fun hg => OpY.notB) rfl ?_
                refine TS.s OpY.pickOr rfl ?_
                refine TS.nil ?_
                refine TE.then ?_
                refine TC.kp [1, 2, 3, 4, 9, 13, 14, 15, 19, 20, 124] [b4_0, b14_8, b20_18] ?_
                refine TC.cond (fun hc => ?_) (fun hc => ?_)
                · replace H20 := cT H20 hc
                  refine TC.seqS ?_
                  refine TS.s OpY.assign rfl ?_
                  refine TS.nil ?_
                  refine TE.then ?_
                  refine TC.kp [8] [] ?_
                  refine TC.ret ?_
                  refine TE.cut_ret ?_
                  have R21 := elS_r (Option.some.inj H20) H
                  refine TE.then_ret ?_
                  obtain rfl := (Option.some.inj R21)
                  exact TE.ret1 rfl Cv.le
                · replace H20 := cF H20 hc
                  refine TC.skip ?_
                  exact TE.cutP () () (Option.some.inj H20).symm (Env.cv (Env.cv (Env.cv (Env.cv (Env.cv (Env.cv (Env.cv (Env.cv (Env.cv (Env.cv (Env.le_nil _))))))))))) (Less.pk rfl (Less.pk rfl (Less.pk rfl (Less.nil _))))
              · replace H20 := cF H20 hc
                refine TC.seqS ?_
                refine TS.s OpY.move rfl ?_
                refine TS.s OpY.move rfl ?_
                refine TS.s OpY.neq rfl ?_
                refine TS.s OpY.move rfl ?_
                refine TS.g 128 rfl (fun hg => (OpD.ldq Pl.one)) rfl ?_
                refine TS.g 128 rfl (fun hg => (OpD.ldq Pl.one)) rfl ?_
                obtain ⟨x_23, ex_23, H20⟩ := bnd H20
                refine TS.g 128 rfl (fun hg => (OpY.call2 fun w v0 v1 hA h0 h1 => bywayref10_Same_c w v0 v1 hA (toD h0) (toD h1) (gb_some ex_23 (nF hg.h)))) rfl ?_
                refine TS.g 128 rfl (fun hg => OpY.notB) rfl ?_
                refine TS.s OpY.pickOr rfl ?_
                refine TS.nil ?_
                refine TE.then ?_
                refine TC.kp [1, 2, 3, 4, 9, 13, 14, 15, 19, 20, 133] [b4_0, b14_8, b20_18] ?_
                refine TC.cond (fun hc => ?_) (fun hc => ?_)
                · replace H20 := cT H20 hc
                  refine TC.seqS ?_
                  refine TS.s OpY.assign rfl ?_
                  refine TS.nil ?_
                  refine TE.then ?_
                  refine TC.kp [8] [] ?_
                  refine TC.ret ?_
                  refine TE.cut_ret ?_
                  have R23 := elS_r (Option.some.inj H20) H
                  refine TE.then_ret ?_
                  obtain rfl := (Option.some.inj R23)
                  exact TE.ret1 rfl Cv.le
                · replace H20 := cF H20 hc
                  refine TC.skip ?_
                  exact TE.cutP () () (Option.some.inj H20).symm (Env.cv (Env.cv (Env.cv (Env.cv (Env.cv (Env.cv (Env.cv (Env.cv (Env.cv (Env.cv (Env.le_nil _))))))))))) (Less.pk rfl (Less.pk rfl (Less.pk rfl (Less.nil _))))
            rintro ⟨⟩ ⟨⟩ hp
            replace H := elS_l hp H
            refine TE.then ?_
            refine TC.kp [1, 2, 3, 4, 9, 13, 14, 15, 19, 20] [b4_0, b14_8, b20_18] ?_
            refine TC.seq ?_
            obtain ⟨o_25, H25, H⟩ := bnd H
            refine TC.cutP (fun s : Unit => o_25 = .inl s) (fun (_ : Unit) (_ : Unit) => (Env.set (Env.set (Env.set (Env.set (Env.set (Env.set (Env.set Env.nil 1 (D (size0 : Int))) 2 (D (l0 : (List (List UInt8))))) 3 (D (bit0 : UInt16))) 9 (D (r_3.1 : (List UInt8)))) 13 (D (r_8.1 : Int))) 14 (Pt b14_8 0)) 15 (D (r_8.2.2 : Int)))) (fun (_ : Unit) (_ : Unit) => [⟨b14_8, True, (One (r_8.2.1 : Roots))⟩]) ?_ ?_
            · skip
              refine TC.seqS ?_
              refine TS.s OpY.move rfl ?_
              refine TS.s OpY.neq rfl ?_
              refine TS.s OpY.move rfl ?_
              refine TS.g 136 rfl (fun hg => OpY.fieldAddr) rfl ?_
              refine TS.g 136 rfl (fun hg => (OpD.ldq (Pl.fld (off := 0) (α := Roots) (β := UInt64) Pl.one))) rfl ?_
              refine TS.g 136 rfl (fun hg => OpY.fieldAddr) rfl ?_
              refine TS.g 136 rfl (fun hg => (OpD.ldq (Pl.fld (off := 0) (α := Roots) (β := UInt64) Pl.one))) rfl ?_
              refine TS.g 136 rfl (fun hg => OpY.gtr64) rfl ?_
              refine TS.s OpY.pickOr rfl ?_
              refine TS.nil ?_
              refine TE.then ?_
              refine TC.kp [1, 2, 3, 4, 9, 13, 14, 15, 19, 20, 142] [b4_0, b14_8, b20_18] ?_
              refine TC.cond (fun hc => ?_) (fun hc => ?_)
              · replace H25 := cT H25 hc
                refine TC.seqS ?_
                refine TS.s OpY.move rfl ?_
                refine TS.s OpY.neq rfl ?_
                refine TS.s OpY.move rfl ?_
                refine TS.g 145 rfl (fun hg => (OpD.ldq Pl.one)) rfl ?_
                refine TS.g 145 rfl (fun hg => (OpD.ldq Pl.one)) rfl ?_
                obtain ⟨x_26, ex_26, H25⟩ := bnd H25
                refine TS.g 145 rfl (fun hg => (OpY.call2 fun w v0 v1 hA h0 h1 => bywayref10_Same_c w v0 v1 hA (toD h0) (toD h1) (gb_some ex_26 (nF hg.h)))) rfl ?_
                refine TS.g 145 rfl (fun hg => OpY.notB) rfl ?_
                refine TS.s OpY.pickOr rfl ?_
                refine TS.nil ?_
                refine TE.then ?_
                refine TC.kp [1, 2, 3, 9, 13, 14, 15, 150] [b14_8] ?_
                refine TC.cond (fun hc => ?_) (fun hc => ?_)
                · replace H25 := cT H25 hc
                  refine TC.seqS ?_
                  refine TS.s OpY.assign rfl ?_
                  refine TS.nil ?_
                  refine TE.then ?_
                  refine TC.kp [8] [] ?_
                  refine TC.ret ?_
                  refine TE.cut_ret ?_
                  have R26 := elS_r (Option.some.inj H25) H
                  refine TE.then_ret ?_
                  obtain rfl := (Option.some.inj R26)
                  exact TE.ret1 rfl Cv.le
                · replace H25 := cF H25 hc
                  refine TC.skip ?_
                  exact TE.cutP () () (Option.some.inj H25).symm (Env.cv (Env.cv (Env.cv (Env.cv (Env.cv (Env.cv (Env.cv (Env.le_nil _)))))))) (Less.pk rfl (Less.nil _))
              · replace H25 := cF H25 hc
                refine TC.seqS ?_
                refine TS.s OpY.move rfl ?_
                refine TS.s OpY.move rfl ?_
                obtain ⟨x_28, ex_28, H25⟩ := bnd H25
                refine TS.s (OpD.add ex_28) rfl ?_
                refine TS.s OpY.neq rfl ?_
                refine TS.s OpY.move rfl ?_
                refine TS.g 155 rfl (fun hg => (OpD.ldq Pl.one)) rfl ?_
                refine TS.g 155 rfl (fun hg => (OpD.ldq Pl.one)) rfl ?_
                obtain ⟨x_29, ex_29, H25⟩ := bnd H25
                refine TS.g 155 rfl (fun hg => (OpY.call2 fun w v0 v1 hA h0 h1 => bywayref10_Same_c w v0 v1 hA (toD h0) (toD h1) (gb_some ex_29 (nF hg.h)))) rfl ?_
                refine TS.g 155 rfl (fun hg => OpY.notB) rfl ?_
                refine TS.s OpY.pickOr rfl ?_
                refine TS.nil ?_
                refine TE.then ?_
                refine TC.kp [1, 2, 3, 9, 13, 14, 15, 160] [b14_8] ?_
                refine TC.cond (fun hc => ?_) (fun hc => ?_)
                · replace H25 := cT H25 hc
                  refine TC.seqS ?_
                  refine TS.s OpY.assign rfl ?_
                  refine TS.nil ?_
                  refine TE.then ?_
                  refine TC.kp [8] [] ?_
                  refine TC.ret ?_
                  refine TE.cut_ret ?_
                  have R29 := elS_r (Option.some.inj H25) H
                  refine TE.then_ret ?_
                  obtain rfl := (Option.some.inj R29)
                  exact TE.ret1 rfl Cv.le
                · replace H25 := cF H25 hc
                  refine TC.skip ?_
                  exact TE.cutP () () (Option.some.inj H25).symm (Env.cv (Env.cv (Env.cv (Env.cv (Env.cv (Env.cv (Env.cv (Env.le_nil _)))))))) (Less.pk rfl (Less.nil _))
            rintro ⟨⟩ ⟨⟩ hp
            replace H := elS_l hp H
            refine TE.then ?_
            refine TC.kp [1, 2, 3, 9, 13, 14, 15] [b14_8] ?_
            refine TC.seqS ?_
            refine TS.build [] rfl rfl (by decide) rfl fun b161_30 => ?_
            refine TS.s OpY.move rfl ?_
            obtain ⟨u_33, eu_33, H⟩ := bnd H
            refine TS.app (ys := r_3.1) inferInstance eu_33 rfl rfl rfl fun b163_31 p163_31 c163_31 => ?_
            refine TS.s OpY.assign rfl ?_
            refine TS.nil ?_
            refine TE.then ?_
            refine TC.kp [1, 2, 3, 13, 14, 15, 22] [b14_8, b163_31] ?_
            obtain ⟨l_34, el_34, H⟩ := bnd H
            refine TC.nmB b163_31 (nm_row el_34) ?_
            refine TC.see 22 _ (nm_sl2 el_34 rfl) ?_
            refine TC.seqS ?_
            refine TS.s OpY.move rfl ?_
            refine TS.s OpD.conv16_i rfl ?_
            refine TS.s OpY.move rfl ?_
            obtain ⟨x_35, ex_35, H⟩ := bnd H
            refine TS.s (OpD.mul ex_35) rfl ?_
            obtain ⟨x_36, ex_36, H⟩ := bnd H
            refine TS.s (OpD.rem ex_36) rfl ?_
            refine TS.s OpY.assign rfl ?_
            refine TS.nil ?_
            refine TE.then ?_
            refine TC.kp [2, 13, 14, 15, 22, 23] [b14_8, b163_31] ?_
            refine TC.seqS ?_
            refine TS.s OpY.move rfl ?_
            refine TS.s OpY.move rfl ?_
            obtain ⟨x_37, ex_37, H⟩ := bnd H
            refine TS.s (OpD.quo ex_37) rfl ?_
            refine TS.s OpY.move rfl ?_
            refine TS.s OpY.move rfl ?_
            obtain ⟨x_38, ex_38, H⟩ := bnd H
            refine TS.s (OpD.quo ex_38) rfl ?_
            obtain ⟨x_39, ex_39, H⟩ := bnd H
            refine TS.s (OpD.indexq (idx_in ex_39 rfl)) rfl ?_
            refine TS.s (OpD.ldq (Pl.rowz ex_39)) rfl ?_
            refine TS.s OpY.move rfl ?_
            obtain ⟨x_40, ex_40, H⟩ := bnd H
            refine TS.s (OpD.rem ex_40) rfl ?_
            refine TS.s OpY.convi_64 rfl ?_
            refine TS.s (OpD.shl8 (Int.natCast_nonneg _)) rfl ?_
            refine TS.s OpY.xor8 rfl ?_
            obtain ⟨x_41, ex_41, H⟩ := bnd H
            refine TS.s (OpD.indexq (idx_in ex_41 rfl)) rfl ?_
            refine TS.un (OpT.storeq (y := ((x_39 ^^^ (shl8 (UInt8.ofNat 1) ((UInt64.ofInt x_40).toNat : Int))) : UInt8)) (Pl.rowz ex_41)) ?_
            refine TS.nil ?_
            refine TE.then ?_
            refine TC.kp [2, 13, 14, 15, 22] [b14_8, b163_31] ?_
            obtain ⟨l_42, el_42, H⟩ := bnd H
            refine TC.nmB b163_31 (nm_row el_42) ?_
            refine TC.see 22 _ (nm_sl2 el_42 (by simp)) ?_
            refine TC.seqS ?_
            refine TS.build [] rfl rfl (by decide) rfl fun b184_42 => ?_
            refine TS.s OpY.move rfl ?_
            obtain ⟨u_45, eu_45, H⟩ := bnd H
            refine TS.app (ys := l0) inferInstance eu_45 rfl rfl rfl fun b186_43 p186_43 c186_43 => ?_
            refine TS.s OpY.move rfl ?_
            refine TS.pub b163_31 (PubE.set 187 (PubC.sv PlS.all rfl) (PubE.set 22 (PubC.sv PlS.all rfl) PubE.refl)) ?_
            refine TS.s (OpY.buildSlice [.tmp 187] rfl rfl (by decide)) rfl ?_
            obtain ⟨u_47, eu_47, H⟩ := bnd H
            refine TS.app (ys := ([l_42] : List (List UInt8))) inferInstance eu_47 rfl rfl rfl fun b189_45 p189_45 c189_45 => ?_
            refine TS.pub b189_45 (PubE.set 189 (PubC.sv PlS.all rfl) PubE.refl) ?_
            obtain ⟨r_48, er_48, H⟩ := bnd H
            refine TS.s (OpY.call1 fun w v0 hA h0 => root_Newest_c w v0 hA (toD h0) er_48) rfl ?_
            refine TS.s OpY.move rfl ?_
            refine TS.s (OpY.extract rfl) rfl ?_
            refine TS.s (OpY.extract rfl) rfl ?_
            refine TS.s (OpY.extract rfl) rfl ?_
            refine TS.alloc (α := Roots) rfl fun b25_48 => ?_
            refine TS.s OpY.assign rfl ?_
            refine TS.un (OpT.storeq (y := (r_48.2.1 : Roots)) Pl.one) ?_
            refine TS.s OpY.assign rfl ?_
            refine TS.nil ?_
            refine TE.then ?_
            refine TC.kp [13, 14, 15, 24, 25, 26] [b14_8, b25_48] ?_
            refine TC.seqS ?_
            refine TS.s OpY.move rfl ?_
            refine TS.s OpY.move rfl ?_
            refine TS.s OpY.eql rfl ?_
            refine TS.s OpY.move rfl ?_
            refine TS.g 197 rfl (fun hg => OpY.move) rfl ?_
            refine TS.g 197 rfl (fun hg => OpY.move) rfl ?_
            refine TS.g 197 rfl (fun hg => OpY.eql) rfl ?_
            refine TS.s OpY.pickAnd rfl ?_
            refine TS.s OpY.move rfl ?_
            refine TS.g 202 rfl (fun hg => (OpD.ldq Pl.one)) rfl ?_
            refine TS.g 202 rfl (fun hg => (OpD.ldq Pl.one)) rfl ?_
            obtain ⟨x_50, ex_50, H⟩ := bnd H
            refine TS.g 202 rfl (fun hg => (OpY.call2 fun w v0 v1 hA h0 h1 => bywayref10_Same_c w v0 v1 hA (toD h0) (toD h1) (gb_some ex_50 hg.h))) rfl ?_
            refine TS.s OpY.pickAnd rfl ?_
            refine TS.s OpY.move rfl ?_
            refine TS.g 207 rfl (fun hg => OpY.move) rfl ?_
            refine TS.g 207 rfl (fun hg => OpY.eql) rfl ?_
            refine TS.g 207 rfl (fun hg => OpY.move) rfl ?_
            refine TS.gg 210 rfl (fun hp hg => OpY.move) rfl ?_
            refine TS.gg 210 rfl (fun hp hg => OpY.eql) rfl ?_
            refine TS.g 207 rfl (fun hg => OpY.pickAnd) rfl ?_
            refine TS.s OpY.pickOr rfl ?_
            refine TS.s OpY.assign rfl ?_
            refine TS.nil ?_
            refine TE.then ?_
            refine TC.kp [8] [] ?_
            refine TC.ret ?_
            obtain rfl := (Option.some.inj H)
            exact TE.ret1 rfl Cv.le
def bywaylaw10_RootMost_l1 (l0 : (List (List UInt8))) (i_15 : Int) : Option (Int ⊕ (Unit ⊕ Bool)) :=
  bif (decide (i_15 < (l0.length : Int))) then ((idx l0 i_15).bind fun x_17 => bif (decide ((x_17.length : Int) > (300 : Int))) then (some (.inr (.inr true))) else ((addI i_15 (1 : Int)).bind fun x_19 => some (.inl x_19))) else (some (.inr (.inl ())))
def bywaylaw10_RootMost_l2 (l0 : (List (List UInt8))) (r_20 : (Int × Roots × Int)) (i_23 : Int) : Option (Int ⊕ (Unit ⊕ Bool)) :=
  bif (decide (i_23 < (l0.length : Int))) then ((idx l0 i_23).bind fun x_25 => (root_Read x_25).bind fun r_26 => bif ((decide (r_26.2 = (0 : Int))) && (((decide (r_20.2.2 ≠ (0 : Int))) || (decide (r_20.2.1.Gen < r_26.1.Gen))) || ((decide (i_23 > r_20.1)) && (decide (r_26.1.Gen = r_20.2.1.Gen))))) then (some (.inr (.inr false))) else ((addI i_23 (1 : Int)).bind fun x_29 => some (.inl x_29))) else (some (.inr (.inl ())))
def bywaylaw10_RootMost (size0 : Int) (gen0 : UInt64) (l0 : (List (List UInt8))) : Option Bool :=
  (bywaylaw10_awake).bind fun x_1 => bif (!x_1) then (some false) else (bif (decide ((l0.length : Int) > (20 : Int))) then (some true) else ((root_Most size0).bind fun x_2 => bif ((decide (x_2 < (0 : Int))) || (decide (x_2 > (64 : Int)))) then (some false) else ((bif ((decide (size0 ≥ (24 : Int))) && (decide (size0 ≤ (256 : Int)))) then ((room 8 x_2).bind fun u_4 => (some ((⟨(gen0 % (UInt64.ofNat 281474976710656)), (List.replicate (Int.toNat x_2) (Dat.z : Int))⟩ : Roots) : Roots)).bind fun a_6 => (addI x_2 (1 : Int)).bind fun x_7 => (room 8 x_7).bind fun u_8 => (some ((⟨(gen0 % (UInt64.ofNat 281474976710656)), (List.replicate (Int.toNat x_7) (Dat.z : Int))⟩ : Roots) : Roots)).bind fun b_10 => (root_May a_6 size0).bind fun x_11 => (gb (!(!x_11)) (root_May b_10 size0)).bind fun x_12 => bif ((!x_11) || x_12) then (some (.inr false)) else (some (.inl ()))) else (some (.inl ()))).bind fun o_3 => elS o_3 (fun _ => (loopO (fun s => bywaylaw10_RootMost_l1 l0 s) (0 : Int)).bind fun o_14 => elS o_14 (fun _ => (root_Newest l0).bind fun r_20 => (loopO (fun s => bywaylaw10_RootMost_l2 l0 r_20 s) (0 : Int)).bind fun o_22 => elS o_22 (fun _ => bif (decide (r_20.2.2 ≠ (0 : Int))) then ((gb (decide (r_20.1 = (0 : Int))) (bywayref10_Same r_20.2.1 (⟨0, []⟩ : Roots))).bind fun x_30 => some ((decide (r_20.1 = (0 : Int))) && x_30)) else ((idx l0 r_20.1).bind fun x_31 => (root_Read x_31).bind fun r_32 => (gb (decide (r_32.2 = (0 : Int))) (bywayref10_Same r_32.1 r_20.2.1)).bind fun x_34 => some ((decide (r_32.2 = (0 : Int))) && x_34))) (fun q => some q)) (fun q => some q)) (fun q => some q))))
/-- bywaylaw10.RootMost -/
theorem bywaylaw10_RootMost_c {A : Nat → Prop} {size0 : Int} {gen0 : UInt64} {l0 : (List (List UInt8))}  {r : Bool} (w : World) (v0 v1 v2 : Value) (hA : ∀ k, w.heap.size ≤ k → A k)  (h0 : (D (size0 : Int)).p A w v0) (h1 : (D (gen0 : UInt64)).p A w v1) (h2 : (D (l0 : (List (List UInt8)))).p A w v2) (H : bywaylaw10_RootMost size0 gen0 l0 = some r) :
    Calls Try.prog 10 #[v0, v1, v2] w (Ret A w (D (r : Bool))) := by
  unfold bywaylaw10_RootMost at H
  refine enter3 hA Try.func10 rfl Try.ntmps10 rfl h0 h1 h2 ?_
  refine TC.seqS ?_
  refine TS.s OpY.assign rfl ?_
  refine TS.nil ?_
  refine TE.then ?_
  refine TC.kp [0, 1, 2] [] ?_
  refine TC.seq ?_
  refine TC.seqS ?_
  obtain ⟨x_1, ex_1, H⟩ := bnd H
  refine TS.s (OpY.call0 fun w hA => bywaylaw10_awake_c w hA ex_1) rfl ?_
  refine TS.s OpY.notB rfl ?_
  refine TS.nil ?_
  refine TE.then ?_
  refine TC.kp [0, 1, 2, 20] [] ?_
  refine TC.cond (fun hc => ?_) (fun hc => ?_)
  · replace H := cT H hc
    refine TC.seqS ?_
    refine TS.s OpY.assign rfl ?_
    refine TS.nil ?_
    refine TE.then ?_
    refine TC.kp [6] [] ?_
    refine TC.ret ?_
    refine TE.then_ret ?_
    obtain rfl := (Option.some.inj H)
    exact TE.ret1 rfl Cv.le
  · replace H := cF H hc
    refine TC.skip ?_
    refine TE.then ?_
    refine TC.kp [0, 1, 2] [] ?_
    refine TC.seq ?_
    refine TC.seqS ?_
    refine TS.s OpY.move rfl ?_
    refine TS.s OpD.len rfl ?_
    refine TS.s OpY.gtr rfl ?_
    refine TS.nil ?_
    refine TE.then ?_
    refine TC.kp [0, 1, 2, 23] [] ?_
    refine TC.cond (fun hc => ?_) (fun hc => ?_)
    · replace H := cT H hc
      refine TC.seqS ?_
      refine TS.s OpY.assign rfl ?_
      refine TS.nil ?_
      refine TE.then ?_
      refine TC.kp [6] [] ?_
      refine TC.ret ?_
      refine TE.then_ret ?_
      obtain rfl := (Option.some.inj H)
      exact TE.ret1 rfl Cv.le
    · replace H := cF H hc
      refine TC.skip ?_
      refine TE.then ?_
      refine TC.kp [0, 1, 2] [] ?_
      refine TC.seqS ?_
      refine TS.s OpY.move rfl ?_
      obtain ⟨x_2, ex_2, H⟩ := bnd H
      refine TS.s (OpY.call1 fun w v0 hA h0 => root_Most_c w v0 hA (toD h0) ex_2) rfl ?_
      refine TS.s OpY.assign rfl ?_
      refine TS.nil ?_
      refine TE.then ?_
      refine TC.kp [0, 1, 2, 7] [] ?_
      refine TC.seq ?_
      refine TC.seqS ?_
      refine TS.s OpY.move rfl ?_
      refine TS.s OpY.lss rfl ?_
      refine TS.s OpY.move rfl ?_
      refine TS.g 28 rfl (fun hg => OpY.move) rfl ?_
      refine TS.g 28 rfl (fun hg => OpY.gtr) rfl ?_
      refine TS.s OpY.pickOr rfl ?_
      refine TS.nil ?_
      refine TE.then ?_
      refine TC.kp [0, 1, 2, 7, 31] [] ?_
      refine TC.cond (fun hc => ?_) (fun hc => ?_)
      · replace H := cT H hc
        refine TC.seqS ?_
        refine TS.s OpY.assign rfl ?_
        refine TS.nil ?_
        refine TE.then ?_
        refine TC.kp [6] [] ?_
        refine TC.ret ?_
        refine TE.then_ret ?_
        obtain rfl := (Option.some.inj H)
        exact TE.ret1 rfl Cv.le
      · replace H := cF H hc
        refine TC.skip ?_
        refine TE.then ?_
        refine TC.kp [0, 1, 2, 7] [] ?_
        refine TC.seq ?_
        obtain ⟨o_3, H3, H⟩ := bnd H
        refine TC.cutP (fun s : Unit => o_3 = .inl s) (fun (_ : Unit) (_ : Unit) => (Env.set Env.nil 2 (D (l0 : (List (List UInt8)))))) (fun (_ : Unit) (_ : Unit) => []) ?_ ?_
        · skip
          refine TC.seqS ?_
          refine TS.s OpY.move rfl ?_
          refine TS.s OpY.geq rfl ?_
          refine TS.s OpY.move rfl ?_
          refine TS.g 34 rfl (fun hg => OpY.move) rfl ?_
          refine TS.g 34 rfl (fun hg => OpY.leq) rfl ?_
          refine TS.s OpY.pickAnd rfl ?_
          refine TS.nil ?_
          refine TE.then ?_
          refine TC.kp [0, 1, 2, 7, 37] [] ?_
          refine TC.cond (fun hc => ?_) (fun hc => ?_)
          · replace H3 := cT H3 hc
            refine TC.seqS ?_
            refine TS.s OpY.move rfl ?_
            refine TS.s (OpY.rem64 (by decide)) rfl ?_
            refine TS.s OpY.move rfl ?_
            obtain ⟨u_4, eu_4, H3⟩ := bnd H3
            refine TS.s (OpY.makeSlice (room_make eu_4).1 (room_make eu_4).2.1 (room_make eu_4).2.2) rfl ?_
            refine TS.s (OpY.buildAs (⟨(gen0 % (UInt64.ofNat 281474976710656)), (List.replicate (Int.toNat x_2) (Dat.z : Int))⟩ : Roots) rfl ⟨_, Try.underlying80, by kernel_rfl⟩ rfl rfl) rfl ?_
            refine TS.alloc (α := Roots) rfl fun b8_4 => ?_
            refine TS.un (OpT.storeq (y := ((⟨(gen0 % (UInt64.ofNat 281474976710656)), (List.replicate (Int.toNat x_2) (Dat.z : Int))⟩ : Roots) : Roots)) Pl.one) ?_
            refine TS.nil ?_
            refine TE.then ?_
            refine TC.kp [0, 1, 2, 7, 8] [b8_4] ?_
            obtain ⟨a_6, ea_6, H3⟩ := bnd H3
            refine TC.nmB b8_4 (nm_one ea_6) ?_
            refine TC.seqS ?_
            refine TS.s OpY.move rfl ?_
            refine TS.s (OpY.rem64 (by decide)) rfl ?_
            refine TS.s OpY.move rfl ?_
            obtain ⟨x_7, ex_7, H3⟩ := bnd H3
            refine TS.s (OpD.add ex_7) rfl ?_
            obtain ⟨u_8, eu_8, H3⟩ := bnd H3
            refine TS.s (OpY.makeSlice (room_make eu_8).1 (room_make eu_8).2.1 (room_make eu_8).2.2) rfl ?_
            refine TS.s (OpY.buildAs (⟨(gen0 % (UInt64.ofNat 281474976710656)), (List.replicate (Int.toNat x_7) (Dat.z : Int))⟩ : Roots) rfl ⟨_, Try.underlying80, by kernel_rfl⟩ rfl rfl) rfl ?_
            refine TS.alloc (α := Roots) rfl fun b9_8 => ?_
            refine TS.un (OpT.storeq (y := ((⟨(gen0 % (UInt64.ofNat 281474976710656)), (List.replicate (Int.toNat x_7) (Dat.z : Int))⟩ : Roots) : Roots)) Pl.one) ?_
            refine TS.nil ?_
            refine TE.then ?_
            refine TC.kp [0, 2, 8, 9] [b8_4, b9_8] ?_
            obtain ⟨b_10, eb_10, H3⟩ := bnd H3
            refine TC.nmB b9_8 (nm_one eb_10) ?_
            refine TC.seqS ?_
            refine TS.s (OpD.ldq Pl.one) rfl ?_
            refine TS.s OpY.move rfl ?_
            obtain ⟨x_11, ex_11, H3⟩ := bnd H3
            refine TS.s (OpY.call2 fun w v0 v1 hA h0 h1 => root_May_c w v0 v1 hA (toD h0) (toD h1) ex_11) rfl ?_
            refine TS.s OpY.notB rfl ?_
            refine TS.s OpY.move rfl ?_
            refine TS.g 53 rfl (fun hg => (OpD.ldq Pl.one)) rfl ?_
            refine TS.g 53 rfl (fun hg => OpY.move) rfl ?_
            obtain ⟨x_12, ex_12, H3⟩ := bnd H3
            refine TS.g 53 rfl (fun hg => (OpY.call2 fun w v0 v1 hA h0 h1 => root_May_c w v0 v1 hA (toD h0) (toD h1) (gb_some ex_12 (nF hg.h)))) rfl ?_
            refine TS.s OpY.pickOr rfl ?_
            refine TS.nil ?_
            refine TE.then ?_
            refine TC.kp [2, 57] [] ?_
            refine TC.cond (fun hc => ?_) (fun hc => ?_)
            · replace H3 := cT H3 hc
              refine TC.seqS ?_
              refine TS.s OpY.assign rfl ?_
              refine TS.nil ?_
              refine TE.then ?_
              refine TC.kp [6] [] ?_
              refine TC.ret ?_
              refine TE.cut_ret ?_
              have R12 := elS_r (Option.some.inj H3) H
              refine TE.then_ret ?_
              obtain rfl := (Option.some.inj R12)
              exact TE.ret1 rfl Cv.le
            · replace H3 := cF H3 hc
              refine TC.skip ?_
              exact TE.cutP () () (Option.some.inj H3).symm (Env.cv (Env.le_nil _)) (Less.nil _)
          · replace H3 := cF H3 hc
            refine TC.skip ?_
            exact TE.cutP () () (Option.some.inj H3).symm (Env.cv (Env.le_nil _)) (Less.nil _)
        rintro ⟨⟩ ⟨⟩ hp
        replace H := elS_l hp H
        refine TE.then ?_
        refine TC.kp [2] [] ?_
        refine TC.seq ?_
        refine TC.seqS ?_
        refine TS.s OpY.assign rfl ?_
        refine TS.nil ?_
        refine TE.then ?_
        refine TC.kp [2, 10] [] ?_
        obtain ⟨o_14, H14, H⟩ := bnd H
        refine TC.cutP (fun s : Unit => o_14 = .inl s) (fun (_ : Unit) (_ : Unit) => (Env.set Env.nil 2 (D (l0 : (List (List UInt8)))))) (fun (_ : Unit) (_ : Unit) => []) ?_ ?_
        · skip
          refine TC.block ?_
          refine TC.loopP H14 (fun (i_15 : Int) (_ : Unit) => (Env.set (Env.set Env.nil 2 (D (l0 : (List (List UInt8))))) 10 (D (i_15 : Int)))) (fun (i_15 : Int) (_ : Unit) => []) () (Env.cv (Env.cv (Env.le_nil _))) (Less.nil _) ?_
          rintro i_15 ⟨⟩ x_16 H16 he16
          replace H16 : bywaylaw10_RootMost_l1 l0 i_15 = some x_16 := H16
          unfold bywaylaw10_RootMost_l1 at H16
          refine TC.seq ?_
          refine TC.seqS ?_
          refine TS.s OpY.move rfl ?_
          refine TS.s OpY.move rfl ?_
          refine TS.s OpD.len rfl ?_
          refine TS.s OpY.lss rfl ?_
          refine TS.nil ?_
          refine TE.then ?_
          refine TC.kp [2, 10, 61] [] ?_
          refine TC.cond (fun hc => ?_) (fun hc => ?_)
          · replace H16 := cT H16 hc
            refine TC.skip ?_
            refine TE.then ?_
            refine TC.kp [2, 10] [] ?_
            refine TC.seq ?_
            refine TC.block ?_
            refine TC.seqS ?_
            refine TS.s OpY.move rfl ?_
            refine TS.s OpY.move rfl ?_
            obtain ⟨x_17, ex_17, H16⟩ := bnd H16
            refine TS.s (OpD.index ex_17) rfl ?_
            refine TS.s OpY.load rfl ?_
            refine TS.s OpD.len rfl ?_
            refine TS.s OpY.gtr rfl ?_
            refine TS.nil ?_
            refine TE.then ?_
            refine TC.kp [2, 10, 69] [] ?_
            refine TC.cond (fun hc => ?_) (fun hc => ?_)
            · replace H16 := cT H16 hc
              refine TC.seqS ?_
              refine TS.s OpY.assign rfl ?_
              refine TS.nil ?_
              refine TE.then ?_
              refine TC.kp [6] [] ?_
              refine TC.ret ?_
              refine TE.inBlock_ret ?_
              refine TE.then_ret ?_
              refine TE.then_ret ?_
              refine TE.inBlock_ret ?_
              refine TE.cut_ret ?_
              have R17 := elS_r (he16 _ (Option.some.inj H16).symm) H
              refine TE.then_ret ?_
              obtain rfl := (Option.some.inj R17)
              exact TE.ret1 rfl Cv.le
            · replace H16 := cF H16 hc
              refine TC.skip ?_
              refine TE.inBlock_normal ?_
              refine TE.then ?_
              refine TC.kp [2, 10] [] ?_
              refine TC.regionS ?_
              refine TS.s OpY.move rfl ?_
              obtain ⟨x_19, ex_19, H16⟩ := bnd H16
              refine TS.s (OpD.add ex_19) rfl ?_
              refine TS.s OpY.assign rfl ?_
              refine TS.nil ?_
              refine TE.kp [2, 10] [] ?_
              exact TE.backP x_19 () (Option.some.inj H16).symm (Env.cv (Env.cv (Env.le_nil _))) (Less.nil _)
          · replace H16 := cF H16 hc
            refine TC.exit ?_
            refine TE.then_exit ?_
            refine TE.then_exit ?_
            refine TE.inBlock_here ?_
            exact TE.cutP () () (he16 _ (Option.some.inj H16).symm).symm (Env.cv (Env.le_nil _)) (Less.nil _)
        rintro ⟨⟩ ⟨⟩ hp
        replace H := elS_l hp H
        refine TE.then ?_
        refine TC.kp [2] [] ?_
        refine TC.seqS ?_
        refine TS.s OpY.move rfl ?_
        obtain ⟨r_20, er_20, H⟩ := bnd H
        refine TS.s (OpY.call1 fun w v0 hA h0 => root_Newest_c w v0 hA (toD h0) er_20) rfl ?_
        refine TS.s OpY.move rfl ?_
        refine TS.s (OpY.extract rfl) rfl ?_
        refine TS.s (OpY.extract rfl) rfl ?_
        refine TS.s (OpY.extract rfl) rfl ?_
        refine TS.alloc (α := Roots) rfl fun b12_20 => ?_
        refine TS.s OpY.assign rfl ?_
        refine TS.un (OpT.storeq (y := (r_20.2.1 : Roots)) Pl.one) ?_
        refine TS.s OpY.assign rfl ?_
        refine TS.nil ?_
        refine TE.then ?_
        refine TC.kp [2, 11, 12, 13] [b12_20] ?_
        refine TC.seq ?_
        refine TC.seqS ?_
        refine TS.s OpY.assign rfl ?_
        refine TS.nil ?_
        refine TE.then ?_
        refine TC.kp [2, 11, 12, 13, 14] [b12_20] ?_
        obtain ⟨o_22, H22, H⟩ := bnd H
        refine TC.cutP (fun s : Unit => o_22 = .inl s) (fun (_ : Unit) (_ : Unit) => (Env.set (Env.set (Env.set (Env.set Env.nil 2 (D (l0 : (List (List UInt8))))) 11 (D (r_20.1 : Int))) 12 (Pt b12_20 0)) 13 (D (r_20.2.2 : Int)))) (fun (_ : Unit) (_ : Unit) => [⟨b12_20, True, (One (r_20.2.1 : Roots))⟩]) ?_ ?_
        · skip
          refine TC.block ?_
          refine TC.loopP H22 (fun (i_23 : Int) (_ : Unit) => (Env.set (Env.set (Env.set (Env.set (Env.set Env.nil 2 (D (l0 : (List (List UInt8))))) 11 (D (r_20.1 : Int))) 12 (Pt b12_20 0)) 13 (D (r_20.2.2 : Int))) 14 (D (i_23 : Int)))) (fun (i_23 : Int) (_ : Unit) => [⟨b12_20, True, (One (r_20.2.1 : Roots))⟩]) () (Env.cv (Env.cv (Env.cv (Env.cv (Env.cv (Env.le_nil _)))))) (Less.pk rfl (Less.nil _)) ?_
          rintro i_23 ⟨⟩ x_24 H24 he24
          replace H24 : bywaylaw10_RootMost_l2 l0 r_20 i_23 = some x_24 := H24
          unfold bywaylaw10_RootMost_l2 at H24
          refine TC.seq ?_
          refine TC.seqS ?_
          refine TS.s OpY.move rfl ?_
          refine TS.s OpY.move rfl ?_
          refine TS.s OpD.len rfl ?_
          refine TS.s OpY.lss rfl ?_
          refine TS.nil ?_
          refine TE.then ?_
          refine TC.kp [2, 11, 12, 13, 14, 79] [b12_20] ?_
          refine TC.cond (fun hc => ?_) (fun hc => ?_)
          · replace H24 := cT H24 hc
            refine TC.skip ?_
            refine TE.then ?_
            refine TC.kp [2, 11, 12, 13, 14] [b12_20] ?_
            refine TC.seq ?_
            refine TC.block ?_
            refine TC.seqS ?_
            refine TS.s OpY.move rfl ?_
            refine TS.s OpY.move rfl ?_
            obtain ⟨x_25, ex_25, H24⟩ := bnd H24
            refine TS.s (OpD.index ex_25) rfl ?_
            refine TS.s OpY.load rfl ?_
            obtain ⟨r_26, er_26, H24⟩ := bnd H24
            refine TS.s (OpY.call1 fun w v0 hA h0 => root_Read_c w v0 hA (toD h0) er_26) rfl ?_
            refine TS.s OpY.move rfl ?_
            refine TS.s (OpY.extract rfl) rfl ?_
            refine TS.s (OpY.extract rfl) rfl ?_
            refine TS.alloc (α := Roots) rfl fun b15_26 => ?_
            refine TS.un (OpT.storeq (y := (r_26.1 : Roots)) Pl.one) ?_
            refine TS.s OpY.assign rfl ?_
            refine TS.nil ?_
            refine TE.then ?_
            refine TC.kp [2, 11, 12, 13, 14, 15, 16] [b12_20, b15_26] ?_
            refine TC.seqS ?_
            refine TS.s OpY.move rfl ?_
            refine TS.s OpY.eql rfl ?_
            refine TS.s OpY.move rfl ?_
            refine TS.g 92 rfl (fun hg => OpY.move) rfl ?_
            refine TS.g 92 rfl (fun hg => OpY.neq) rfl ?_
            refine TS.g 92 rfl (fun hg => OpY.move) rfl ?_
            refine TS.gg 95 rfl (fun hp hg => OpY.fieldAddr) rfl ?_
            refine TS.gg 95 rfl (fun hp hg => (OpD.ldq (Pl.fld (off := 0) (α := Roots) (β := UInt64) Pl.one))) rfl ?_
            refine TS.gg 95 rfl (fun hp hg => OpY.fieldAddr) rfl ?_
            refine TS.gg 95 rfl (fun hp hg => (OpD.ldq (Pl.fld (off := 0) (α := Roots) (β := UInt64) Pl.one))) rfl ?_
            refine TS.gg 95 rfl (fun hp hg => OpY.gtr64) rfl ?_
            refine TS.g 92 rfl (fun hg => OpY.pickOr) rfl ?_
            refine TS.g 92 rfl (fun hg => OpY.move) rfl ?_
            refine TS.gg 102 rfl (fun hp hg => OpY.move) rfl ?_
            refine TS.gg 102 rfl (fun hp hg => OpY.move) rfl ?_
            refine TS.gg 102 rfl (fun hp hg => OpY.gtr) rfl ?_
            refine TS.gg 102 rfl (fun hp hg => OpY.move) rfl ?_
            refine TS.gg 106 rfl (fun hp hg => haveI l0 := Ft.l hp; haveI r0 := Ft.r hp; OpY.fieldAddr) rfl ?_
            refine TS.gg 106 rfl (fun hp hg => haveI l0 := Ft.l hp; haveI r0 := Ft.r hp; (OpD.ldq (Pl.fld (off := 0) (α := Roots) (β := UInt64) Pl.one))) rfl ?_
            refine TS.gg 106 rfl (fun hp hg => haveI l0 := Ft.l hp; haveI r0 := Ft.r hp; OpY.fieldAddr) rfl ?_
            refine TS.gg 106 rfl (fun hp hg => haveI l0 := Ft.l hp; haveI r0 := Ft.r hp; (OpD.ldq (Pl.fld (off := 0) (α := Roots) (β := UInt64) Pl.one))) rfl ?_
            refine TS.gg 106 rfl (fun hp hg => haveI l0 := Ft.l hp; haveI r0 := Ft.r hp; OpY.eql64) rfl ?_
            refine TS.gg 102 rfl (fun hp hg => OpY.pickAnd) rfl ?_
            refine TS.g 92 rfl (fun hg => OpY.pickOr) rfl ?_
            refine TS.s OpY.pickAnd rfl ?_
            refine TS.nil ?_
            refine TE.then ?_
            refine TC.kp [2, 11, 12, 13, 14, 114] [b12_20] ?_
            refine TC.cond (fun hc => ?_) (fun hc => ?_)
            · replace H24 := cT H24 hc
              refine TC.seqS ?_
              refine TS.s OpY.assign rfl ?_
              refine TS.nil ?_
              refine TE.then ?_
              refine TC.kp [6] [] ?_
              refine TC.ret ?_
              refine TE.inBlock_ret ?_
              refine TE.then_ret ?_
              refine TE.then_ret ?_
              refine TE.inBlock_ret ?_
              refine TE.cut_ret ?_
              have R27 := elS_r (he24 _ (Option.some.inj H24).symm) H
              refine TE.then_ret ?_
              obtain rfl := (Option.some.inj R27)
              exact TE.ret1 rfl Cv.le
            · replace H24 := cF H24 hc
              refine TC.skip ?_
              refine TE.inBlock_normal ?_
              refine TE.then ?_
              refine TC.kp [2, 11, 12, 13, 14] [b12_20] ?_
              refine TC.regionS ?_
              refine TS.s OpY.move rfl ?_
              obtain ⟨x_29, ex_29, H24⟩ := bnd H24
              refine TS.s (OpD.add ex_29) rfl ?_
              refine TS.s OpY.assign rfl ?_
              refine TS.nil ?_
              refine TE.kp [2, 11, 12, 13, 14] [b12_20] ?_
              exact TE.backP x_29 () (Option.some.inj H24).symm (Env.cv (Env.cv (Env.cv (Env.cv (Env.cv (Env.le_nil _)))))) (Less.pk rfl (Less.nil _))
          · replace H24 := cF H24 hc
            refine TC.exit ?_
            refine TE.then_exit ?_
            refine TE.then_exit ?_
            refine TE.inBlock_here ?_
            exact TE.cutP () () (he24 _ (Option.some.inj H24).symm).symm (Env.cv (Env.cv (Env.cv (Env.cv (Env.le_nil _))))) (Less.pk rfl (Less.nil _))
        rintro ⟨⟩ ⟨⟩ hp
        replace H := elS_l hp H
        refine TE.then ?_
        refine TC.kp [2, 11, 12, 13] [b12_20] ?_
        refine TC.seq ?_
        refine TC.seqS ?_
        refine TS.s OpY.move rfl ?_
        refine TS.s OpY.neq rfl ?_
        refine TS.nil ?_
        refine TE.then ?_
        refine TC.kp [2, 11, 12, 116] [b12_20] ?_
        refine TC.cond (fun hc => ?_) (fun hc => ?_)
        · replace H := cT H hc
          refine TC.seqS ?_
          refine TS.s OpY.move rfl ?_
          refine TS.s OpY.eql rfl ?_
          refine TS.s OpY.move rfl ?_
          refine TS.g 119 rfl (fun hg => (OpD.ldq Pl.one)) rfl ?_
          refine TS.g 119 rfl (fun hg => (OpY.buildAs (⟨0, []⟩ : Roots) rfl ⟨_, Try.underlying80, by kernel_rfl⟩ rfl rfl)) rfl ?_
          obtain ⟨x_30, ex_30, H⟩ := bnd H
          refine TS.g 119 rfl (fun hg => (OpY.call2 fun w v0 v1 hA h0 h1 => bywayref10_Same_c w v0 v1 hA (toD h0) (toD h1) (gb_some ex_30 hg.h))) rfl ?_
          refine TS.s OpY.pickAnd rfl ?_
          refine TS.s OpY.assign rfl ?_
          refine TS.nil ?_
          refine TE.then ?_
          refine TC.kp [6] [] ?_
          refine TC.ret ?_
          refine TE.then_ret ?_
          obtain rfl := (Option.some.inj H)
          exact TE.ret1 rfl Cv.le
        · replace H := cF H hc
          refine TC.skip ?_
          refine TE.then ?_
          refine TC.kp [2, 11, 12] [b12_20] ?_
          refine TC.seqS ?_
          refine TS.s OpY.move rfl ?_
          refine TS.s OpY.move rfl ?_
          obtain ⟨x_31, ex_31, H⟩ := bnd H
          refine TS.s (OpD.index ex_31) rfl ?_
          refine TS.s OpY.load rfl ?_
          obtain ⟨r_32, er_32, H⟩ := bnd H
          refine TS.s (OpY.call1 fun w v0 hA h0 => root_Read_c w v0 hA (toD h0) er_32) rfl ?_
          refine TS.s OpY.move rfl ?_
          refine TS.s (OpY.extract rfl) rfl ?_
          refine TS.s (OpY.extract rfl) rfl ?_
          refine TS.alloc (α := Roots) rfl fun b17_32 => ?_
          refine TS.un (OpT.storeq (y := (r_32.1 : Roots)) Pl.one) ?_
          refine TS.s OpY.assign rfl ?_
          refine TS.nil ?_
          refine TE.then ?_
          refine TC.kp [12, 17, 18] [b12_20, b17_32] ?_
          refine TC.seqS ?_
          refine TS.s OpY.move rfl ?_
          refine TS.s OpY.eql rfl ?_
          refine TS.s OpY.move rfl ?_
          refine TS.g 134 rfl (fun hg => (OpD.ldq Pl.one)) rfl ?_
          refine TS.g 134 rfl (fun hg => (OpD.ldq Pl.one)) rfl ?_
          obtain ⟨x_34, ex_34, H⟩ := bnd H
          refine TS.g 134 rfl (fun hg => (OpY.call2 fun w v0 v1 hA h0 h1 => bywayref10_Same_c w v0 v1 hA (toD h0) (toD h1) (gb_some ex_34 hg.h))) rfl ?_
          refine TS.s OpY.pickAnd rfl ?_
          refine TS.s OpY.assign rfl ?_
          refine TS.nil ?_
          refine TE.then ?_
          refine TC.kp [6] [] ?_
          refine TC.ret ?_
          obtain rfl := (Option.some.inj H)
          exact TE.ret1 rfl Cv.le
end Go.Proofs.Ytfdmajkeihdhnaa.Tr
