/- What the proof leans on. Conditions: none. -/
import Derived.Test.YtefmfhbkihplgaaZR4
set_option linter.all false
set_option linter.unusedSimpArgs false
set_option linter.unusedVariables false
set_option linter.unusedSectionVars false
namespace Go.Proofs.Ytefmfhbkihplgaa.Tr
open Go Go.RowKit
set_option maxRecDepth 100000
set_option synthInstance.maxHeartbeats 400000
set_option synthInstance.maxSize 4096
def page_fits (size0 : Int) : Option Bool :=
  some ((decide (size0 ≥ (24 : Int))) && (decide (size0 ≤ (256 : Int))))
theorem page_fits_c {A : Nat → Prop} {size0 : Int}  {r : Bool} (w : World) (v0 : Value) (hA : ∀ k, w.heap.size ≤ k → A k)  (h0 : (D (size0 : Int)).p A w v0) (H : page_fits size0 = some r) :
    Calls Try.prog 75 #[v0] w (Ret A w (D (r : Bool))) := by
  unfold page_fits at H
  refine enter1 hA Try.func75 rfl Try.ntmps75 rfl h0 ?_; refine TC.seqS ?_; refine TS.s OpY.assign rfl ?_; refine TS.nil ?_; refine TE.then ?_; refine TC.kp [0] [] ?_; refine TC.seqS ?_; refine TS.s OpY.move rfl ?_; refine TS.s OpY.geq rfl ?_; refine TS.s OpY.move rfl ?_; refine TS.g 5 rfl (fun hg => OpY.move) rfl ?_; refine TS.g 5 rfl (fun hg => OpY.leq) rfl ?_; refine TS.s OpY.pickAnd rfl ?_; refine TS.s OpY.assign rfl ?_; refine TS.nil ?_; refine TE.then ?_; refine TC.kp [2] [] ?_; refine TC.ret ?_
  obtain rfl := (Option.some.inj H)
  exact TE.ret1 rfl Cv.le
def page_Room (size0 : Int) : Option Int :=
  (page_fits size0).bind fun x_1 => bif (!x_1) then (some (0 : Int)) else ((subI size0 (16 : Int)).bind fun x_2 => some x_2)
theorem page_Room_c {A : Nat → Prop} {size0 : Int}  {r : Int} (w : World) (v0 : Value) (hA : ∀ k, w.heap.size ≤ k → A k)  (h0 : (D (size0 : Int)).p A w v0) (H : page_Room size0 = some r) :
    Calls Try.prog 33 #[v0] w (Ret A w (D (r : Int))) := by
  unfold page_Room at H
  refine enter1 hA Try.func33 rfl Try.ntmps33 rfl h0 ?_; refine TC.seqS ?_; refine TS.s OpY.assign rfl ?_; refine TS.nil ?_; refine TE.then ?_; refine TC.kp [0] [] ?_; refine TC.seq ?_; refine TC.seqS ?_; refine TS.s OpY.move rfl ?_
  obtain ⟨x_1, ex_1, H⟩ := bnd H
  refine TS.s (OpY.call1 fun w v0 hA h0 => page_fits_c w v0 hA (toD h0) ex_1) rfl ?_; refine TS.s OpY.notB rfl ?_; refine TS.nil ?_; refine TE.then ?_; refine TC.kp [0, 5] [] ?_; refine TC.cond (fun hc => ?_) (fun hc => ?_)
  · replace H := cT H hc
    refine TC.seqS ?_; refine TS.s OpY.assign rfl ?_; refine TS.nil ?_; refine TE.then ?_; refine TC.kp [2] [] ?_; refine TC.ret ?_; refine TE.then_ret ?_
    obtain rfl := (Option.some.inj H)
    exact TE.ret1 rfl Cv.le
  · replace H := cF H hc
    refine TC.skip ?_; refine TE.then ?_; refine TC.kp [0] [] ?_; refine TC.seqS ?_; refine TS.s OpY.move rfl ?_
    obtain ⟨x_2, ex_2, H⟩ := bnd H
    refine TS.s (OpD.sub ex_2) rfl ?_; refine TS.s OpY.assign rfl ?_; refine TS.nil ?_; refine TE.then ?_; refine TC.kp [2] [] ?_; refine TC.ret ?_
    obtain rfl := (Option.some.inj H)
    exact TE.ret1 rfl Cv.le
def page_May (p0 : Page) (size0 : Int) : Option Bool :=
  (page_fits size0).bind fun x_2 => (gb ((((x_2 && ((decide (p0.Kind = (1 : Int))) || (decide (p0.Kind = (2 : Int))))) && (decide (p0.Id ≥ (0 : Int)))) && (decide (p0.Id < (64 : Int)))) && (decide (p0.Gen < (UInt64.ofNat 281474976710656)))) (page_Room size0)).bind fun x_3 => some (((((x_2 && ((decide (p0.Kind = (1 : Int))) || (decide (p0.Kind = (2 : Int))))) && (decide (p0.Id ≥ (0 : Int)))) && (decide (p0.Id < (64 : Int)))) && (decide (p0.Gen < (UInt64.ofNat 281474976710656)))) && (decide ((p0.Body.length : Int) ≤ x_3)))
theorem page_May_c {A : Nat → Prop} {p0 : Page} {size0 : Int}  {r : Bool} (w : World) (v0 v1 : Value) (hA : ∀ k, w.heap.size ≤ k → A k)  (h0 : (D (p0 : Page)).p A w v0) (h1 : (D (size0 : Int)).p A w v1) (H : page_May p0 size0 = some r) :
    Calls Try.prog 31 #[v0, v1] w (Ret A w (D (r : Bool))) := by
  unfold page_May at H
  refine enter2 hA Try.func31 rfl Try.ntmps31 rfl h0 h1 ?_; refine TC.seqS ?_; refine TS.box rfl fun b2_0 => ?_; refine TS.s OpY.assign rfl ?_; refine TS.nil ?_; refine TE.then ?_; refine TC.kp [1, 2] [b2_0] ?_; refine TC.seqD0 mix (by kernel_rfl) ?_; refine TR.s OpY.move rfl ?_
  obtain ⟨x_2, ex_2, H⟩ := bnd H
  refine TR.s (OpY.call1 fun w v0 hA h0 => page_fits_c w v0 hA (toD h0) ex_2) rfl ?_; refine TR.s OpY.move rfl ?_; refine TR.g 7 rfl (fun hg => OpY.fieldAddr) rfl ?_; refine TR.g 7 rfl (fun hg => (OpD.ldq (Pl.fld (off := 0) (α := Page) (β := Int) Pl.one))) rfl ?_; refine TR.g 7 rfl (fun hg => OpY.eql) rfl ?_; refine TR.g 7 rfl (fun hg => OpY.move) rfl ?_; refine TR.gg 11 rfl (fun hp hg => OpY.fieldAddr) rfl ?_; refine TR.gg 11 rfl (fun hp hg => (OpD.ldq (Pl.fld (off := 0) (α := Page) (β := Int) Pl.one))) rfl ?_; refine TR.gg 11 rfl (fun hp hg => OpY.eql) rfl ?_; refine TR.g 7 rfl (fun hg => OpY.pickOr) rfl ?_; refine TR.s OpY.pickAnd rfl ?_; refine TR.s OpY.move rfl ?_; refine TR.g 17 rfl (fun hg => OpY.fieldAddr) rfl ?_; refine TR.g 17 rfl (fun hg => (OpD.ldq (Pl.fld (off := 1) (α := Page) (β := Int) Pl.one))) rfl ?_; refine TR.g 17 rfl (fun hg => OpY.geq) rfl ?_; refine TR.s OpY.pickAnd rfl ?_; refine TR.s OpY.move rfl ?_; refine TR.g 22 rfl (fun hg => OpY.fieldAddr) rfl ?_; refine TR.g 22 rfl (fun hg => (OpD.ldq (Pl.fld (off := 1) (α := Page) (β := Int) Pl.one))) rfl ?_; refine TR.g 22 rfl (fun hg => OpY.lss) rfl ?_; refine TR.s OpY.pickAnd rfl ?_; refine TR.s OpY.move rfl ?_; refine TR.g 27 rfl (fun hg => OpY.fieldAddr) rfl ?_; refine TR.g 27 rfl (fun hg => (OpD.ldq (Pl.fld (off := 2) (α := Page) (β := UInt64) Pl.one))) rfl ?_; refine TR.g 27 rfl (fun hg => OpY.lss64) rfl ?_; refine TR.s OpY.pickAnd rfl ?_; refine TR.s OpY.move rfl ?_; refine TR.g 32 rfl (fun hg => OpY.fieldAddr) rfl ?_; refine TR.g 32 rfl (fun hg => (OpD.ldq (Pl.fld (off := 3) (α := Page) (β := (List UInt8)) Pl.one))) rfl ?_; refine TR.g 32 rfl (fun hg => OpD.len) rfl ?_; refine TR.g 32 rfl (fun hg => OpY.move) rfl ?_
  obtain ⟨x_3, ex_3, H⟩ := bnd H
  refine TR.g 32 rfl (fun hg => (OpY.call1 fun w v0 hA h0 => page_Room_c w v0 hA (toD h0) (gb_some ex_3 hg.h))) rfl ?_; refine TR.g 32 rfl (fun hg => OpY.leq) rfl ?_; refine TR.s OpY.pickAnd rfl ?_; refine TR.s OpY.assign rfl ?_; refine TR.nil ?_; refine TC.kp [4] [] ?_; refine TC.ret ?_
  obtain rfl := (Option.some.inj H)
  exact TE.ret1 rfl Cv.le
def sum_Put_l1 (n0 : UInt64) (many0 : Int) (l_3 : (List UInt8)) (x_6 : Int) (b_7 : (List UInt8)) : Option ((Int × (List UInt8)) ⊕ (List UInt8)) :=
  bif (decide (x_6 < (l_3.length : Int))) then ((subI many0 (1 : Int)).bind fun x_9 => (subI x_9 x_6).bind fun x_10 => (mulI (8 : Int) x_6).bind fun x_11 => (cnt x_11).bind fun n_12 => (idx b_7 x_10).bind fun x_13 => (some ((b_7.set (Int.toNat x_10) ((shr64 n0 x_11).toUInt8)) : (List UInt8))).bind fun l_14 => (addI x_6 (1 : Int)).bind fun x_15 => some (.inl (x_15, l_14))) else (some (.inr b_7))
def sum_Put (n0 : UInt64) (many0 : Int) : Option (List UInt8) :=
  bif ((decide (many0 < (1 : Int))) || (decide (many0 > (8 : Int)))) then (some ([] : List UInt8)) else ((room 1 many0).bind fun u_1 => (some ((List.replicate (Int.toNat many0) (Dat.z : UInt8)) : (List UInt8))).bind fun l_3 => (loopO (fun s => sum_Put_l1 n0 many0 l_3 s.1 s.2) ((0 : Int), l_3)).bind fun b_4 => some b_4)
theorem sum_Put_c {A : Nat → Prop} {n0 : UInt64} {many0 : Int}  {r : (List UInt8)} (w : World) (v0 v1 : Value) (hA : ∀ k, w.heap.size ≤ k → A k)  (h0 : (D (n0 : UInt64)).p A w v0) (h1 : (D (many0 : Int)).p A w v1) (H : sum_Put n0 many0 = some r) :
    Calls Try.prog 70 #[v0, v1] w (Ret A w (D (r : (List UInt8)))) := by
  unfold sum_Put at H
  refine enter2 hA Try.func70 rfl Try.ntmps70 rfl h0 h1 ?_; refine TC.seqS ?_; refine TS.s OpY.assign rfl ?_; refine TS.nil ?_; refine TE.then ?_; refine TC.kp [0, 1] [] ?_; refine TC.seq ?_; refine TC.seqS ?_; refine TS.s OpY.move rfl ?_; refine TS.s OpY.lss rfl ?_; refine TS.s OpY.move rfl ?_; refine TS.g 9 rfl (fun hg => OpY.move) rfl ?_; refine TS.g 9 rfl (fun hg => OpY.gtr) rfl ?_; refine TS.s OpY.pickOr rfl ?_; refine TS.nil ?_; refine TE.then ?_; refine TC.kp [0, 1, 12] [] ?_; refine TC.cond (fun hc => ?_) (fun hc => ?_)
  · replace H := cT H hc
    refine TC.seqS ?_; refine TS.s OpY.assign rfl ?_; refine TS.nil ?_; refine TE.then ?_; refine TC.kp [4] [] ?_; refine TC.ret ?_; refine TE.then_ret ?_
    obtain rfl := (Option.some.inj H)
    exact TE.ret1 rfl Cv.le
  · replace H := cF H hc
    refine TC.skip ?_; refine TE.then ?_; refine TC.kp [0, 1] [] ?_; refine TC.seqS ?_; refine TS.s OpY.move rfl ?_
    obtain ⟨u_1, eu_1, H⟩ := bnd H
    refine TS.make eu_1 ⟨(room_some eu_1).1, Int.le_refl _⟩ rfl fun b14_1 => ?_; refine TS.s OpY.assign rfl ?_; refine TS.nil ?_; refine TE.then ?_; refine TC.kp [0, 1, 5] [b14_1] ?_
    obtain ⟨l_3, el_3, H⟩ := bnd H
    refine TC.nmB b14_1 (nm_row el_3) ?_; refine TC.see 5 _ (nm_sl2 el_3 (by simp)) ?_; refine TC.seq ?_; refine TC.seqS ?_; refine TS.s OpY.move rfl ?_; refine TS.s (OpD.lenSv (n := l_3.length) rfl) rfl ?_; refine TS.s OpY.move rfl ?_; refine TS.nil ?_; refine TE.then ?_; refine TC.kp [0, 1, 5, 16, 17] [b14_1] ?_
    obtain ⟨o_5, H5, H⟩ := bnd H
    refine TC.cutP (fun s : (List UInt8) => o_5 = s) (fun (b_4 : (List UInt8)) (_ : Unit) => (Env.set Env.nil 5 (Sl b14_1 True 0 b_4.length (Int.toNat many0)))) (fun (b_4 : (List UInt8)) (_ : Unit) => [⟨b14_1, True, (Row (b_4 : List UInt8) (Int.toNat many0))⟩]) ?_ ?_
    · skip
      refine TC.block ?_; refine TC.loopP H5 (fun ⟨x_6, b_7⟩ (_ : Unit) => (Env.set (Env.set (Env.set (Env.set (Env.set Env.nil 0 (D (n0 : UInt64))) 1 (D (many0 : Int))) 5 (Sl b14_1 True 0 b_7.length (Int.toNat many0))) 16 (D ((l_3.length : Int) : Int))) 17 (D (x_6 : Int)))) (fun ⟨x_6, b_7⟩ (_ : Unit) => [⟨b14_1, True, (Row (b_7 : List UInt8) (Int.toNat many0))⟩]) () (Env.cv (Env.cv (Env.cvBy (Sl_le rfl) (Env.cv (Env.cv (Env.le_nil _)))))) (Less.pk rfl (Less.nil _)) ?_
      rintro ⟨x_6, b_7⟩ ⟨⟩ x_8 H8 he8
      replace H8 : sum_Put_l1 n0 many0 l_3 x_6 b_7 = some x_8 := H8
      unfold sum_Put_l1 at H8
      refine TC.seqS ?_; refine TS.s OpY.lss rfl ?_; refine TS.nil ?_; refine TE.then ?_; refine TC.kp [0, 1, 5, 16, 17, 18] [b14_1] ?_; refine TC.seq ?_; refine TC.cond (fun hc => ?_) (fun hc => ?_)
      · replace H8 := cT H8 hc
        refine TC.skip ?_; refine TE.then ?_; refine TC.kp [0, 1, 5, 16, 17] [b14_1] ?_; refine TC.seq ?_; refine TC.block ?_; refine TC.seqS ?_; refine TS.s OpY.move rfl ?_; refine TS.s OpY.assign rfl ?_; refine TS.nil ?_; refine TE.then ?_; refine TC.kp [0, 1, 5, 6, 16, 17] [b14_1] ?_; refine TC.regionS ?_; refine TS.s OpY.move rfl ?_; refine TS.s OpY.move rfl ?_
        obtain ⟨x_9, ex_9, H8⟩ := bnd H8
        refine TS.s (OpD.sub ex_9) rfl ?_; refine TS.s OpY.move rfl ?_
        obtain ⟨x_10, ex_10, H8⟩ := bnd H8
        refine TS.s (OpD.sub ex_10) rfl ?_; refine TS.s OpY.move rfl ?_; refine TS.s OpY.move rfl ?_
        obtain ⟨x_11, ex_11, H8⟩ := bnd H8
        refine TS.s (OpD.mul ex_11) rfl ?_
        obtain ⟨n_12, en_12, H8⟩ := bnd H8
        refine TS.s (OpD.shr64 (cnt_some en_12).1) rfl ?_; refine TS.s OpY.conv64_8 rfl ?_
        obtain ⟨x_13, ex_13, H8⟩ := bnd H8
        refine TS.s (OpD.indexq (idx_in ex_13 rfl)) rfl ?_; refine TS.un (OpT.storeq (y := (((shr64 n0 x_11).toUInt8) : UInt8)) (Pl.rowz ex_13)) ?_; refine TS.nil ?_; refine TE.kp [0, 1, 5, 16, 17] [b14_1] ?_
        obtain ⟨l_14, el_14, H8⟩ := bnd H8
        refine TE.nmB b14_1 (nm_row el_14) ?_; refine TE.see 5 _ (nm_sl2 el_14 (by simp)) ?_; refine TE.inBlock_normal ?_; refine TE.then ?_; refine TC.kp [0, 1, 5, 16, 17] [b14_1] ?_; refine TC.regionS ?_
        obtain ⟨x_15, ex_15, H8⟩ := bnd H8
        refine TS.s (OpD.add ex_15) rfl ?_; refine TS.s OpY.move rfl ?_; refine TS.nil ?_; refine TE.kp [0, 1, 5, 16, 17] [b14_1] ?_; exact TE.backP ⟨x_15, l_14⟩ () (Option.some.inj H8).symm (Env.cv (Env.cv (Env.cvBy (Sl_le rfl) (Env.cv (Env.cv (Env.le_nil _)))))) (Less.pk rfl (Less.nil _))
      · replace H8 := cF H8 hc
        refine TC.exit ?_; refine TE.then_exit ?_; refine TE.then_exit ?_; refine TE.inBlock_here ?_; exact TE.cutP b_7 () (he8 _ (Option.some.inj H8).symm).symm (Env.cvBy (Sl_le rfl) (Env.le_nil _)) (Less.pk rfl (Less.nil _))
    rintro b_4 ⟨⟩ hp
    replace hp := hp.symm
    subst hp
    refine TE.then ?_; refine TC.kp [5] [b14_1] ?_; refine TC.seqS ?_; refine TS.s OpY.move rfl ?_; refine TS.s OpY.assign rfl ?_; refine TS.nil ?_; refine TE.then ?_; refine TC.kp [4] [b14_1] ?_; refine TC.ret ?_; refine TE.pub b14_1 (PubE.set 4 (PubC.sv PlS.all rfl) PubE.refl) ?_
    obtain rfl := (Option.some.inj H)
    exact TE.ret1 rfl Cv.le
def sum_On_l2 (n_9 : UInt32) (x_10 : Int) : Option ((UInt32 × Int) ⊕ UInt32) :=
  bif (decide (x_10 < (8 : Int))) then ((some ((n_9 &&& (UInt32.ofNat 1)) : UInt32)).bind fun odd_12 => (some ((shr32 n_9 ((UInt64.ofNat 1).toNat : Int)) : UInt32)).bind fun n_13 => (some ((n_13 ^^^ ((UInt32.ofNat 3988292384) * odd_12)) : UInt32)).bind fun n_14 => (addI x_10 (1 : Int)).bind fun x_15 => some (.inl (n_14, x_15))) else (some (.inr n_9))
def sum_On_l1 (b0 : (List UInt8)) (n_3 : UInt32) (x_4 : Int) : Option ((UInt32 × Int) ⊕ UInt32) :=
  bif (decide (x_4 < (b0.length : Int))) then ((idx b0 x_4).bind fun x_6 => (loopO (fun s => sum_On_l2 s.1 s.2) ((n_3 ^^^ (x_6.toUInt32)), (0 : Int))).bind fun n_7 => (addI x_4 (1 : Int)).bind fun x_16 => some (.inl (n_7, x_16))) else (some (.inr n_3))
def sum_On (sum0 : UInt32) (b0 : (List UInt8)) : Option UInt32 :=
  (loopO (fun s => sum_On_l1 b0 s.1 s.2) ((~~~sum0), (0 : Int))).bind fun n_1 => some (~~~n_1)
theorem sum_On_c {A : Nat → Prop} {sum0 : UInt32} {b0 : (List UInt8)}  {r : UInt32} (w : World) (v0 v1 : Value) (hA : ∀ k, w.heap.size ≤ k → A k)  (h0 : (D (sum0 : UInt32)).p A w v0) (h1 : (D (b0 : (List UInt8))).p A w v1) (H : sum_On sum0 b0 = some r) :
    Calls Try.prog 95 #[v0, v1] w (Ret A w (D (r : UInt32))) := by
  unfold sum_On at H
  refine enter2 hA Try.func95 rfl Try.ntmps95 rfl h0 h1 ?_; refine TC.seqS ?_; refine TS.s OpY.assign rfl ?_; refine TS.nil ?_; refine TE.then ?_; refine TC.kp [0, 1] [] ?_; refine TC.seqS ?_; refine TS.s OpY.move rfl ?_; refine TS.s OpY.not32 rfl ?_; refine TS.s OpY.assign rfl ?_; refine TS.nil ?_; refine TE.then ?_; refine TC.kp [1, 5] [] ?_; refine TC.seq ?_; refine TC.seqS ?_; refine TS.s OpY.move rfl ?_; refine TS.s OpD.len rfl ?_; refine TS.s OpY.move rfl ?_; refine TS.nil ?_; refine TE.then ?_; refine TC.kp [5, 11, 12, 13] [] ?_
  obtain ⟨o_2, H2, H⟩ := bnd H
  refine TC.cutP (fun s : UInt32 => o_2 = s) (fun (n_1 : UInt32) (_ : Unit) => (Env.set Env.nil 5 (D (n_1 : UInt32)))) (fun (n_1 : UInt32) (_ : Unit) => []) ?_ ?_
  · skip
    refine TC.block ?_; refine TC.loopP H2 (fun ⟨n_3, x_4⟩ (_ : Unit) => (Env.set (Env.set (Env.set (Env.set Env.nil 5 (D (n_3 : UInt32))) 11 (D (b0 : (List UInt8)))) 12 (D ((b0.length : Int) : Int))) 13 (D (x_4 : Int)))) (fun ⟨n_3, x_4⟩ (_ : Unit) => []) () (Env.cv (Env.cv (Env.cv (Env.cv (Env.le_nil _))))) (Less.nil _) ?_
    rintro ⟨n_3, x_4⟩ ⟨⟩ x_5 H5 he5
    replace H5 : sum_On_l1 b0 n_3 x_4 = some x_5 := H5
    unfold sum_On_l1 at H5
    refine TC.seqS ?_; refine TS.s OpY.lss rfl ?_; refine TS.nil ?_; refine TE.then ?_; refine TC.kp [5, 11, 12, 13, 14] [] ?_; refine TC.seq ?_; refine TC.cond (fun hc => ?_) (fun hc => ?_)
    · replace H5 := cT H5 hc
      refine TC.skip ?_; refine TE.then ?_; refine TC.kp [5, 11, 12, 13] [] ?_; refine TC.seq ?_; refine TC.block ?_; refine TC.seqS ?_
      obtain ⟨x_6, ex_6, H5⟩ := bnd H5
      refine TS.s (OpD.index ex_6) rfl ?_; refine TS.s OpY.load rfl ?_; refine TS.s OpY.assign rfl ?_; refine TS.nil ?_; refine TE.then ?_; refine TC.kp [5, 7, 11, 12, 13] [] ?_; refine TC.seqS ?_; refine TS.s OpY.move rfl ?_; refine TS.s OpY.move rfl ?_; refine TS.s OpY.conv8_32 rfl ?_; refine TS.s OpY.xor32 rfl ?_; refine TS.s OpY.assign rfl ?_; refine TS.nil ?_; refine TE.then ?_; refine TC.kp [5, 11, 12, 13] [] ?_; refine TC.seqS ?_; refine TS.s OpY.move rfl ?_; refine TS.nil ?_; refine TE.then ?_; refine TC.kp [5, 11, 12, 13, 21] [] ?_
      obtain ⟨o_8, H8, H5⟩ := bnd H5
      refine TC.cutP (fun s : UInt32 => o_8 = s) (fun (n_7 : UInt32) (_ : Unit) => (Env.set (Env.set (Env.set (Env.set Env.nil 5 (D (n_7 : UInt32))) 11 (D (b0 : (List UInt8)))) 12 (D ((b0.length : Int) : Int))) 13 (D (x_4 : Int)))) (fun (n_7 : UInt32) (_ : Unit) => []) ?_ ?_
      · skip
        refine TC.block ?_; refine TC.loopP H8 (fun ⟨n_9, x_10⟩ (_ : Unit) => (Env.set (Env.set (Env.set (Env.set (Env.set Env.nil 5 (D (n_9 : UInt32))) 11 (D (b0 : (List UInt8)))) 12 (D ((b0.length : Int) : Int))) 13 (D (x_4 : Int))) 21 (D (x_10 : Int)))) (fun ⟨n_9, x_10⟩ (_ : Unit) => []) () (Env.cv (Env.cv (Env.cv (Env.cv (Env.cv (Env.le_nil _)))))) (Less.nil _) ?_
        rintro ⟨n_9, x_10⟩ ⟨⟩ x_11 H11 he11
        replace H11 : sum_On_l2 n_9 x_10 = some x_11 := H11
        unfold sum_On_l2 at H11
        refine TC.seqS ?_; refine TS.s OpY.lss rfl ?_; refine TS.nil ?_; refine TE.then ?_; refine TC.kp [5, 11, 12, 13, 21, 22] [] ?_; refine TC.seq ?_; refine TC.cond (fun hc => ?_) (fun hc => ?_)
        · replace H11 := cT H11 hc
          refine TC.skip ?_; refine TE.then ?_; refine TC.kp [5, 11, 12, 13, 21] [] ?_; refine TC.seq ?_; refine TC.block ?_; refine TC.seqS ?_; refine TS.s OpY.move rfl ?_; refine TS.s OpY.and32 rfl ?_; refine TS.s OpY.assign rfl ?_; refine TS.nil ?_; refine TE.then ?_; refine TC.kp [5, 8, 11, 12, 13, 21] [] ?_
          obtain ⟨odd_12, eodd_12, H11⟩ := bnd H11
          refine TC.see 8 (D (odd_12 : UInt32)) (nm_cv eodd_12) ?_; refine TC.seqS ?_; refine TS.s OpY.move rfl ?_; refine TS.s (OpD.shr32 (Int.natCast_nonneg _)) rfl ?_; refine TS.s OpY.assign rfl ?_; refine TS.nil ?_; refine TE.then ?_; refine TC.kp [5, 8, 11, 12, 13, 21] [] ?_
          obtain ⟨n_13, en_13, H11⟩ := bnd H11
          refine TC.see 5 (D (n_13 : UInt32)) (nm_cv en_13) ?_; refine TC.regionS ?_; refine TS.s OpY.move rfl ?_; refine TS.s OpY.move rfl ?_; refine TS.s OpY.mul32 rfl ?_; refine TS.s OpY.xor32 rfl ?_; refine TS.s OpY.assign rfl ?_; refine TS.nil ?_; refine TE.kp [5, 11, 12, 13, 21] [] ?_
          obtain ⟨n_14, en_14, H11⟩ := bnd H11
          refine TE.see 5 (D (n_14 : UInt32)) (nm_cv en_14) ?_; refine TE.inBlock_normal ?_; refine TE.then ?_; refine TC.kp [5, 11, 12, 13, 21] [] ?_; refine TC.regionS ?_
          obtain ⟨x_15, ex_15, H11⟩ := bnd H11
          refine TS.s (OpD.add ex_15) rfl ?_; refine TS.s OpY.move rfl ?_; refine TS.nil ?_; refine TE.kp [5, 11, 12, 13, 21] [] ?_; exact TE.backP ⟨n_14, x_15⟩ () (Option.some.inj H11).symm (Env.cv (Env.cv (Env.cv (Env.cv (Env.cv (Env.le_nil _)))))) (Less.nil _)
        · replace H11 := cF H11 hc
          refine TC.exit ?_; refine TE.then_exit ?_; refine TE.then_exit ?_; refine TE.inBlock_here ?_; exact TE.cutP n_9 () (he11 _ (Option.some.inj H11).symm).symm (Env.cv (Env.cv (Env.cv (Env.cv (Env.le_nil _))))) (Less.nil _)
      rintro n_7 ⟨⟩ hp
      replace hp := hp.symm
      subst hp
      refine TE.inBlock_normal ?_; refine TE.then ?_; refine TC.kp [5, 11, 12, 13] [] ?_; refine TC.regionS ?_
      obtain ⟨x_16, ex_16, H5⟩ := bnd H5
      refine TS.s (OpD.add ex_16) rfl ?_; refine TS.s OpY.move rfl ?_; refine TS.nil ?_; refine TE.kp [5, 11, 12, 13] [] ?_; exact TE.backP ⟨n_7, x_16⟩ () (Option.some.inj H5).symm (Env.cv (Env.cv (Env.cv (Env.cv (Env.le_nil _))))) (Less.nil _)
    · replace H5 := cF H5 hc
      refine TC.exit ?_; refine TE.then_exit ?_; refine TE.then_exit ?_; refine TE.inBlock_here ?_; exact TE.cutP n_3 () (he5 _ (Option.some.inj H5).symm).symm (Env.cv (Env.le_nil _)) (Less.nil _)
  rintro n_1 ⟨⟩ hp
  replace hp := hp.symm
  subst hp
  refine TE.then ?_; refine TC.kp [5] [] ?_; refine TC.seqS ?_; refine TS.s OpY.move rfl ?_; refine TS.s OpY.not32 rfl ?_; refine TS.s OpY.assign rfl ?_; refine TS.nil ?_; refine TE.then ?_; refine TC.kp [4] [] ?_; refine TC.ret ?_
  obtain rfl := (Option.some.inj H)
  exact TE.ret1 rfl Cv.le
def sum_Of (b0 : (List UInt8)) : Option UInt32 :=
  (sum_On (UInt32.ofNat 0) b0).bind fun x_1 => some x_1
theorem sum_Of_c {A : Nat → Prop} {b0 : (List UInt8)}  {r : UInt32} (w : World) (v0 : Value) (hA : ∀ k, w.heap.size ≤ k → A k)  (h0 : (D (b0 : (List UInt8))).p A w v0) (H : sum_Of b0 = some r) :
    Calls Try.prog 72 #[v0] w (Ret A w (D (r : UInt32))) := by
  unfold sum_Of at H
  refine enter1 hA Try.func72 rfl Try.ntmps72 rfl h0 ?_; refine TC.seqS ?_; refine TS.s OpY.assign rfl ?_; refine TS.nil ?_; refine TE.then ?_; refine TC.kp [0] [] ?_; refine TC.seqS ?_; refine TS.s OpY.move rfl ?_
  obtain ⟨x_1, ex_1, H⟩ := bnd H
  refine TS.s (OpY.call2 fun w v0 v1 hA h0 h1 => sum_On_c w v0 v1 hA (toD h0) (toD h1) ex_1) rfl ?_; refine TS.s OpY.assign rfl ?_; refine TS.nil ?_; refine TE.then ?_; refine TC.kp [2] [] ?_; refine TC.ret ?_
  obtain rfl := (Option.some.inj H)
  exact TE.ret1 rfl Cv.le
def slices_Grow_byte (s0 : (List UInt8)) (n0 : Int) : Option (List UInt8) :=
  bif (decide (n0 < (0 : Int))) then (none) else (((subI (0 : Int) (0 : Int)).bind fun x_4 => (subI n0 x_4).bind fun x_5 => bif (decide (x_5 > (0 : Int))) then ((room 1 x_5).bind fun u_6 => (posI x_5).bind fun u_7 => (cut (List.replicate (Int.toNat x_5) (Dat.z : UInt8)).length 0 (0 : Int)).bind fun u_9 => (some (((List.replicate (Int.toNat x_5) (Dat.z : UInt8)).take (Int.toNat (0 : Int))) : (List UInt8))).bind fun l_10 => some l_10) else (some [])).bind fun s_2 => some s_2)
theorem slices_Grow_byte_o {A : Nat → Prop} {s0 : (List UInt8)} {n0 : Int}  {r : (List UInt8)} (w : World) (v0 v1 : Value) (hA : ∀ k, w.heap.size ≤ k → A k) (hO : OwnIn A []) (hap : Apart []) (hks : Pks (Pub A []) [] w) (h0 : (NilS).p (Pub A []) w v0) (h1 : (D (n0 : Int)).p (Pub A []) w v1) (H : slices_Grow_byte s0 n0 = some r) :
    Calls Try.prog 94 #[v0, v1] w (RetO A w [] (fun g : Nat × Prop × Nat => Sl g.1 g.2.1 0 (List.length r) g.2.2) fun g => [⟨g.1, g.2.1, Row (r : List UInt8) g.2.2⟩]) := by
  unfold slices_Grow_byte at H
  refine enterO2 hA hap hks Try.func94 rfl Try.ntmps94 rfl h0 h1 ?_; refine TC.seqS ?_; refine TS.s OpY.assign rfl ?_; refine TS.nil ?_; refine TE.then ?_; refine TC.kp [0, 1] [] ?_; refine TC.seq ?_; refine TC.seqS ?_; refine TS.s OpY.move rfl ?_; refine TS.s OpY.lss rfl ?_; refine TS.nil ?_; refine TE.then ?_; refine TC.kp [0, 1, 6] [] ?_; refine TC.cond (fun hc => ?_) (fun hc => ?_)
  · replace H := cT H hc
    cases H
  · replace H := cF H hc
    refine TC.skip ?_; refine TE.then ?_; refine TC.kp [0, 1] [] ?_; refine TC.seq ?_
    obtain ⟨o_3, H3, H⟩ := bnd H
    refine TC.cutP (fun s : (List UInt8) => o_3 = s) (fun (s_2 : (List UInt8)) (⟨b_0, p_0, c_0⟩ : Nat × Prop × Nat) => (Env.set Env.nil 0 (Sl b_0 p_0 0 s_2.length c_0))) (fun (s_2 : (List UInt8)) (⟨b_0, p_0, c_0⟩ : Nat × Prop × Nat) => [⟨b_0, p_0, (Row (s_2 : List UInt8) c_0)⟩]) ?_ ?_
    · skip
      refine TC.seqS ?_; refine TS.s OpY.move rfl ?_; refine TS.s OpY.move rfl ?_; refine TS.s OpY.capNil rfl ?_; refine TS.s OpY.move rfl ?_; refine TS.s OpD.lenNil rfl ?_
      obtain ⟨x_4, ex_4, H3⟩ := bnd H3
      refine TS.s (OpD.sub ex_4) rfl ?_
      obtain ⟨x_5, ex_5, H3⟩ := bnd H3
      refine TS.s (OpD.sub ex_5) rfl ?_; refine TS.s OpY.assign rfl ?_; refine TS.nil ?_; refine TE.then ?_; refine TC.kp [0, 1] [] ?_; refine TC.seqS ?_; refine TS.s OpY.move rfl ?_; refine TS.s OpY.gtr rfl ?_; refine TS.nil ?_; refine TE.then ?_; refine TC.kp [0, 1, 16] [] ?_; refine TC.cond (fun hc => ?_) (fun hc => ?_)
      · replace H3 := cT H3 hc
        refine TC.regionS ?_; refine TS.s OpY.move rfl ?_; refine TS.s OpY.move rfl ?_; refine TS.s OpY.capNil rfl ?_; refine TS.s (OpY.sliceNil (α := UInt8)) rfl ?_; refine TS.s OpY.move rfl ?_
        obtain ⟨u_6, eu_6, H3⟩ := bnd H3
        obtain ⟨u_7, eu_7, H3⟩ := bnd H3
        refine TS.appMake (α := UInt8) eu_6 eu_7 rfl fun b22_7 c22_7 => ?_; refine TS.s OpY.move rfl ?_; refine TS.s OpD.lenNil rfl ?_
        obtain ⟨u_9, eu_9, H3⟩ := bnd H3
        refine TS.s (OpY.sliceSlTo (cut_row eu_9 rfl).2.1 (cut_row eu_9 rfl).2.2) rfl ?_; refine TS.s OpY.assign rfl ?_; refine TS.nil ?_; refine TE.kp [0] [b22_7] ?_; refine TE.trim b22_7 (Int.toNat (0 : Int)) (cut_le0 eu_9) ?_; refine TE.see 0 _ (Sl_le (List.length_take_of_le (cut_le0 eu_9)).symm) ?_
        obtain ⟨l_10, el_10, H3⟩ := bnd H3
        refine TE.nmB b22_7 (nm_row el_10) ?_; refine TE.see 0 _ (nm_sl2 el_10 rfl) ?_; exact TE.cutP l_10 ⟨b22_7, True, c22_7⟩ (Option.some.inj H3).symm (Env.cvBy (Sl_le rfl) (Env.le_nil _)) (Less.pk rfl (Less.nil _))
      · replace H3 := cF H3 hc
        refine TC.skip ?_; exact TE.cutP [] ⟨0, False, 0⟩ (Option.some.inj H3).symm (Env.cvBy NilS.sl0 (Env.le_nil _)) (Less.nilRow (Less.nil _))
    rintro s_2 ⟨b_0, p_0, c_0⟩ hp
    replace hp := hp.symm
    subst hp
    refine TE.then ?_; refine TC.kp [0] [b_0] ?_; refine TC.seqS ?_; refine TS.s OpY.move rfl ?_; refine TS.s OpY.assign rfl ?_; refine TS.nil ?_; refine TE.then ?_; refine TC.kp [4] [b_0] ?_; refine TC.ret ?_
    obtain rfl := (Option.some.inj H)
    exact TE.retO1 rfl ⟨b_0, p_0, c_0⟩ (Sl_le rfl) (Less.pk rfl (Less.nil _))
def slices_Concat_byte_l1 (slices0 : (List (List UInt8))) (size_3 : Int) (x_4 : Int) : Option ((Int × Int) ⊕ Int) :=
  bif (decide (x_4 < (slices0.length : Int))) then ((idx slices0 x_4).bind fun x_6 => (addI size_3 (x_6.length : Int)).bind fun x_7 => bif (decide (x_7 < (0 : Int))) then (none) else ((addI x_4 (1 : Int)).bind fun x_8 => some (.inl (x_7, x_8)))) else (some (.inr size_3))
def slices_Concat_byte_l2 (slices0 : (List (List UInt8))) (x_14 : Int) (newslice_16 : (List UInt8)) : Option ((Int × (List UInt8)) ⊕ (List UInt8)) :=
  bif (decide (x_14 < (slices0.length : Int))) then ((idx slices0 x_14).bind fun x_18 => (room 1 ((newslice_16.length + x_18.length : Nat) : Int)).bind fun u_20 => (some ((newslice_16 ++ x_18) : (List UInt8))).bind fun l_21 => (addI x_14 (1 : Int)).bind fun x_22 => some (.inl (x_22, l_21))) else (some (.inr newslice_16))
def slices_Concat_byte (slices0 : (List (List UInt8))) : Option (List UInt8) :=
  (loopO (fun s => slices_Concat_byte_l1 slices0 s.1 s.2) ((0 : Int), (0 : Int))).bind fun size_1 => (slices_Grow_byte [] size_1).bind fun x_9 => (loopO (fun s => slices_Concat_byte_l2 slices0 s.1 s.2) ((0 : Int), x_9)).bind fun newslice_12 => some newslice_12
theorem slices_Concat_byte_c {A : Nat → Prop} {slices0 : (List (List UInt8))}  {r : (List UInt8)} (w : World) (v0 : Value) (hA : ∀ k, w.heap.size ≤ k → A k)  (h0 : (D (slices0 : (List (List UInt8)))).p A w v0) (H : slices_Concat_byte slices0 = some r) :
    Calls Try.prog 71 #[v0] w (Ret A w (D (r : (List UInt8)))) := by
  unfold slices_Concat_byte at H
  refine enter1 hA Try.func71 rfl Try.ntmps71 rfl h0 ?_; refine TC.seqS ?_; refine TS.s OpY.assign rfl ?_; refine TS.nil ?_; refine TE.then ?_; refine TC.kp [0] [] ?_; refine TC.seqS ?_; refine TS.s OpY.assign rfl ?_; refine TS.nil ?_; refine TE.then ?_; refine TC.kp [0, 3] [] ?_; refine TC.seq ?_; refine TC.seqS ?_; refine TS.s OpY.move rfl ?_; refine TS.s OpD.len rfl ?_; refine TS.s OpY.move rfl ?_; refine TS.nil ?_; refine TE.then ?_; refine TC.kp [0, 3, 9, 10, 11] [] ?_
  obtain ⟨o_2, H2, H⟩ := bnd H
  refine TC.cutP (fun s : Int => o_2 = s) (fun (size_1 : Int) (_ : Unit) => (Env.set (Env.set Env.nil 0 (D (slices0 : (List (List UInt8))))) 3 (D (size_1 : Int)))) (fun (size_1 : Int) (_ : Unit) => []) ?_ ?_
  · skip
    refine TC.block ?_; refine TC.loopP H2 (fun ⟨size_3, x_4⟩ (_ : Unit) => (Env.set (Env.set (Env.set (Env.set (Env.set Env.nil 0 (D (slices0 : (List (List UInt8))))) 3 (D (size_3 : Int))) 9 (D (slices0 : (List (List UInt8))))) 10 (D ((slices0.length : Int) : Int))) 11 (D (x_4 : Int)))) (fun ⟨size_3, x_4⟩ (_ : Unit) => []) () (Env.cv (Env.cv (Env.cv (Env.cv (Env.cv (Env.le_nil _)))))) (Less.nil _) ?_
    rintro ⟨size_3, x_4⟩ ⟨⟩ x_5 H5 he5
    replace H5 : slices_Concat_byte_l1 slices0 size_3 x_4 = some x_5 := H5
    unfold slices_Concat_byte_l1 at H5
    refine TC.seqS ?_; refine TS.s OpY.lss rfl ?_; refine TS.nil ?_; refine TE.then ?_; refine TC.kp [0, 3, 9, 10, 11, 12] [] ?_; refine TC.seq ?_; refine TC.cond (fun hc => ?_) (fun hc => ?_)
    · replace H5 := cT H5 hc
      refine TC.skip ?_; refine TE.then ?_; refine TC.kp [0, 3, 9, 10, 11] [] ?_; refine TC.seq ?_; refine TC.block ?_; refine TC.seqS ?_
      obtain ⟨x_6, ex_6, H5⟩ := bnd H5
      refine TS.s (OpD.index ex_6) rfl ?_; refine TS.s OpY.load rfl ?_; refine TS.s OpY.assign rfl ?_; refine TS.nil ?_; refine TE.then ?_; refine TC.kp [0, 3, 5, 9, 10, 11] [] ?_; refine TC.seqS ?_; refine TS.s OpY.move rfl ?_; refine TS.s OpY.move rfl ?_; refine TS.s OpD.len rfl ?_
      obtain ⟨x_7, ex_7, H5⟩ := bnd H5
      refine TS.s (OpD.add ex_7) rfl ?_; refine TS.s OpY.assign rfl ?_; refine TS.nil ?_; refine TE.then ?_; refine TC.kp [0, 3, 9, 10, 11] [] ?_; refine TC.seqS ?_; refine TS.s OpY.move rfl ?_; refine TS.s OpY.lss rfl ?_; refine TS.nil ?_; refine TE.then ?_; refine TC.kp [0, 3, 9, 10, 11, 20] [] ?_; refine TC.cond (fun hc => ?_) (fun hc => ?_)
      · replace H5 := cT H5 hc
        cases H5
      · replace H5 := cF H5 hc
        refine TC.skip ?_; refine TE.inBlock_normal ?_; refine TE.then ?_; refine TC.kp [0, 3, 9, 10, 11] [] ?_; refine TC.regionS ?_
        obtain ⟨x_8, ex_8, H5⟩ := bnd H5
        refine TS.s (OpD.add ex_8) rfl ?_; refine TS.s OpY.move rfl ?_; refine TS.nil ?_; refine TE.kp [0, 3, 9, 10, 11] [] ?_; exact TE.backP ⟨x_7, x_8⟩ () (Option.some.inj H5).symm (Env.cv (Env.cv (Env.cv (Env.cv (Env.cv (Env.le_nil _)))))) (Less.nil _)
    · replace H5 := cF H5 hc
      refine TC.exit ?_; refine TE.then_exit ?_; refine TE.then_exit ?_; refine TE.inBlock_here ?_; exact TE.cutP size_3 () (he5 _ (Option.some.inj H5).symm).symm (Env.cv (Env.cv (Env.le_nil _))) (Less.nil _)
  rintro size_1 ⟨⟩ hp
  replace hp := hp.symm
  subst hp
  refine TE.then ?_; refine TC.kp [0, 3] [] ?_; refine TC.seqS ?_; refine TS.s OpY.move rfl ?_
  obtain ⟨x_9, ex_9, H⟩ := bnd H
  refine TS.t (OpT.callO2 [] fun w v0 v1 hA hO hap hks h0 h1 => slices_Grow_byte_o w v0 v1 hA hO hap hks (id h0) (toD h1) ex_9) rfl fun ⟨b24_9, p24_9, c24_9⟩ => ?_; dsimp only [List.cons_append, List.nil_append]
  refine TS.s OpY.assign rfl ?_; refine TS.nil ?_; refine TE.then ?_; refine TC.kp [0, 6] [b24_9] ?_; refine TC.seq ?_; refine TC.seqS ?_; refine TS.s OpY.move rfl ?_; refine TS.s OpD.len rfl ?_; refine TS.s OpY.move rfl ?_; refine TS.nil ?_; refine TE.then ?_; refine TC.kp [6, 25, 26, 27] [b24_9] ?_
  obtain ⟨o_13, H13, H⟩ := bnd H
  refine TC.cutP (fun s : (List UInt8) => o_13 = s) (fun (newslice_12 : (List UInt8)) (⟨b_10, p_10, c_10⟩ : Nat × Prop × Nat) => (Env.set Env.nil 6 (Sl b_10 p_10 0 newslice_12.length c_10))) (fun (newslice_12 : (List UInt8)) (⟨b_10, p_10, c_10⟩ : Nat × Prop × Nat) => [⟨b_10, p_10, (Row (newslice_12 : List UInt8) c_10)⟩]) ?_ ?_
  · skip
    refine TC.block ?_; refine TC.loopP H13 (fun ⟨x_14, newslice_16⟩ (⟨b_14, p_14, c_14⟩ : Nat × Prop × Nat) => (Env.set (Env.set (Env.set (Env.set Env.nil 6 (Sl b_14 p_14 0 newslice_16.length c_14)) 25 (D (slices0 : (List (List UInt8))))) 26 (D ((slices0.length : Int) : Int))) 27 (D (x_14 : Int)))) (fun ⟨x_14, newslice_16⟩ (⟨b_14, p_14, c_14⟩ : Nat × Prop × Nat) => [⟨b_14, p_14, (Row (newslice_16 : List UInt8) c_14)⟩]) ⟨b24_9, p24_9, c24_9⟩ (Env.cv (Env.cv (Env.cv (Env.cvBy (Sl_le rfl) (Env.le_nil _))))) (Less.pk rfl (Less.nil _)) ?_
    rintro ⟨x_14, newslice_16⟩ ⟨b_14, p_14, c_14⟩ x_17 H17 he17
    replace H17 : slices_Concat_byte_l2 slices0 x_14 newslice_16 = some x_17 := H17
    unfold slices_Concat_byte_l2 at H17
    refine TC.seqS ?_; refine TS.s OpY.lss rfl ?_; refine TS.nil ?_; refine TE.then ?_; refine TC.kp [6, 25, 26, 27, 28] [b_14] ?_; refine TC.seq ?_; refine TC.cond (fun hc => ?_) (fun hc => ?_)
    · replace H17 := cT H17 hc
      refine TC.skip ?_; refine TE.then ?_; refine TC.kp [6, 25, 26, 27] [b_14] ?_; refine TC.seq ?_; refine TC.block ?_; refine TC.seqS ?_
      obtain ⟨x_18, ex_18, H17⟩ := bnd H17
      refine TS.s (OpD.index ex_18) rfl ?_; refine TS.s OpY.load rfl ?_; refine TS.s OpY.assign rfl ?_; refine TS.nil ?_; refine TE.then ?_; refine TC.kp [6, 8, 25, 26, 27] [b_14] ?_; refine TC.regionS ?_; refine TS.s OpY.move rfl ?_; refine TS.s OpY.move rfl ?_
      obtain ⟨u_20, eu_20, H17⟩ := bnd H17
      refine TS.app (ys := x_18) inferInstance eu_20 rfl rfl rfl fun b33_18 p33_18 c33_18 => ?_; refine TS.s OpY.assign rfl ?_; refine TS.nil ?_; refine TE.kp [6, 25, 26, 27] [b33_18] ?_
      obtain ⟨l_21, el_21, H17⟩ := bnd H17
      refine TE.nmB b33_18 (nm_row el_21) ?_; refine TE.see 6 _ (nm_sl2 el_21 rfl) ?_; refine TE.inBlock_normal ?_; refine TE.then ?_; refine TC.kp [6, 25, 26, 27] [b33_18] ?_; refine TC.regionS ?_
      obtain ⟨x_22, ex_22, H17⟩ := bnd H17
      refine TS.s (OpD.add ex_22) rfl ?_; refine TS.s OpY.move rfl ?_; refine TS.nil ?_; refine TE.kp [6, 25, 26, 27] [b33_18] ?_; exact TE.backP ⟨x_22, l_21⟩ ⟨b33_18, p33_18, c33_18⟩ (Option.some.inj H17).symm (Env.cv (Env.cv (Env.cv (Env.cvBy (Sl_le rfl) (Env.le_nil _))))) (Less.pk rfl (Less.nil _))
    · replace H17 := cF H17 hc
      refine TC.exit ?_; refine TE.then_exit ?_; refine TE.then_exit ?_; refine TE.inBlock_here ?_; exact TE.cutP newslice_16 ⟨b_14, p_14, c_14⟩ (he17 _ (Option.some.inj H17).symm).symm (Env.cvBy (Sl_le rfl) (Env.le_nil _)) (Less.pk rfl (Less.nil _))
  rintro newslice_12 ⟨b_10, p_10, c_10⟩ hp
  replace hp := hp.symm
  subst hp
  refine TE.then ?_; refine TC.kp [6] [b_10] ?_; refine TC.seqS ?_; refine TS.s OpY.move rfl ?_; refine TS.s OpY.assign rfl ?_; refine TS.nil ?_; refine TE.then ?_; refine TC.kp [2] [b_10] ?_; refine TC.ret ?_; refine TE.pub b_10 (PubE.set 2 (PubC.sv PlS.all rfl) PubE.refl) ?_
  obtain rfl := (Option.some.inj H)
  exact TE.ret1 rfl Cv.le
def page_Put (p0 : Page) (size0 : Int) : Option ((List UInt8) × Int) :=
  (page_May p0 size0).bind fun x_2 => bif (!x_2) then (some (([] : List UInt8), (1 : Int))) else ((subI size0 (4 : Int)).bind fun x_3 => (room 1 x_3).bind fun u_4 => (some ((List.replicate (Int.toNat x_3) (Dat.z : UInt8)) : (List UInt8))).bind fun l_6 => (idx l_6 (0 : Int)).bind fun x_7 => (idx (l_6.set (Int.toNat (0 : Int)) (UInt8.ofInt p0.Kind)) (1 : Int)).bind fun x_8 => (some (((l_6.set (Int.toNat (0 : Int)) (UInt8.ofInt p0.Kind)).set (Int.toNat (1 : Int)) (UInt8.ofInt p0.Id)) : (List UInt8))).bind fun l_9 => (cut l_9.length (2 : Int) (8 : Int)).bind fun u_10 => (sum_Put p0.Gen (6 : Int)).bind fun x_11 => (some ((splice l_9 (Int.toNat (2 : Int)) (over ((l_9.drop (Int.toNat (2 : Int))).take (((8 : Int) - (2 : Int)).toNat)) x_11)) : (List UInt8))).bind fun l_12 => (cut l_12.length (8 : Int) (10 : Int)).bind fun u_13 => (sum_Put (UInt64.ofInt (p0.Body.length : Int)) (2 : Int)).bind fun x_14 => (some ((splice l_12 (Int.toNat (8 : Int)) (over ((l_12.drop (Int.toNat (8 : Int))).take (((10 : Int) - (8 : Int)).toNat)) x_14)) : (List UInt8))).bind fun l_15 => (cut l_15.length (10 : Int) (l_15.length : Int)).bind fun u_16 => (some ((splice l_15 (Int.toNat (10 : Int)) (over ((l_15.drop (Int.toNat (10 : Int))).take (((l_15.length : Nat) - (10 : Int) : Int).toNat)) p0.Body)) : (List UInt8))).bind fun l_17 => (sum_Of l_17).bind fun x_18 => (sum_Put (x_18.toUInt64) (4 : Int)).bind fun x_19 => (slices_Concat_byte ([l_17, x_19] : List (List UInt8))).bind fun x_20 => some (x_20, (0 : Int)))
theorem page_Put_c {A : Nat → Prop} {p0 : Page} {size0 : Int}  {r : ((List UInt8) × Int)} (w : World) (v0 v1 : Value) (hA : ∀ k, w.heap.size ≤ k → A k)  (h0 : (D (p0 : Page)).p A w v0) (h1 : (D (size0 : Int)).p A w v1) (H : page_Put p0 size0 = some r) :
    Calls Try.prog 26 #[v0, v1] w (Ret A w (Tup [D (r.1 : (List UInt8)), D (r.2 : Int)])) := by
  unfold page_Put at H
  refine enter2 hA Try.func26 rfl Try.ntmps26 rfl h0 h1 ?_; refine TC.seqS ?_; refine TS.box rfl fun b2_0 => ?_; refine TS.s OpY.assign rfl ?_; refine TS.s OpY.assign rfl ?_; refine TS.nil ?_; refine TE.then ?_; refine TC.kp [1, 2] [b2_0] ?_; refine TC.seq ?_; refine TC.seqS ?_; refine TS.s (OpD.ldq Pl.one) rfl ?_; refine TS.s OpY.move rfl ?_
  obtain ⟨x_2, ex_2, H⟩ := bnd H
  refine TS.s (OpY.call2 fun w v0 v1 hA h0 h1 => page_May_c w v0 v1 hA (toD h0) (toD h1) ex_2) rfl ?_; refine TS.s OpY.notB rfl ?_; refine TS.nil ?_; refine TE.then ?_; refine TC.kp [1, 2, 10] [b2_0] ?_; refine TC.cond (fun hc => ?_) (fun hc => ?_)
  · replace H := cT H hc
    refine TC.seqS ?_; refine TS.s OpY.assign rfl ?_; refine TS.s OpY.assign rfl ?_; refine TS.nil ?_; refine TE.then ?_; refine TC.kp [4, 5] [] ?_; refine TC.ret ?_; refine TE.then_ret ?_
    obtain rfl := (Option.some.inj H)
    exact TE.retN rfl rfl (.cons Cv.le (.cons Cv.le .nil))
  · replace H := cF H hc
    refine TC.skip ?_; refine TE.then ?_; refine TC.kp [1, 2] [b2_0] ?_; refine TC.seqS ?_; refine TS.s OpY.move rfl ?_
    obtain ⟨x_3, ex_3, H⟩ := bnd H
    refine TS.s (OpD.sub ex_3) rfl ?_
    obtain ⟨u_4, eu_4, H⟩ := bnd H
    refine TS.make eu_4 ⟨(room_some eu_4).1, Int.le_refl _⟩ rfl fun b13_4 => ?_; refine TS.s OpY.assign rfl ?_; refine TS.nil ?_; refine TE.then ?_; refine TC.kp [2, 6] [b2_0, b13_4] ?_
    obtain ⟨l_6, el_6, H⟩ := bnd H
    refine TC.nmB b13_4 (nm_row el_6) ?_; refine TC.see 6 _ (nm_sl2 el_6 (by simp)) ?_; refine TC.seqD [9, 11] [b13_4] mix (by kernel_rfl) (by kernel_rfl) ?_; refine TR.s OpY.move rfl ?_; refine TR.s OpY.move rfl ?_; refine TR.s OpY.fieldAddr rfl ?_; refine TR.s (OpD.ldq (Pl.fld (off := 0) (α := Page) (β := Int) Pl.one)) rfl ?_; refine TR.s OpY.convi_8 rfl ?_; refine TR.s OpY.fieldAddr rfl ?_; refine TR.s (OpD.ldq (Pl.fld (off := 1) (α := Page) (β := Int) Pl.one)) rfl ?_; refine TR.s OpY.convi_8 rfl ?_
    obtain ⟨x_7, ex_7, H⟩ := bnd H
    refine TR.s (OpD.indexq (idx_in ex_7 rfl)) rfl ?_; refine TR.tn (fun g => (OpT.storeq (y := ((UInt8.ofInt p0.Kind) : UInt8)) (Pl.rowz ex_7))) rfl ?_
    obtain ⟨x_8, ex_8, H⟩ := bnd H
    refine TR.s (OpD.indexq (idx_in ex_8 (by simp))) rfl ?_; refine TR.tn (fun g => (OpT.storeq (y := ((UInt8.ofInt p0.Id) : UInt8)) (Pl.rowz ex_8))) rfl ?_; refine TR.nil ?_
    rintro ⟨⟨_, _⟩, _⟩
    dsimp only [Fam.nextS, Fam.nextN, Fam.one, List.cons_append, List.nil_append]
    refine TC.kp [2, 6] [b2_0, b13_4] ?_
    obtain ⟨l_9, el_9, H⟩ := bnd H
    refine TC.nmB b13_4 (nm_row el_9) ?_; refine TC.see 6 _ (nm_sl2 el_9 (by simp)) ?_; refine TC.seqD [5] [b13_4] mix (by kernel_rfl) (by kernel_rfl) ?_; refine TR.s OpY.move rfl ?_
    obtain ⟨u_10, eu_10, H⟩ := bnd H
    refine TR.s (OpY.sliceSv2 (cut_row eu_10 rfl).1 (cut_row eu_10 rfl).2.1 (cut_row eu_10 rfl).2.2) rfl ?_; refine TR.s OpY.fieldAddr rfl ?_; refine TR.s (OpD.ldq (Pl.fld (off := 2) (α := Page) (β := UInt64) Pl.one)) rfl ?_
    obtain ⟨x_11, ex_11, H⟩ := bnd H
    refine TR.s (OpY.call2 fun w v0 v1 hA h0 h1 => sum_Put_c w v0 v1 hA (toD h0) (toD h1) ex_11) rfl ?_; refine TR.t (fun g => (OpT.copyBy (ys := x_11) inferInstance (PlS.rowz (cut_le eu_10)) (cut_len eu_10 rfl) (fun _ h => by simp [h, splice, Vec.put_nil]))) rfl ?_; refine TR.nil ?_
    rintro ⟨_, _⟩
    dsimp only [Fam.nextS, Fam.nextN, Fam.one, List.cons_append, List.nil_append]
    refine TC.kp [2, 6] [b2_0, b13_4] ?_
    obtain ⟨l_12, el_12, H⟩ := bnd H
    refine TC.nmB b13_4 (nm_row el_12) ?_; refine TC.see 6 _ (nm_sl2 el_12 (splice_over_len (cut_le eu_10)).symm) ?_; refine TC.seqD [7] [b13_4] mix (by kernel_rfl) (by kernel_rfl) ?_; refine TR.s OpY.move rfl ?_
    obtain ⟨u_13, eu_13, H⟩ := bnd H
    refine TR.s (OpY.sliceSv2 (cut_row eu_13 rfl).1 (cut_row eu_13 rfl).2.1 (cut_row eu_13 rfl).2.2) rfl ?_; refine TR.s OpY.fieldAddr rfl ?_; refine TR.s (OpD.ldq (Pl.fld (off := 3) (α := Page) (β := (List UInt8)) Pl.one)) rfl ?_; refine TR.s OpD.len rfl ?_; refine TR.s OpY.convi_64 rfl ?_
    obtain ⟨x_14, ex_14, H⟩ := bnd H
    refine TR.s (OpY.call2 fun w v0 v1 hA h0 h1 => sum_Put_c w v0 v1 hA (toD h0) (toD h1) ex_14) rfl ?_; refine TR.t (fun g => (OpT.copyBy (ys := x_14) inferInstance (PlS.rowz (cut_le eu_13)) (cut_len eu_13 rfl) (fun _ h => by simp [h, splice, Vec.put_nil]))) rfl ?_; refine TR.nil ?_
    rintro ⟨_, _⟩
    dsimp only [Fam.nextS, Fam.nextN, Fam.one, List.cons_append, List.nil_append]
    refine TC.kp [2, 6] [b2_0, b13_4] ?_
    obtain ⟨l_15, el_15, H⟩ := bnd H
    refine TC.nmB b13_4 (nm_row el_15) ?_; refine TC.see 6 _ (nm_sl2 el_15 (splice_over_len (cut_le eu_13)).symm) ?_; refine TC.seqD [4] [b13_4] mix (by kernel_rfl) (by kernel_rfl) ?_; refine TR.s OpY.move rfl ?_
    obtain ⟨u_16, eu_16, H⟩ := bnd H
    refine TR.s (OpY.sliceSvFrom (cut_row eu_16 rfl).1 (cut_row eu_16 rfl).2.1) rfl ?_; refine TR.s OpY.fieldAddr rfl ?_; refine TR.s (OpD.ldq (Pl.fld (off := 3) (α := Page) (β := (List UInt8)) Pl.one)) rfl ?_; refine TR.t (fun g => (OpT.copyBy (ys := p0.Body) inferInstance (PlS.rowz (cut_leF eu_16 rfl)) (cut_lenF eu_16 rfl) (fun _ h => by simp [h, splice, Vec.put_nil]))) rfl ?_; refine TR.nil ?_
    rintro ⟨_, _⟩
    dsimp only [Fam.nextS, Fam.nextN, Fam.one, List.cons_append, List.nil_append]
    refine TC.kp [6] [b13_4] ?_
    obtain ⟨l_17, el_17, H⟩ := bnd H
    refine TC.nmB b13_4 (nm_row el_17) ?_; refine TC.see 6 _ (nm_sl2 el_17 (splice_over_len (cut_leF eu_16 rfl)).symm) ?_; refine TC.seqS ?_; refine TS.s OpY.move rfl ?_; refine TS.s OpY.move rfl ?_
    obtain ⟨x_18, ex_18, H⟩ := bnd H
    refine TS.s (OpY.callB1 [b13_4] (ArgB.sv PlS.all rfl (by simp)) fun w v0 hA h0 => sum_Of_c w v0 hA (toD h0) ex_18) rfl ?_; refine TS.s OpY.conv32_64 rfl ?_
    obtain ⟨x_19, ex_19, H⟩ := bnd H
    refine TS.s (OpY.call2 fun w v0 v1 hA h0 h1 => sum_Put_c w v0 v1 hA (toD h0) (toD h1) ex_19) rfl ?_; refine TS.pub b13_4 (PubE.set 44 (PubC.sv PlS.all rfl) (PubE.set 43 (PubC.sv PlS.all rfl) (PubE.set 6 (PubC.sv PlS.all rfl) PubE.refl))) ?_; refine TS.s (OpY.buildSlice [.tmp 43, .tmp 47] rfl rfl (by decide)) rfl ?_
    obtain ⟨x_20, ex_20, H⟩ := bnd H
    refine TS.s (OpY.call1 fun w v0 hA h0 => slices_Concat_byte_c w v0 hA (toD h0) ex_20) rfl ?_; refine TS.s OpY.assign rfl ?_; refine TS.s OpY.assign rfl ?_; refine TS.nil ?_; refine TE.then ?_; refine TC.kp [4, 5] [] ?_; refine TC.ret ?_
    obtain rfl := (Option.some.inj H)
    exact TE.retN rfl rfl (.cons Cv.le (.cons Cv.le .nil))
def page_Blank_l1 (b0 : (List UInt8)) (x_2 : Int) : Option (Int ⊕ (Unit ⊕ Bool)) :=
  bif (decide (x_2 < (b0.length : Int))) then ((idx b0 x_2).bind fun x_4 => bif (decide (x_4 ≠ (UInt8.ofNat 255))) then (some (.inr (.inr false))) else ((addI x_2 (1 : Int)).bind fun x_6 => some (.inl x_6))) else (some (.inr (.inl ())))
def page_Blank (b0 : (List UInt8)) : Option Bool :=
  (loopO (fun s => page_Blank_l1 b0 s) (0 : Int)).bind fun o_1 => elS o_1 (fun _ => some true) (fun q => some q)
theorem page_Blank_c {A : Nat → Prop} {b0 : (List UInt8)}  {r : Bool} (w : World) (v0 : Value) (hA : ∀ k, w.heap.size ≤ k → A k)  (h0 : (D (b0 : (List UInt8))).p A w v0) (H : page_Blank b0 = some r) :
    Calls Try.prog 35 #[v0] w (Ret A w (D (r : Bool))) := by
  unfold page_Blank at H
  refine enter1 hA Try.func35 rfl Try.ntmps35 rfl h0 ?_; refine TC.seqS ?_; refine TS.s OpY.assign rfl ?_; refine TS.nil ?_; refine TE.then ?_; refine TC.kp [0] [] ?_; refine TC.seq ?_; refine TC.seqS ?_; refine TS.s OpY.move rfl ?_; refine TS.s OpD.len rfl ?_; refine TS.s OpY.move rfl ?_; refine TS.nil ?_; refine TE.then ?_; refine TC.kp [5, 6, 7] [] ?_
  obtain ⟨o_1, H1, H⟩ := bnd H
  refine TC.cutP (fun s : Unit => o_1 = .inl s) (fun (_ : Unit) (_ : Unit) => Env.nil) (fun (_ : Unit) (_ : Unit) => []) ?_ ?_
  · skip
    refine TC.block ?_; refine TC.loopP H1 (fun (x_2 : Int) (_ : Unit) => (Env.set (Env.set (Env.set Env.nil 5 (D (b0 : (List UInt8)))) 6 (D ((b0.length : Int) : Int))) 7 (D (x_2 : Int)))) (fun (x_2 : Int) (_ : Unit) => []) () (Env.cv (Env.cv (Env.cv (Env.le_nil _)))) (Less.nil _) ?_
    rintro x_2 ⟨⟩ x_3 H3 he3
    replace H3 : page_Blank_l1 b0 x_2 = some x_3 := H3
    unfold page_Blank_l1 at H3
    refine TC.seqS ?_; refine TS.s OpY.lss rfl ?_; refine TS.nil ?_; refine TE.then ?_; refine TC.kp [5, 6, 7, 8] [] ?_; refine TC.seq ?_; refine TC.cond (fun hc => ?_) (fun hc => ?_)
    · replace H3 := cT H3 hc
      refine TC.skip ?_; refine TE.then ?_; refine TC.kp [5, 6, 7] [] ?_; refine TC.seq ?_; refine TC.block ?_; refine TC.seqS ?_
      obtain ⟨x_4, ex_4, H3⟩ := bnd H3
      refine TS.s (OpD.index ex_4) rfl ?_; refine TS.s OpY.load rfl ?_; refine TS.s OpY.assign rfl ?_; refine TS.nil ?_; refine TE.then ?_; refine TC.kp [4, 5, 6, 7] [] ?_; refine TC.seqS ?_; refine TS.s OpY.move rfl ?_; refine TS.s OpY.neq8 rfl ?_; refine TS.nil ?_; refine TE.then ?_; refine TC.kp [5, 6, 7, 12] [] ?_; refine TC.cond (fun hc => ?_) (fun hc => ?_)
      · replace H3 := cT H3 hc
        refine TC.seqS ?_; refine TS.s OpY.assign rfl ?_; refine TS.nil ?_; refine TE.then ?_; refine TC.kp [2] [] ?_; refine TC.ret ?_; refine TE.inBlock_ret ?_; refine TE.then_ret ?_; refine TE.then_ret ?_; refine TE.inBlock_ret ?_; refine TE.cut_ret ?_
        have R4 := elS_r (he3 _ (Option.some.inj H3).symm) H
        refine TE.then_ret ?_
        obtain rfl := (Option.some.inj R4)
        exact TE.ret1 rfl Cv.le
      · replace H3 := cF H3 hc
        refine TC.skip ?_; refine TE.inBlock_normal ?_; refine TE.then ?_; refine TC.kp [5, 6, 7] [] ?_; refine TC.regionS ?_
        obtain ⟨x_6, ex_6, H3⟩ := bnd H3
        refine TS.s (OpD.add ex_6) rfl ?_; refine TS.s OpY.move rfl ?_; refine TS.nil ?_; refine TE.kp [5, 6, 7] [] ?_; exact TE.backP x_6 () (Option.some.inj H3).symm (Env.cv (Env.cv (Env.cv (Env.le_nil _)))) (Less.nil _)
    · replace H3 := cF H3 hc
      refine TC.exit ?_; refine TE.then_exit ?_; refine TE.then_exit ?_; refine TE.inBlock_here ?_; exact TE.cutP () () (he3 _ (Option.some.inj H3).symm).symm (Env.le_nil _) (Less.nil _)
  rintro ⟨⟩ ⟨⟩ hp
  replace H := elS_l hp H
  refine TE.then ?_; refine TC.kp [] [] ?_; refine TC.seqS ?_; refine TS.s OpY.assign rfl ?_; refine TS.nil ?_; refine TE.then ?_; refine TC.kp [2] [] ?_; refine TC.ret ?_
  obtain rfl := (Option.some.inj H)
  exact TE.ret1 rfl Cv.le
def sum_Get_l1 (b0 : (List UInt8)) (n_3 : UInt64) (x_4 : Int) : Option ((UInt64 × Int) ⊕ UInt64) :=
  bif (decide (x_4 < (b0.length : Int))) then ((idx b0 x_4).bind fun x_6 => (some (((shl64 n_3 ((UInt64.ofNat 8).toNat : Int)) ||| (x_6.toUInt64)) : UInt64)).bind fun n_7 => (addI x_4 (1 : Int)).bind fun x_8 => some (.inl (n_7, x_8))) else (some (.inr n_3))
def sum_Get (b0 : (List UInt8)) : Option UInt64 :=
  (loopO (fun s => sum_Get_l1 b0 s.1 s.2) ((UInt64.ofNat 0), (0 : Int))).bind fun n_1 => some n_1
theorem sum_Get_c {A : Nat → Prop} {b0 : (List UInt8)}  {r : UInt64} (w : World) (v0 : Value) (hA : ∀ k, w.heap.size ≤ k → A k)  (h0 : (D (b0 : (List UInt8))).p A w v0) (H : sum_Get b0 = some r) :
    Calls Try.prog 76 #[v0] w (Ret A w (D (r : UInt64))) := by
  unfold sum_Get at H
  refine enter1 hA Try.func76 rfl Try.ntmps76 rfl h0 ?_; refine TC.seqS ?_; refine TS.s OpY.assign rfl ?_; refine TS.nil ?_; refine TE.then ?_; refine TC.kp [0] [] ?_; refine TC.seqS ?_; refine TS.s OpY.assign rfl ?_; refine TS.nil ?_; refine TE.then ?_; refine TC.kp [0, 3] [] ?_; refine TC.seq ?_; refine TC.seqS ?_; refine TS.s OpY.move rfl ?_; refine TS.s OpD.len rfl ?_; refine TS.s OpY.move rfl ?_; refine TS.nil ?_; refine TE.then ?_; refine TC.kp [3, 6, 7, 8] [] ?_
  obtain ⟨o_2, H2, H⟩ := bnd H
  refine TC.cutP (fun s : UInt64 => o_2 = s) (fun (n_1 : UInt64) (_ : Unit) => (Env.set Env.nil 3 (D (n_1 : UInt64)))) (fun (n_1 : UInt64) (_ : Unit) => []) ?_ ?_
  · skip
    refine TC.block ?_; refine TC.loopP H2 (fun ⟨n_3, x_4⟩ (_ : Unit) => (Env.set (Env.set (Env.set (Env.set Env.nil 3 (D (n_3 : UInt64))) 6 (D (b0 : (List UInt8)))) 7 (D ((b0.length : Int) : Int))) 8 (D (x_4 : Int)))) (fun ⟨n_3, x_4⟩ (_ : Unit) => []) () (Env.cv (Env.cv (Env.cv (Env.cv (Env.le_nil _))))) (Less.nil _) ?_
    rintro ⟨n_3, x_4⟩ ⟨⟩ x_5 H5 he5
    replace H5 : sum_Get_l1 b0 n_3 x_4 = some x_5 := H5
    unfold sum_Get_l1 at H5
    refine TC.seqS ?_; refine TS.s OpY.lss rfl ?_; refine TS.nil ?_; refine TE.then ?_; refine TC.kp [3, 6, 7, 8, 9] [] ?_; refine TC.seq ?_; refine TC.cond (fun hc => ?_) (fun hc => ?_)
    · replace H5 := cT H5 hc
      refine TC.skip ?_; refine TE.then ?_; refine TC.kp [3, 6, 7, 8] [] ?_; refine TC.seq ?_; refine TC.block ?_; refine TC.seqS ?_
      obtain ⟨x_6, ex_6, H5⟩ := bnd H5
      refine TS.s (OpD.index ex_6) rfl ?_; refine TS.s OpY.load rfl ?_; refine TS.s OpY.assign rfl ?_; refine TS.nil ?_; refine TE.then ?_; refine TC.kp [3, 5, 6, 7, 8] [] ?_; refine TC.regionS ?_; refine TS.s OpY.move rfl ?_; refine TS.s (OpD.shl64 (Int.natCast_nonneg _)) rfl ?_; refine TS.s OpY.move rfl ?_; refine TS.s OpY.conv8_64 rfl ?_; refine TS.s OpY.or64 rfl ?_; refine TS.s OpY.assign rfl ?_; refine TS.nil ?_; refine TE.kp [3, 6, 7, 8] [] ?_
      obtain ⟨n_7, en_7, H5⟩ := bnd H5
      refine TE.see 3 (D (n_7 : UInt64)) (nm_cv en_7) ?_; refine TE.inBlock_normal ?_; refine TE.then ?_; refine TC.kp [3, 6, 7, 8] [] ?_; refine TC.regionS ?_
      obtain ⟨x_8, ex_8, H5⟩ := bnd H5
      refine TS.s (OpD.add ex_8) rfl ?_; refine TS.s OpY.move rfl ?_; refine TS.nil ?_; refine TE.kp [3, 6, 7, 8] [] ?_; exact TE.backP ⟨n_7, x_8⟩ () (Option.some.inj H5).symm (Env.cv (Env.cv (Env.cv (Env.cv (Env.le_nil _))))) (Less.nil _)
    · replace H5 := cF H5 hc
      refine TC.exit ?_; refine TE.then_exit ?_; refine TE.then_exit ?_; refine TE.inBlock_here ?_; exact TE.cutP n_3 () (he5 _ (Option.some.inj H5).symm).symm (Env.cv (Env.le_nil _)) (Less.nil _)
  rintro n_1 ⟨⟩ hp
  replace hp := hp.symm
  subst hp
  refine TE.then ?_; refine TC.kp [3] [] ?_; refine TC.seqS ?_; refine TS.s OpY.move rfl ?_; refine TS.s OpY.assign rfl ?_; refine TS.nil ?_; refine TE.then ?_; refine TC.kp [2] [] ?_; refine TC.ret ?_
  obtain rfl := (Option.some.inj H)
  exact TE.ret1 rfl Cv.le
def page_Read_l1 (inner_10 : (List UInt8)) (x_27 : Int) (x_30 : Int) : Option (Int ⊕ (Unit ⊕ (Page × Int))) :=
  bif (decide (x_30 < ((inner_10.drop (Int.toNat x_27)).length : Int))) then ((idx (inner_10.drop (Int.toNat x_27)) x_30).bind fun x_32 => bif (decide (x_32 ≠ (UInt8.ofNat 0))) then ((some ((⟨0, 0, 0, []⟩ : Page) : Page)).bind fun k_33 => some (.inr (.inr (k_33, (2 : Int))))) else ((addI x_30 (1 : Int)).bind fun x_35 => some (.inl x_35))) else (some (.inr (.inl ())))
def page_Read (b0 : (List UInt8)) : Option (Page × Int) :=
  (page_fits (b0.length : Int)).bind fun x_2 => bif (!x_2) then ((some ((⟨0, 0, 0, []⟩ : Page) : Page)).bind fun k_3 => some (k_3, (3 : Int))) else ((page_Blank b0).bind fun x_4 => bif x_4 then ((some ((⟨(0 : Int), 0, 0, []⟩ : Page) : Page)).bind fun k_5 => some (k_5, (0 : Int))) else ((subI (b0.length : Int) (4 : Int)).bind fun x_6 => (cut b0.length 0 x_6).bind fun u_7 => (subI (b0.length : Int) (4 : Int)).bind fun x_8 => (cut b0.length x_8 b0.length).bind fun u_9 => (some ((b0.take (Int.toNat x_6)) : (List UInt8))).bind fun inner_10 => (some ((b0.drop (Int.toNat x_8)) : (List UInt8))).bind fun end_11 => (sum_Get end_11).bind fun x_12 => (sum_Of inner_10).bind fun x_13 => bif (decide (x_12 ≠ (x_13.toUInt64))) then ((some ((⟨0, 0, 0, []⟩ : Page) : Page)).bind fun k_14 => some (k_14, (4 : Int))) else ((idx b0 (0 : Int)).bind fun x_15 => (idx b0 (1 : Int)).bind fun x_16 => (cut b0.length (2 : Int) (8 : Int)).bind fun u_17 => (sum_Get ((b0.take (Int.toNat (8 : Int))).drop (Int.toNat (2 : Int)))).bind fun x_18 => (some ((⟨(x_15.toNat : Int), (x_16.toNat : Int), x_18, []⟩ : Page) : Page)).bind fun p_20 => (cut b0.length (8 : Int) (10 : Int)).bind fun u_21 => (sum_Get ((b0.take (Int.toNat (10 : Int))).drop (Int.toNat (8 : Int)))).bind fun x_22 => (ok64 (x_22.toNat : Int)).bind fun x_23 => (page_Room (b0.length : Int)).bind fun x_24 => (gb (!(decide (x_23 > x_24))) (page_May p_20 (b0.length : Int))).bind fun x_25 => bif ((decide (x_23 > x_24)) || (!x_25)) then ((some ((⟨0, 0, 0, []⟩ : Page) : Page)).bind fun k_26 => some (k_26, (2 : Int))) else ((addI (10 : Int) x_23).bind fun x_27 => (cut inner_10.length x_27 inner_10.length).bind fun u_28 => (loopO (fun s => page_Read_l1 inner_10 x_27 s) (0 : Int)).bind fun o_29 => elS o_29 (fun _ => (bif (decide (x_23 > (0 : Int))) then ((addI (10 : Int) x_23).bind fun x_38 => (cut b0.length (10 : Int) x_38).bind fun u_39 => (slices_Clone_byte ((b0.take (Int.toNat x_38)).drop (Int.toNat (10 : Int)))).bind fun x_40 => (some ((⟨p_20.Kind, p_20.Id, p_20.Gen, x_40⟩ : Page) : Page)).bind fun p_41 => some p_41) else (some p_20)).bind fun p_36 => some (p_36, (0 : Int))) (fun q => some q)))))
theorem page_Read_c {A : Nat → Prop} {b0 : (List UInt8)}  {r : (Page × Int)} (w : World) (v0 : Value) (hA : ∀ k, w.heap.size ≤ k → A k)  (h0 : (D (b0 : (List UInt8))).p A w v0) (H : page_Read b0 = some r) :
    Calls Try.prog 28 #[v0] w (Ret A w (Tup [D (r.1 : Page), D (r.2 : Int)])) := by
  unfold page_Read at H
  refine enter1 hA Try.func28 rfl Try.ntmps28 rfl h0 ?_; refine TC.seqS ?_; refine TS.alloc (α := Page) rfl fun b2_0 => ?_; refine TS.s OpY.assign rfl ?_; refine TS.nil ?_; refine TE.then ?_; refine TC.kp [0, 2] [b2_0] ?_; refine TC.seq ?_; refine TC.seqS ?_; refine TS.s OpY.move rfl ?_; refine TS.s OpD.len rfl ?_
  obtain ⟨x_2, ex_2, H⟩ := bnd H
  refine TS.s (OpY.call1 fun w v0 hA h0 => page_fits_c w v0 hA (toD h0) ex_2) rfl ?_; refine TS.s OpY.notB rfl ?_; refine TS.nil ?_; refine TE.then ?_; refine TC.kp [0, 2, 13] [b2_0] ?_; refine TC.cond (fun hc => ?_) (fun hc => ?_)
  · replace H := cT H hc
    refine TC.seqS ?_; refine TS.s (OpY.buildAs (⟨0, 0, 0, []⟩ : Page) rfl ⟨_, Try.underlying53, by kernel_rfl⟩ rfl rfl) rfl ?_; refine TS.un (OpT.storeq (y := ((⟨0, 0, 0, []⟩ : Page) : Page)) Pl.one) ?_; refine TS.s OpY.assign rfl ?_; refine TS.nil ?_; refine TE.then ?_; refine TC.kp [2, 3] [b2_0] ?_
    obtain ⟨k_3, ek_3, H⟩ := bnd H
    refine TC.nmB b2_0 (nm_one ek_3) ?_; refine TC.ret ?_; refine TE.then_ret ?_
    obtain rfl := (Option.some.inj H)
    exact TE.retN rfl rfl (.cons Cv.le (.cons Cv.le .nil))
  · replace H := cF H hc
    refine TC.skip ?_; refine TE.then ?_; refine TC.kp [0, 2] [b2_0] ?_; refine TC.seq ?_; refine TC.seqS ?_; refine TS.s OpY.move rfl ?_
    obtain ⟨x_4, ex_4, H⟩ := bnd H
    refine TS.s (OpY.call1 fun w v0 hA h0 => page_Blank_c w v0 hA (toD h0) ex_4) rfl ?_; refine TS.nil ?_; refine TE.then ?_; refine TC.kp [0, 2, 16] [b2_0] ?_; refine TC.cond (fun hc => ?_) (fun hc => ?_)
    · replace H := cT H hc
      refine TC.seqS ?_; refine TS.s (OpY.buildAs (⟨(0 : Int), 0, 0, []⟩ : Page) rfl ⟨_, Try.underlying53, by kernel_rfl⟩ rfl rfl) rfl ?_; refine TS.un (OpT.storeq (y := ((⟨(0 : Int), 0, 0, []⟩ : Page) : Page)) Pl.one) ?_; refine TS.s OpY.assign rfl ?_; refine TS.nil ?_; refine TE.then ?_; refine TC.kp [2, 3] [b2_0] ?_
      obtain ⟨k_5, ek_5, H⟩ := bnd H
      refine TC.nmB b2_0 (nm_one ek_5) ?_; refine TC.ret ?_; refine TE.then_ret ?_
      obtain rfl := (Option.some.inj H)
      exact TE.retN rfl rfl (.cons Cv.le (.cons Cv.le .nil))
    · replace H := cF H hc
      refine TC.skip ?_; refine TE.then ?_; refine TC.kp [0, 2] [b2_0] ?_; refine TC.seqD0 mix (by kernel_rfl) ?_; refine TR.s OpY.move rfl ?_; refine TR.s OpY.move rfl ?_; refine TR.s OpD.len rfl ?_
      obtain ⟨x_6, ex_6, H⟩ := bnd H
      refine TR.s (OpD.sub ex_6) rfl ?_
      obtain ⟨u_7, eu_7, H⟩ := bnd H
      refine TR.s (OpD.sliceTo eu_7) rfl ?_; refine TR.s OpY.move rfl ?_; refine TR.s OpY.move rfl ?_; refine TR.s OpD.len rfl ?_
      obtain ⟨x_8, ex_8, H⟩ := bnd H
      refine TR.s (OpD.sub ex_8) rfl ?_
      obtain ⟨u_9, eu_9, H⟩ := bnd H
      refine TR.s (OpD.sliceFrom eu_9) rfl ?_; refine TR.s OpY.assign rfl ?_; refine TR.s OpY.assign rfl ?_; refine TR.nil ?_; refine TC.kp [0, 2, 4, 5] [b2_0] ?_
      obtain ⟨inner_10, einner_10, H⟩ := bnd H
      refine TC.see 4 (D (inner_10 : (List UInt8))) (nm_cv einner_10) ?_
      obtain ⟨end_11, eend_11, H⟩ := bnd H
      refine TC.see 5 (D (end_11 : (List UInt8))) (nm_cv eend_11) ?_; refine TC.seq ?_; refine TC.seqS ?_; refine TS.s OpY.move rfl ?_
      obtain ⟨x_12, ex_12, H⟩ := bnd H
      refine TS.s (OpY.call1 fun w v0 hA h0 => sum_Get_c w v0 hA (toD h0) ex_12) rfl ?_; refine TS.s OpY.move rfl ?_
      obtain ⟨x_13, ex_13, H⟩ := bnd H
      refine TS.s (OpY.call1 fun w v0 hA h0 => sum_Of_c w v0 hA (toD h0) ex_13) rfl ?_; refine TS.s OpY.conv32_64 rfl ?_; refine TS.s OpY.neq64 rfl ?_; refine TS.nil ?_; refine TE.then ?_; refine TC.kp [0, 2, 4, 33] [b2_0] ?_; refine TC.cond (fun hc => ?_) (fun hc => ?_)
      · replace H := cT H hc
        refine TC.seqS ?_; refine TS.s (OpY.buildAs (⟨0, 0, 0, []⟩ : Page) rfl ⟨_, Try.underlying53, by kernel_rfl⟩ rfl rfl) rfl ?_; refine TS.un (OpT.storeq (y := ((⟨0, 0, 0, []⟩ : Page) : Page)) Pl.one) ?_; refine TS.s OpY.assign rfl ?_; refine TS.nil ?_; refine TE.then ?_; refine TC.kp [2, 3] [b2_0] ?_
        obtain ⟨k_14, ek_14, H⟩ := bnd H
        refine TC.nmB b2_0 (nm_one ek_14) ?_; refine TC.ret ?_; refine TE.then_ret ?_
        obtain rfl := (Option.some.inj H)
        exact TE.retN rfl rfl (.cons Cv.le (.cons Cv.le .nil))
      · replace H := cF H hc
        refine TC.skip ?_; refine TE.then ?_; refine TC.kp [0, 2, 4] [b2_0] ?_; refine TC.seqD [12, 13] [] mix (by kernel_rfl) (by kernel_rfl) ?_; refine TR.s OpY.move rfl ?_
        obtain ⟨x_15, ex_15, H⟩ := bnd H
        refine TR.s (OpD.index ex_15) rfl ?_; refine TR.s OpY.load rfl ?_; refine TR.s OpD.conv8_i rfl ?_; refine TR.s OpY.move rfl ?_
        obtain ⟨x_16, ex_16, H⟩ := bnd H
        refine TR.s (OpD.index ex_16) rfl ?_; refine TR.s OpY.load rfl ?_; refine TR.s OpD.conv8_i rfl ?_; refine TR.s OpY.move rfl ?_
        obtain ⟨u_17, eu_17, H⟩ := bnd H
        refine TR.s (OpD.slice2 eu_17) rfl ?_
        obtain ⟨x_18, ex_18, H⟩ := bnd H
        refine TR.s (OpY.call1 fun w v0 hA h0 => sum_Get_c w v0 hA (toD h0) ex_18) rfl ?_; refine TR.s (OpY.buildAs (⟨(x_15.toNat : Int), (x_16.toNat : Int), x_18, []⟩ : Page) rfl ⟨_, Try.underlying53, by kernel_rfl⟩ rfl rfl) rfl ?_; refine TR.t (fun g => OpT.allocT (α := Page)) rfl ?_; refine TR.tn (fun g => (OpT.storeq (y := ((⟨(x_15.toNat : Int), (x_16.toNat : Int), x_18, []⟩ : Page) : Page)) Pl.one)) rfl ?_; refine TR.nil ?_
        rintro ⟨⟨_, ⟨b6_18, _⟩⟩, _⟩
        dsimp only [Fam.nextS, Fam.nextN, Fam.one, List.cons_append, List.nil_append]
        refine TC.kp [0, 2, 4, 6] [b2_0, b6_18] ?_
        obtain ⟨p_20, ep_20, H⟩ := bnd H
        refine TC.nmB b6_18 (nm_one ep_20) ?_; refine TC.seqS ?_; refine TS.s OpY.move rfl ?_
        obtain ⟨u_21, eu_21, H⟩ := bnd H
        refine TS.s (OpD.slice2 eu_21) rfl ?_
        obtain ⟨x_22, ex_22, H⟩ := bnd H
        refine TS.s (OpY.call1 fun w v0 hA h0 => sum_Get_c w v0 hA (toD h0) ex_22) rfl ?_
        obtain ⟨x_23, ex_23, H⟩ := bnd H
        refine TS.s (OpD.conv64_i ex_23) rfl ?_; refine TS.s OpY.assign rfl ?_; refine TS.nil ?_; refine TE.then ?_; refine TC.kp [0, 2, 4, 6, 7] [b2_0, b6_18] ?_; refine TC.seq ?_; refine TC.seqS ?_; refine TS.s OpY.move rfl ?_; refine TS.s OpY.move rfl ?_; refine TS.s OpD.len rfl ?_
        obtain ⟨x_24, ex_24, H⟩ := bnd H
        refine TS.s (OpY.call1 fun w v0 hA h0 => page_Room_c w v0 hA (toD h0) ex_24) rfl ?_; refine TS.s OpY.gtr rfl ?_; refine TS.s OpY.move rfl ?_; refine TS.g 56 rfl (fun hg => (OpD.ldq Pl.one)) rfl ?_; refine TS.g 56 rfl (fun hg => OpY.move) rfl ?_; refine TS.g 56 rfl (fun hg => OpD.len) rfl ?_
        obtain ⟨x_25, ex_25, H⟩ := bnd H
        refine TS.g 56 rfl (fun hg => (OpY.call2 fun w v0 v1 hA h0 h1 => page_May_c w v0 v1 hA (toD h0) (toD h1) (gb_some ex_25 (nF hg.h)))) rfl ?_; refine TS.g 56 rfl (fun hg => OpY.notB) rfl ?_; refine TS.s OpY.pickOr rfl ?_; refine TS.nil ?_; refine TE.then ?_; refine TC.kp [0, 2, 4, 6, 7, 62] [b2_0, b6_18] ?_; refine TC.cond (fun hc => ?_) (fun hc => ?_)
        · replace H := cT H hc
          refine TC.seqS ?_; refine TS.s (OpY.buildAs (⟨0, 0, 0, []⟩ : Page) rfl ⟨_, Try.underlying53, by kernel_rfl⟩ rfl rfl) rfl ?_; refine TS.un (OpT.storeq (y := ((⟨0, 0, 0, []⟩ : Page) : Page)) Pl.one) ?_; refine TS.s OpY.assign rfl ?_; refine TS.nil ?_; refine TE.then ?_; refine TC.kp [2, 3] [b2_0] ?_
          obtain ⟨k_26, ek_26, H⟩ := bnd H
          refine TC.nmB b2_0 (nm_one ek_26) ?_; refine TC.ret ?_; refine TE.then_ret ?_
          obtain rfl := (Option.some.inj H)
          exact TE.retN rfl rfl (.cons Cv.le (.cons Cv.le .nil))
        · replace H := cF H hc
          refine TC.skip ?_; refine TE.then ?_; refine TC.kp [0, 2, 4, 6, 7] [b2_0, b6_18] ?_; refine TC.seq ?_; refine TC.seqS ?_; refine TS.s OpY.move rfl ?_; refine TS.s OpY.move rfl ?_
          obtain ⟨x_27, ex_27, H⟩ := bnd H
          refine TS.s (OpD.add ex_27) rfl ?_
          obtain ⟨u_28, eu_28, H⟩ := bnd H
          refine TS.s (OpD.sliceFrom eu_28) rfl ?_; refine TS.s OpD.len rfl ?_; refine TS.s OpY.move rfl ?_; refine TS.nil ?_; refine TE.then ?_; refine TC.kp [0, 2, 6, 7, 67, 68, 69] [b2_0, b6_18] ?_
          obtain ⟨o_29, H29, H⟩ := bnd H
          refine TC.cutP (fun s : Unit => o_29 = .inl s) (fun (_ : Unit) (_ : Unit) => (Env.set (Env.set (Env.set (Env.set Env.nil 0 (D (b0 : (List UInt8)))) 2 (Pt b2_0 0)) 6 (Pt b6_18 0)) 7 (D (x_23 : Int)))) (fun (_ : Unit) (_ : Unit) => [⟨b2_0, True, (One (Dat.z : Page))⟩, ⟨b6_18, True, (One (p_20 : Page))⟩]) ?_ ?_
          · skip
            refine TC.block ?_; refine TC.loopP H29 (fun (x_30 : Int) (_ : Unit) => (Env.set (Env.set (Env.set (Env.set (Env.set (Env.set (Env.set Env.nil 0 (D (b0 : (List UInt8)))) 2 (Pt b2_0 0)) 6 (Pt b6_18 0)) 7 (D (x_23 : Int))) 67 (D ((inner_10.drop (Int.toNat x_27)) : (List UInt8)))) 68 (D (((inner_10.drop (Int.toNat x_27)).length : Int) : Int))) 69 (D (x_30 : Int)))) (fun (x_30 : Int) (_ : Unit) => [⟨b2_0, True, (One (Dat.z : Page))⟩, ⟨b6_18, True, (One (p_20 : Page))⟩]) () (Env.cv (Env.cv (Env.cv (Env.cv (Env.cv (Env.cv (Env.cv (Env.le_nil _)))))))) (Less.pk rfl (Less.pk rfl (Less.nil _))) ?_
            rintro x_30 ⟨⟩ x_31 H31 he31
            replace H31 : page_Read_l1 inner_10 x_27 x_30 = some x_31 := H31
            unfold page_Read_l1 at H31
            refine TC.seqS ?_; refine TS.s OpY.lss rfl ?_; refine TS.nil ?_; refine TE.then ?_; refine TC.kp [0, 2, 6, 7, 67, 68, 69, 70] [b2_0, b6_18] ?_; refine TC.seq ?_; refine TC.cond (fun hc => ?_) (fun hc => ?_)
            · replace H31 := cT H31 hc
              refine TC.skip ?_; refine TE.then ?_; refine TC.kp [0, 2, 6, 7, 67, 68, 69] [b2_0, b6_18] ?_; refine TC.seq ?_; refine TC.block ?_; refine TC.seqS ?_
              obtain ⟨x_32, ex_32, H31⟩ := bnd H31
              refine TS.s (OpD.index ex_32) rfl ?_; refine TS.s OpY.load rfl ?_; refine TS.s OpY.assign rfl ?_; refine TS.nil ?_; refine TE.then ?_; refine TC.kp [0, 2, 6, 7, 9, 67, 68, 69] [b2_0, b6_18] ?_; refine TC.seqS ?_; refine TS.s OpY.move rfl ?_; refine TS.s OpY.neq8 rfl ?_; refine TS.nil ?_; refine TE.then ?_; refine TC.kp [0, 2, 6, 7, 67, 68, 69, 74] [b2_0, b6_18] ?_; refine TC.cond (fun hc => ?_) (fun hc => ?_)
              · replace H31 := cT H31 hc
                refine TC.seqS ?_; refine TS.s (OpY.buildAs (⟨0, 0, 0, []⟩ : Page) rfl ⟨_, Try.underlying53, by kernel_rfl⟩ rfl rfl) rfl ?_; refine TS.un (OpT.storeq (y := ((⟨0, 0, 0, []⟩ : Page) : Page)) Pl.one) ?_; refine TS.s OpY.assign rfl ?_; refine TS.nil ?_; refine TE.then ?_; refine TC.kp [2, 3] [b2_0] ?_
                obtain ⟨k_33, ek_33, H31⟩ := bnd H31
                refine TC.nmB b2_0 (nm_one ek_33) ?_; refine TC.ret ?_; refine TE.inBlock_ret ?_; refine TE.then_ret ?_; refine TE.then_ret ?_; refine TE.inBlock_ret ?_; refine TE.cut_ret ?_
                have R33 := elS_r (he31 _ (Option.some.inj H31).symm) H
                refine TE.then_ret ?_
                obtain rfl := (Option.some.inj R33)
                exact TE.retN rfl rfl (.cons Cv.le (.cons Cv.le .nil))
              · replace H31 := cF H31 hc
                refine TC.skip ?_; refine TE.inBlock_normal ?_; refine TE.then ?_; refine TC.kp [0, 2, 6, 7, 67, 68, 69] [b2_0, b6_18] ?_; refine TC.regionS ?_
                obtain ⟨x_35, ex_35, H31⟩ := bnd H31
                refine TS.s (OpD.add ex_35) rfl ?_; refine TS.s OpY.move rfl ?_; refine TS.nil ?_; refine TE.kp [0, 2, 6, 7, 67, 68, 69] [b2_0, b6_18] ?_; exact TE.backP x_35 () (Option.some.inj H31).symm (Env.cv (Env.cv (Env.cv (Env.cv (Env.cv (Env.cv (Env.cv (Env.le_nil _)))))))) (Less.pk rfl (Less.pk rfl (Less.nil _)))
            · replace H31 := cF H31 hc
              refine TC.exit ?_; refine TE.then_exit ?_; refine TE.then_exit ?_; refine TE.inBlock_here ?_; exact TE.cutP () () (he31 _ (Option.some.inj H31).symm).symm (Env.cv (Env.cv (Env.cv (Env.cv (Env.le_nil _))))) (Less.pk rfl (Less.pk rfl (Less.nil _)))
          rintro ⟨⟩ ⟨⟩ hp
          replace H := elS_l hp H
          refine TE.then ?_; refine TC.kp [0, 2, 6, 7] [b2_0, b6_18] ?_; refine TC.seq ?_
          obtain ⟨o_37, H37, H⟩ := bnd H
          refine TC.cutP (fun s : Page => o_37 = s) (fun (p_36 : Page) (_ : Unit) => (Env.set (Env.set Env.nil 2 (Pt b2_0 0)) 6 (Pt b6_18 0))) (fun (p_36 : Page) (_ : Unit) => [⟨b2_0, True, (One (Dat.z : Page))⟩, ⟨b6_18, True, (One (p_36 : Page))⟩]) ?_ ?_
          · skip
            refine TC.seqS ?_; refine TS.s OpY.move rfl ?_; refine TS.s OpY.gtr rfl ?_; refine TS.nil ?_; refine TE.then ?_; refine TC.kp [0, 2, 6, 7, 78] [b2_0, b6_18] ?_; refine TC.cond (fun hc => ?_) (fun hc => ?_)
            · replace H37 := cT H37 hc
              refine TC.regionS ?_; refine TS.s OpY.move rfl ?_; refine TS.s OpY.move rfl ?_
              obtain ⟨x_38, ex_38, H37⟩ := bnd H37
              refine TS.s (OpD.add ex_38) rfl ?_
              obtain ⟨u_39, eu_39, H37⟩ := bnd H37
              refine TS.s (OpD.slice2 eu_39) rfl ?_
              obtain ⟨x_40, ex_40, H37⟩ := bnd H37
              refine TS.s (OpY.call1 fun w v0 hA h0 => slices_Clone_byte_c w v0 hA (toD h0) ex_40) rfl ?_; refine TS.s OpY.fieldAddr rfl ?_; refine TS.un (OpT.storeq (y := (x_40 : (List UInt8))) (Pl.fld (off := 3) (α := Page) (β := (List UInt8)) Pl.one)) ?_; refine TS.nil ?_; refine TE.kp [2, 6] [b2_0, b6_18] ?_
              obtain ⟨p_41, ep_41, H37⟩ := bnd H37
              refine TE.nmB b6_18 (nm_one ep_41) ?_; exact TE.cutP p_41 () (Option.some.inj H37).symm (Env.cv (Env.cv (Env.le_nil _))) (Less.pk rfl (Less.pk rfl (Less.nil _)))
            · replace H37 := cF H37 hc
              refine TC.skip ?_; exact TE.cutP p_20 () (Option.some.inj H37).symm (Env.cv (Env.cv (Env.le_nil _))) (Less.pk rfl (Less.pk rfl (Less.nil _)))
          rintro p_36 ⟨⟩ hp
          replace hp := hp.symm
          subst hp
          refine TE.then ?_; refine TC.kp [2, 6] [b2_0, b6_18] ?_; refine TC.seqS ?_; refine TS.s (OpD.ldq Pl.one) rfl ?_; refine TS.un (OpT.storeq (y := (p_36 : Page)) Pl.one) ?_; refine TS.s OpY.assign rfl ?_; refine TS.nil ?_; refine TE.then ?_; refine TC.kp [2, 3] [b2_0] ?_; refine TC.ret ?_
          obtain rfl := (Option.some.inj H)
          exact TE.retN rfl rfl (.cons Cv.le (.cons Cv.le .nil))
def bywayref05_Put_l1 (many0 : Int) (n_3 : UInt64) (out_4 : (List UInt8)) (i_5 : Int) : Option ((UInt64 × (List UInt8) × Int) ⊕ (List UInt8)) :=
  bif (decide (i_5 < many0)) then ((room 1 ((([((n_3 % (UInt64.ofNat 256)).toUInt8)] : List UInt8).length + out_4.length : Nat) : Int)).bind fun u_7 => (some ((([((n_3 % (UInt64.ofNat 256)).toUInt8)] : List UInt8) ++ out_4) : (List UInt8))).bind fun out_8 => (some ((n_3 / (UInt64.ofNat 256)) : UInt64)).bind fun n_9 => (addI i_5 (1 : Int)).bind fun x_10 => some (.inl (n_9, out_8, x_10))) else (some (.inr out_4))
def bywayref05_Put (n0 : UInt64) (many0 : Int) : Option (List UInt8) :=
  bif ((decide (many0 < (1 : Int))) || (decide (many0 > (8 : Int)))) then (some ([] : List UInt8)) else ((loopO (fun s => bywayref05_Put_l1 many0 s.1 s.2.1 s.2.2) (n0, [], (0 : Int))).bind fun out_1 => some out_1)
theorem bywayref05_Put_c {A : Nat → Prop} {n0 : UInt64} {many0 : Int}  {r : (List UInt8)} (w : World) (v0 v1 : Value) (hA : ∀ k, w.heap.size ≤ k → A k)  (h0 : (D (n0 : UInt64)).p A w v0) (h1 : (D (many0 : Int)).p A w v1) (H : bywayref05_Put n0 many0 = some r) :
    Calls Try.prog 73 #[v0, v1] w (Ret A w (D (r : (List UInt8)))) := by
  unfold bywayref05_Put at H
  refine enter2 hA Try.func73 rfl Try.ntmps73 rfl h0 h1 ?_; refine TC.seqS ?_; refine TS.s OpY.assign rfl ?_; refine TS.nil ?_; refine TE.then ?_; refine TC.kp [0, 1] [] ?_; refine TC.seqS ?_; refine TS.s OpY.assign rfl ?_; refine TS.nil ?_; refine TE.then ?_; refine TC.kp [0, 1, 5] [] ?_; refine TC.seq ?_; refine TC.seqS ?_; refine TS.s OpY.move rfl ?_; refine TS.s OpY.lss rfl ?_; refine TS.s OpY.move rfl ?_; refine TS.g 9 rfl (fun hg => OpY.move) rfl ?_; refine TS.g 9 rfl (fun hg => OpY.gtr) rfl ?_; refine TS.s OpY.pickOr rfl ?_; refine TS.nil ?_; refine TE.then ?_; refine TC.kp [0, 1, 5, 12] [] ?_; refine TC.cond (fun hc => ?_) (fun hc => ?_)
  · replace H := cT H hc
    refine TC.seqS ?_; refine TS.s OpY.move rfl ?_; refine TS.s OpY.assign rfl ?_; refine TS.nil ?_; refine TE.then ?_; refine TC.kp [4] [] ?_; refine TC.ret ?_; refine TE.then_ret ?_
    obtain rfl := (Option.some.inj H)
    exact TE.ret1 rfl Cv.le
  · replace H := cF H hc
    refine TC.skip ?_; refine TE.then ?_; refine TC.kp [0, 1, 5] [] ?_; refine TC.seq ?_; refine TC.seqS ?_; refine TS.s OpY.assign rfl ?_; refine TS.nil ?_; refine TE.then ?_; refine TC.kp [0, 1, 5, 6] [] ?_
    obtain ⟨o_2, H2, H⟩ := bnd H
    refine TC.cutP (fun s : (List UInt8) => o_2 = s) (fun (out_1 : (List UInt8)) (_ : Unit) => (Env.set Env.nil 5 (D (out_1 : (List UInt8))))) (fun (out_1 : (List UInt8)) (_ : Unit) => []) ?_ ?_
    · skip
      refine TC.block ?_; refine TC.loopP H2 (fun ⟨n_3, out_4, i_5⟩ (_ : Unit) => (Env.set (Env.set (Env.set (Env.set Env.nil 0 (D (n_3 : UInt64))) 1 (D (many0 : Int))) 5 (D (out_4 : (List UInt8)))) 6 (D (i_5 : Int)))) (fun ⟨n_3, out_4, i_5⟩ (_ : Unit) => []) () (Env.cv (Env.cv (Env.cv (Env.cv (Env.le_nil _))))) (Less.nil _) ?_
      rintro ⟨n_3, out_4, i_5⟩ ⟨⟩ x_6 H6 he6
      replace H6 : bywayref05_Put_l1 many0 n_3 out_4 i_5 = some x_6 := H6
      unfold bywayref05_Put_l1 at H6
      refine TC.seq ?_; refine TC.seqS ?_; refine TS.s OpY.move rfl ?_; refine TS.s OpY.move rfl ?_; refine TS.s OpY.lss rfl ?_; refine TS.nil ?_; refine TE.then ?_; refine TC.kp [0, 1, 5, 6, 16] [] ?_; refine TC.cond (fun hc => ?_) (fun hc => ?_)
      · replace H6 := cT H6 hc
        refine TC.skip ?_; refine TE.then ?_; refine TC.kp [0, 1, 5, 6] [] ?_; refine TC.seq ?_; refine TC.block ?_; refine TC.seqS ?_; refine TS.s OpY.move rfl ?_; refine TS.s (OpY.rem64 (by decide)) rfl ?_; refine TS.s OpY.conv64_8 rfl ?_; refine TS.s (OpY.buildSlice [.tmp 21] rfl rfl (by decide)) rfl ?_; refine TS.s OpY.move rfl ?_
        obtain ⟨u_7, eu_7, H6⟩ := bnd H6
        refine TS.s (OpY.appendFu (room_app eu_7).1 (room_app eu_7).2) rfl ?_; refine TS.s OpY.assign rfl ?_; refine TS.nil ?_; refine TE.then ?_; refine TC.kp [0, 1, 5, 6] [] ?_
        obtain ⟨out_8, eout_8, H6⟩ := bnd H6
        refine TC.see 5 (D (out_8 : (List UInt8))) (nm_cv eout_8) ?_; refine TC.regionS ?_; refine TS.s OpY.move rfl ?_; refine TS.s (OpY.quo64 (by decide)) rfl ?_; refine TS.s OpY.assign rfl ?_; refine TS.nil ?_; refine TE.kp [0, 1, 5, 6] [] ?_
        obtain ⟨n_9, en_9, H6⟩ := bnd H6
        refine TE.see 0 (D (n_9 : UInt64)) (nm_cv en_9) ?_; refine TE.inBlock_normal ?_; refine TE.then ?_; refine TC.kp [0, 1, 5, 6] [] ?_; refine TC.regionS ?_; refine TS.s OpY.move rfl ?_
        obtain ⟨x_10, ex_10, H6⟩ := bnd H6
        refine TS.s (OpD.add ex_10) rfl ?_; refine TS.s OpY.assign rfl ?_; refine TS.nil ?_; refine TE.kp [0, 1, 5, 6] [] ?_; exact TE.backP ⟨n_9, out_8, x_10⟩ () (Option.some.inj H6).symm (Env.cv (Env.cv (Env.cv (Env.cv (Env.le_nil _))))) (Less.nil _)
      · replace H6 := cF H6 hc
        refine TC.exit ?_; refine TE.then_exit ?_; refine TE.then_exit ?_; refine TE.inBlock_here ?_; exact TE.cutP out_4 () (he6 _ (Option.some.inj H6).symm).symm (Env.cv (Env.le_nil _)) (Less.nil _)
    rintro out_1 ⟨⟩ hp
    replace hp := hp.symm
    subst hp
    refine TE.then ?_; refine TC.kp [5] [] ?_; refine TC.seqS ?_; refine TS.s OpY.move rfl ?_; refine TS.s OpY.assign rfl ?_; refine TS.nil ?_; refine TE.then ?_; refine TC.kp [4] [] ?_; refine TC.ret ?_
    obtain rfl := (Option.some.inj H)
    exact TE.ret1 rfl Cv.le
def bywayref05_Of_l2 (n_9 : UInt32) (k_10 : Int) : Option ((UInt32 × Int) ⊕ UInt32) :=
  bif (decide (k_10 < (8 : Int))) then (((some ((decide ((n_9 % (UInt32.ofNat 2)) = (UInt32.ofNat 1))) : Bool)).bind fun odd_14 => bif odd_14 then ((some (((n_9 / (UInt32.ofNat 2)) ^^^ (UInt32.ofNat 3988292384)) : UInt32)).bind fun n_15 => some n_15) else (some (n_9 / (UInt32.ofNat 2)))).bind fun n_12 => (addI k_10 (1 : Int)).bind fun x_16 => some (.inl (n_12, x_16))) else (some (.inr n_9))
def bywayref05_Of_l1 (b0 : (List UInt8)) (n_3 : UInt32) (i_4 : Int) : Option ((UInt32 × Int) ⊕ UInt32) :=
  bif (decide (i_4 < (b0.length : Int))) then ((idx b0 i_4).bind fun x_6 => (loopO (fun s => bywayref05_Of_l2 s.1 s.2) ((n_3 ^^^ (x_6.toUInt32)), (0 : Int))).bind fun n_7 => (addI i_4 (1 : Int)).bind fun x_17 => some (.inl (n_7, x_17))) else (some (.inr n_3))
def bywayref05_Of (b0 : (List UInt8)) : Option UInt32 :=
  (loopO (fun s => bywayref05_Of_l1 b0 s.1 s.2) ((UInt32.ofNat 4294967295), (0 : Int))).bind fun n_1 => some ((UInt32.ofNat 4294967295) - n_1)
theorem bywayref05_Of_c {A : Nat → Prop} {b0 : (List UInt8)}  {r : UInt32} (w : World) (v0 : Value) (hA : ∀ k, w.heap.size ≤ k → A k)  (h0 : (D (b0 : (List UInt8))).p A w v0) (H : bywayref05_Of b0 = some r) :
    Calls Try.prog 96 #[v0] w (Ret A w (D (r : UInt32))) := by
  unfold bywayref05_Of at H
  refine enter1 hA Try.func96 rfl Try.ntmps96 rfl h0 ?_; refine TC.seqS ?_; refine TS.s OpY.assign rfl ?_; refine TS.nil ?_; refine TE.then ?_; refine TC.kp [0] [] ?_; refine TC.seqS ?_; refine TS.s OpY.assign rfl ?_; refine TS.nil ?_; refine TE.then ?_; refine TC.kp [0, 3] [] ?_; refine TC.seq ?_; refine TC.seqS ?_; refine TS.s OpY.assign rfl ?_; refine TS.nil ?_; refine TE.then ?_; refine TC.kp [0, 3, 4] [] ?_
  obtain ⟨o_2, H2, H⟩ := bnd H
  refine TC.cutP (fun s : UInt32 => o_2 = s) (fun (n_1 : UInt32) (_ : Unit) => (Env.set Env.nil 3 (D (n_1 : UInt32)))) (fun (n_1 : UInt32) (_ : Unit) => []) ?_ ?_
  · skip
    refine TC.block ?_; refine TC.loopP H2 (fun ⟨n_3, i_4⟩ (_ : Unit) => (Env.set (Env.set (Env.set Env.nil 0 (D (b0 : (List UInt8)))) 3 (D (n_3 : UInt32))) 4 (D (i_4 : Int)))) (fun ⟨n_3, i_4⟩ (_ : Unit) => []) () (Env.cv (Env.cv (Env.cv (Env.le_nil _)))) (Less.nil _) ?_
    rintro ⟨n_3, i_4⟩ ⟨⟩ x_5 H5 he5
    replace H5 : bywayref05_Of_l1 b0 n_3 i_4 = some x_5 := H5
    unfold bywayref05_Of_l1 at H5
    refine TC.seq ?_; refine TC.seqS ?_; refine TS.s OpY.move rfl ?_; refine TS.s OpY.move rfl ?_; refine TS.s OpD.len rfl ?_; refine TS.s OpY.lss rfl ?_; refine TS.nil ?_; refine TE.then ?_; refine TC.kp [0, 3, 4, 10] [] ?_; refine TC.cond (fun hc => ?_) (fun hc => ?_)
    · replace H5 := cT H5 hc
      refine TC.skip ?_; refine TE.then ?_; refine TC.kp [0, 3, 4] [] ?_; refine TC.seq ?_; refine TC.block ?_; refine TC.seqS ?_; refine TS.s OpY.move rfl ?_; refine TS.s OpY.move rfl ?_; refine TS.s OpY.move rfl ?_
      obtain ⟨x_6, ex_6, H5⟩ := bnd H5
      refine TS.s (OpD.index ex_6) rfl ?_; refine TS.s OpY.load rfl ?_; refine TS.s OpY.conv8_32 rfl ?_; refine TS.s OpY.xor32 rfl ?_; refine TS.s OpY.assign rfl ?_; refine TS.nil ?_; refine TE.then ?_; refine TC.kp [0, 3, 4] [] ?_; refine TC.seqS ?_; refine TS.s OpY.assign rfl ?_; refine TS.nil ?_; refine TE.then ?_; refine TC.kp [0, 3, 4, 5] [] ?_
      obtain ⟨o_8, H8, H5⟩ := bnd H5
      refine TC.cutP (fun s : UInt32 => o_8 = s) (fun (n_7 : UInt32) (_ : Unit) => (Env.set (Env.set (Env.set Env.nil 0 (D (b0 : (List UInt8)))) 3 (D (n_7 : UInt32))) 4 (D (i_4 : Int)))) (fun (n_7 : UInt32) (_ : Unit) => []) ?_ ?_
      · skip
        refine TC.block ?_; refine TC.loopP H8 (fun ⟨n_9, k_10⟩ (_ : Unit) => (Env.set (Env.set (Env.set (Env.set Env.nil 0 (D (b0 : (List UInt8)))) 3 (D (n_9 : UInt32))) 4 (D (i_4 : Int))) 5 (D (k_10 : Int)))) (fun ⟨n_9, k_10⟩ (_ : Unit) => []) () (Env.cv (Env.cv (Env.cv (Env.cv (Env.le_nil _))))) (Less.nil _) ?_
        rintro ⟨n_9, k_10⟩ ⟨⟩ x_11 H11 he11
        replace H11 : bywayref05_Of_l2 n_9 k_10 = some x_11 := H11
        unfold bywayref05_Of_l2 at H11
        refine TC.seq ?_; refine TC.seqS ?_; refine TS.s OpY.move rfl ?_; refine TS.s OpY.lss rfl ?_; refine TS.nil ?_; refine TE.then ?_; refine TC.kp [0, 3, 4, 5, 21] [] ?_; refine TC.cond (fun hc => ?_) (fun hc => ?_)
        · replace H11 := cT H11 hc
          refine TC.skip ?_; refine TE.then ?_; refine TC.kp [0, 3, 4, 5] [] ?_; refine TC.seq ?_
          obtain ⟨o_13, H13, H11⟩ := bnd H11
          refine TC.cutP (fun s : UInt32 => o_13 = s) (fun (n_12 : UInt32) (_ : Unit) => (Env.set (Env.set (Env.set (Env.set Env.nil 0 (D (b0 : (List UInt8)))) 3 (D (n_12 : UInt32))) 4 (D (i_4 : Int))) 5 (D (k_10 : Int)))) (fun (n_12 : UInt32) (_ : Unit) => []) ?_ ?_
          · skip
            refine TC.block ?_; refine TC.seqS ?_; refine TS.s OpY.move rfl ?_; refine TS.s (OpY.rem32 (by decide)) rfl ?_; refine TS.s OpY.eql32 rfl ?_; refine TS.s OpY.assign rfl ?_; refine TS.nil ?_; refine TE.then ?_; refine TC.kp [0, 3, 4, 5, 6] [] ?_
            obtain ⟨odd_14, eodd_14, H13⟩ := bnd H13
            refine TC.see 6 (D (odd_14 : Bool)) (nm_cv eodd_14) ?_; refine TC.seqS ?_; refine TS.s OpY.move rfl ?_; refine TS.s (OpY.quo32 (by decide)) rfl ?_; refine TS.s OpY.assign rfl ?_; refine TS.nil ?_; refine TE.then ?_; refine TC.kp [0, 3, 4, 5, 6] [] ?_; refine TC.seqS ?_; refine TS.s OpY.move rfl ?_; refine TS.nil ?_; refine TE.then ?_; refine TC.kp [0, 3, 4, 5, 29] [] ?_; refine TC.cond (fun hc => ?_) (fun hc => ?_)
            · replace H13 := cT H13 hc
              refine TC.regionS ?_; refine TS.s OpY.move rfl ?_; refine TS.s OpY.xor32 rfl ?_; refine TS.s OpY.assign rfl ?_; refine TS.nil ?_; refine TE.kp [0, 3, 4, 5] [] ?_
              obtain ⟨n_15, en_15, H13⟩ := bnd H13
              refine TE.see 3 (D (n_15 : UInt32)) (nm_cv en_15) ?_; refine TE.inBlock_normal ?_; exact TE.cutP n_15 () (Option.some.inj H13).symm (Env.cv (Env.cv (Env.cv (Env.cv (Env.le_nil _))))) (Less.nil _)
            · replace H13 := cF H13 hc
              refine TC.skip ?_; refine TE.inBlock_normal ?_; exact TE.cutP (n_9 / (UInt32.ofNat 2)) () (Option.some.inj H13).symm (Env.cv (Env.cv (Env.cv (Env.cv (Env.le_nil _))))) (Less.nil _)
          rintro n_12 ⟨⟩ hp
          replace hp := hp.symm
          subst hp
          refine TE.then ?_; refine TC.kp [0, 3, 4, 5] [] ?_; refine TC.regionS ?_; refine TS.s OpY.move rfl ?_
          obtain ⟨x_16, ex_16, H11⟩ := bnd H11
          refine TS.s (OpD.add ex_16) rfl ?_; refine TS.s OpY.assign rfl ?_; refine TS.nil ?_; refine TE.kp [0, 3, 4, 5] [] ?_; exact TE.backP ⟨n_12, x_16⟩ () (Option.some.inj H11).symm (Env.cv (Env.cv (Env.cv (Env.cv (Env.le_nil _))))) (Less.nil _)
        · replace H11 := cF H11 hc
          refine TC.exit ?_; refine TE.then_exit ?_; refine TE.then_exit ?_; refine TE.inBlock_here ?_; exact TE.cutP n_9 () (he11 _ (Option.some.inj H11).symm).symm (Env.cv (Env.cv (Env.cv (Env.le_nil _)))) (Less.nil _)
      rintro n_7 ⟨⟩ hp
      replace hp := hp.symm
      subst hp
      refine TE.inBlock_normal ?_; refine TE.then ?_; refine TC.kp [0, 3, 4] [] ?_; refine TC.regionS ?_; refine TS.s OpY.move rfl ?_
      obtain ⟨x_17, ex_17, H5⟩ := bnd H5
      refine TS.s (OpD.add ex_17) rfl ?_; refine TS.s OpY.assign rfl ?_; refine TS.nil ?_; refine TE.kp [0, 3, 4] [] ?_; exact TE.backP ⟨n_7, x_17⟩ () (Option.some.inj H5).symm (Env.cv (Env.cv (Env.cv (Env.le_nil _)))) (Less.nil _)
    · replace H5 := cF H5 hc
      refine TC.exit ?_; refine TE.then_exit ?_; refine TE.then_exit ?_; refine TE.inBlock_here ?_; exact TE.cutP n_3 () (he5 _ (Option.some.inj H5).symm).symm (Env.cv (Env.le_nil _)) (Less.nil _)
  rintro n_1 ⟨⟩ hp
  replace hp := hp.symm
  subst hp
  refine TE.then ?_; refine TC.kp [3] [] ?_; refine TC.seqS ?_; refine TS.s OpY.move rfl ?_; refine TS.s OpY.sub32 rfl ?_; refine TS.s OpY.assign rfl ?_; refine TS.nil ?_; refine TE.then ?_; refine TC.kp [2] [] ?_; refine TC.ret ?_
  obtain rfl := (Option.some.inj H)
  exact TE.ret1 rfl Cv.le
def bywayref05_Sealed (b0 : (List UInt8)) : Option (List UInt8) :=
  (room 1 ((([] : List UInt8).length + b0.length : Nat) : Int)).bind fun u_3 => (bywayref05_Of b0).bind fun x_4 => (bywayref05_Put (x_4.toUInt64) (4 : Int)).bind fun x_5 => (room 1 (((([] : List UInt8) ++ b0).length + x_5.length : Nat) : Int)).bind fun u_7 => (some (((([] : List UInt8) ++ b0) ++ x_5) : (List UInt8))).bind fun l_8 => some l_8
theorem bywayref05_Sealed_o {A : Nat → Prop} {b0 : (List UInt8)}  {r : (List UInt8)} (w : World) (v0 : Value) (hA : ∀ k, w.heap.size ≤ k → A k) (hO : OwnIn A []) (hap : Apart []) (hks : Pks (Pub A []) [] w) (h0 : (D (b0 : (List UInt8))).p (Pub A []) w v0) (H : bywayref05_Sealed b0 = some r) :
    Calls Try.prog 74 #[v0] w (RetO A w [] (fun g : Nat × Prop × Nat => Sl g.1 g.2.1 0 (List.length r) g.2.2) fun g => [⟨g.1, g.2.1, Row (r : List UInt8) g.2.2⟩]) := by
  unfold bywayref05_Sealed at H
  refine enterO1 hA hap hks Try.func74 rfl Try.ntmps74 rfl h0 ?_; refine TC.seqS ?_; refine TS.s OpY.assign rfl ?_; refine TS.nil ?_; refine TE.then ?_; refine TC.kp [0] [] ?_; refine TC.seqS ?_; refine TS.build [] rfl rfl (by decide) rfl fun b3_0 => ?_; refine TS.s OpY.move rfl ?_
  obtain ⟨u_3, eu_3, H⟩ := bnd H
  refine TS.app (ys := b0) inferInstance eu_3 rfl rfl rfl fun b5_1 p5_1 c5_1 => ?_; refine TS.s OpY.move rfl ?_
  obtain ⟨x_4, ex_4, H⟩ := bnd H
  refine TS.s (OpY.call1 fun w v0 hA h0 => bywayref05_Of_c w v0 hA (toD h0) ex_4) rfl ?_; refine TS.s OpY.conv32_64 rfl ?_
  obtain ⟨x_5, ex_5, H⟩ := bnd H
  refine TS.s (OpY.call2 fun w v0 v1 hA h0 h1 => bywayref05_Put_c w v0 v1 hA (toD h0) (toD h1) ex_5) rfl ?_
  obtain ⟨u_7, eu_7, H⟩ := bnd H
  refine TS.app (ys := x_5) inferInstance eu_7 rfl rfl rfl fun b10_5 p10_5 c10_5 => ?_; refine TS.s OpY.assign rfl ?_; refine TS.nil ?_; refine TE.then ?_; refine TC.kp [2] [b10_5] ?_
  obtain ⟨l_8, el_8, H⟩ := bnd H
  refine TC.nmB b10_5 (nm_row el_8) ?_; refine TC.see 2 _ (nm_sl2 el_8 rfl) ?_; refine TC.ret ?_
  obtain rfl := (Option.some.inj H)
  exact TE.retO1 rfl ⟨b10_5, p10_5, c10_5⟩ (Sl_le rfl) (Less.pk rfl (Less.nil _))
theorem bywayref05_Sealed_c {A : Nat → Prop} {b0 : (List UInt8)} {r : (List UInt8)} (w : World) (v0 : Value) (hA : ∀ k, w.heap.size ≤ k → A k) (h0 : (D (b0 : (List UInt8))).p A w v0) (H : bywayref05_Sealed b0 = some r) :
    Calls Try.prog 74 #[v0] w (Ret A w (D r)) := (bywayref05_Sealed_o w v0 hA ⟨fun k ⟨e, he, _⟩ => absurd he (by simp)⟩ List.Pairwise.nil (fun e he => absurd he (by simp)) (Ty.enter h0) H).mono fun e w' h => RetO.pub1 hA h
def bywayref07_Blank_l1 (b0 : (List UInt8)) (i_2 : Int) : Option (Int ⊕ (Unit ⊕ Bool)) :=
  bif (decide (i_2 < (b0.length : Int))) then ((idx b0 i_2).bind fun x_4 => bif (decide (x_4 ≠ (UInt8.ofNat 255))) then (some (.inr (.inr false))) else ((addI i_2 (1 : Int)).bind fun x_6 => some (.inl x_6))) else (some (.inr (.inl ())))
def bywayref07_Blank (b0 : (List UInt8)) : Option Bool :=
  (loopO (fun s => bywayref07_Blank_l1 b0 s) (0 : Int)).bind fun o_1 => elS o_1 (fun _ => some true) (fun q => some q)
theorem bywayref07_Blank_c {A : Nat → Prop} {b0 : (List UInt8)}  {r : Bool} (w : World) (v0 : Value) (hA : ∀ k, w.heap.size ≤ k → A k)  (h0 : (D (b0 : (List UInt8))).p A w v0) (H : bywayref07_Blank b0 = some r) :
    Calls Try.prog 36 #[v0] w (Ret A w (D (r : Bool))) := by
  unfold bywayref07_Blank at H
  refine enter1 hA Try.func36 rfl Try.ntmps36 rfl h0 ?_; refine TC.seqS ?_; refine TS.s OpY.assign rfl ?_; refine TS.nil ?_; refine TE.then ?_; refine TC.kp [0] [] ?_; refine TC.seq ?_; refine TC.seqS ?_; refine TS.s OpY.assign rfl ?_; refine TS.nil ?_; refine TE.then ?_; refine TC.kp [0, 3] [] ?_
  obtain ⟨o_1, H1, H⟩ := bnd H
  refine TC.cutP (fun s : Unit => o_1 = .inl s) (fun (_ : Unit) (_ : Unit) => Env.nil) (fun (_ : Unit) (_ : Unit) => []) ?_ ?_
  · skip
    refine TC.block ?_; refine TC.loopP H1 (fun (i_2 : Int) (_ : Unit) => (Env.set (Env.set Env.nil 0 (D (b0 : (List UInt8)))) 3 (D (i_2 : Int)))) (fun (i_2 : Int) (_ : Unit) => []) () (Env.cv (Env.cv (Env.le_nil _))) (Less.nil _) ?_
    rintro i_2 ⟨⟩ x_3 H3 he3
    replace H3 : bywayref07_Blank_l1 b0 i_2 = some x_3 := H3
    unfold bywayref07_Blank_l1 at H3
    refine TC.seq ?_; refine TC.seqS ?_; refine TS.s OpY.move rfl ?_; refine TS.s OpY.move rfl ?_; refine TS.s OpD.len rfl ?_; refine TS.s OpY.lss rfl ?_; refine TS.nil ?_; refine TE.then ?_; refine TC.kp [0, 3, 7] [] ?_; refine TC.cond (fun hc => ?_) (fun hc => ?_)
    · replace H3 := cT H3 hc
      refine TC.skip ?_; refine TE.then ?_; refine TC.kp [0, 3] [] ?_; refine TC.seq ?_; refine TC.block ?_; refine TC.seqS ?_; refine TS.s OpY.move rfl ?_; refine TS.s OpY.move rfl ?_
      obtain ⟨x_4, ex_4, H3⟩ := bnd H3
      refine TS.s (OpD.index ex_4) rfl ?_; refine TS.s OpY.load rfl ?_; refine TS.s OpY.neq8 rfl ?_; refine TS.nil ?_; refine TE.then ?_; refine TC.kp [0, 3, 14] [] ?_; refine TC.cond (fun hc => ?_) (fun hc => ?_)
      · replace H3 := cT H3 hc
        refine TC.seqS ?_; refine TS.s OpY.assign rfl ?_; refine TS.nil ?_; refine TE.then ?_; refine TC.kp [2] [] ?_; refine TC.ret ?_; refine TE.inBlock_ret ?_; refine TE.then_ret ?_; refine TE.then_ret ?_; refine TE.inBlock_ret ?_; refine TE.cut_ret ?_
        have R4 := elS_r (he3 _ (Option.some.inj H3).symm) H
        refine TE.then_ret ?_
        obtain rfl := (Option.some.inj R4)
        exact TE.ret1 rfl Cv.le
      · replace H3 := cF H3 hc
        refine TC.skip ?_; refine TE.inBlock_normal ?_; refine TE.then ?_; refine TC.kp [0, 3] [] ?_; refine TC.regionS ?_; refine TS.s OpY.move rfl ?_
        obtain ⟨x_6, ex_6, H3⟩ := bnd H3
        refine TS.s (OpD.add ex_6) rfl ?_; refine TS.s OpY.assign rfl ?_; refine TS.nil ?_; refine TE.kp [0, 3] [] ?_; exact TE.backP x_6 () (Option.some.inj H3).symm (Env.cv (Env.cv (Env.le_nil _))) (Less.nil _)
    · replace H3 := cF H3 hc
      refine TC.exit ?_; refine TE.then_exit ?_; refine TE.then_exit ?_; refine TE.inBlock_here ?_; exact TE.cutP () () (he3 _ (Option.some.inj H3).symm).symm (Env.le_nil _) (Less.nil _)
  rintro ⟨⟩ ⟨⟩ hp
  replace H := elS_l hp H
  refine TE.then ?_; refine TC.kp [] [] ?_; refine TC.seqS ?_; refine TS.s OpY.assign rfl ?_; refine TS.nil ?_; refine TE.then ?_; refine TC.kp [2] [] ?_; refine TC.ret ?_
  obtain rfl := (Option.some.inj H)
  exact TE.ret1 rfl Cv.le
def bywayref05_Open (b0 : (List UInt8)) : Option ((List UInt8) × Int) :=
  bif (decide ((b0.length : Int) < (4 : Int))) then (some (([] : List UInt8), (3 : Int))) else ((subI (b0.length : Int) (4 : Int)).bind fun x_1 => (cut b0.length 0 x_1).bind fun u_2 => (bywayref05_Sealed (b0.take (Int.toNat x_1))).bind fun x_3 => bif (decide (x_3 ≠ b0)) then (some (([] : List UInt8), (4 : Int))) else ((subI (b0.length : Int) (4 : Int)).bind fun x_4 => (cut b0.length 0 x_4).bind fun u_5 => some ((b0.take (Int.toNat x_4)), (0 : Int))))
theorem bywayref05_Open_c {A : Nat → Prop} {b0 : (List UInt8)}  {r : ((List UInt8) × Int)} (w : World) (v0 : Value) (hA : ∀ k, w.heap.size ≤ k → A k)  (h0 : (D (b0 : (List UInt8))).p A w v0) (H : bywayref05_Open b0 = some r) :
    Calls Try.prog 77 #[v0] w (Ret A w (Tup [D (r.1 : (List UInt8)), D (r.2 : Int)])) := by
  unfold bywayref05_Open at H
  refine enter1 hA Try.func77 rfl Try.ntmps77 rfl h0 ?_; refine TC.seqS ?_; refine TS.s OpY.assign rfl ?_; refine TS.s OpY.assign rfl ?_; refine TS.nil ?_; refine TE.then ?_; refine TC.kp [0] [] ?_; refine TC.seq ?_; refine TC.seqS ?_; refine TS.s OpY.move rfl ?_; refine TS.s OpD.len rfl ?_; refine TS.s OpY.lss rfl ?_; refine TS.nil ?_; refine TE.then ?_; refine TC.kp [0, 6] [] ?_; refine TC.cond (fun hc => ?_) (fun hc => ?_)
  · replace H := cT H hc
    refine TC.seqS ?_; refine TS.s OpY.assign rfl ?_; refine TS.s OpY.assign rfl ?_; refine TS.nil ?_; refine TE.then ?_; refine TC.kp [2, 3] [] ?_; refine TC.ret ?_; refine TE.then_ret ?_
    obtain rfl := (Option.some.inj H)
    exact TE.retN rfl rfl (.cons Cv.le (.cons Cv.le .nil))
  · replace H := cF H hc
    refine TC.skip ?_; refine TE.then ?_; refine TC.kp [0] [] ?_; refine TC.seq ?_; refine TC.seqD0 mix (by kernel_rfl) ?_; refine TR.s OpY.move rfl ?_; refine TR.s OpY.move rfl ?_; refine TR.s OpD.len rfl ?_
    obtain ⟨x_1, ex_1, H⟩ := bnd H
    refine TR.s (OpD.sub ex_1) rfl ?_
    obtain ⟨u_2, eu_2, H⟩ := bnd H
    refine TR.s (OpD.sliceTo eu_2) rfl ?_
    obtain ⟨x_3, ex_3, H⟩ := bnd H
    refine TR.s (OpY.call1 fun w v0 hA h0 => bywayref05_Sealed_c w v0 hA (toD h0) ex_3) rfl ?_; refine TR.s OpY.conv_slice_string rfl ?_; refine TR.s OpY.move rfl ?_; refine TR.s OpY.conv_slice_string rfl ?_; refine TR.s OpY.neq_string rfl ?_; refine TR.nil ?_; refine TC.kp [0, 16] [] ?_; refine TC.cond (fun hc => ?_) (fun hc => ?_)
    · replace H := cT H hc
      refine TC.seqS ?_; refine TS.s OpY.assign rfl ?_; refine TS.s OpY.assign rfl ?_; refine TS.nil ?_; refine TE.then ?_; refine TC.kp [2, 3] [] ?_; refine TC.ret ?_; refine TE.then_ret ?_
      obtain rfl := (Option.some.inj H)
      exact TE.retN rfl rfl (.cons Cv.le (.cons Cv.le .nil))
    · replace H := cF H hc
      refine TC.skip ?_; refine TE.then ?_; refine TC.kp [0] [] ?_; refine TC.seqS ?_; refine TS.s OpY.move rfl ?_; refine TS.s OpY.move rfl ?_; refine TS.s OpD.len rfl ?_
      obtain ⟨x_4, ex_4, H⟩ := bnd H
      refine TS.s (OpD.sub ex_4) rfl ?_
      obtain ⟨u_5, eu_5, H⟩ := bnd H
      refine TS.s (OpD.sliceTo eu_5) rfl ?_; refine TS.s OpY.assign rfl ?_; refine TS.s OpY.assign rfl ?_; refine TS.nil ?_; refine TE.then ?_; refine TC.kp [2, 3] [] ?_; refine TC.ret ?_
      obtain rfl := (Option.some.inj H)
      exact TE.retN rfl rfl (.cons Cv.le (.cons Cv.le .nil))
def bywayref05_Get_l1 (b0 : (List UInt8)) (n_3 : UInt64) (i_4 : Int) : Option ((UInt64 × Int) ⊕ UInt64) :=
  bif (decide (i_4 < (b0.length : Int))) then ((idx b0 i_4).bind fun x_6 => (some (((n_3 * (UInt64.ofNat 256)) + (x_6.toUInt64)) : UInt64)).bind fun n_7 => (addI i_4 (1 : Int)).bind fun x_8 => some (.inl (n_7, x_8))) else (some (.inr n_3))
def bywayref05_Get (b0 : (List UInt8)) : Option UInt64 :=
  (loopO (fun s => bywayref05_Get_l1 b0 s.1 s.2) ((UInt64.ofNat 0), (0 : Int))).bind fun n_1 => some n_1
theorem bywayref05_Get_c {A : Nat → Prop} {b0 : (List UInt8)}  {r : UInt64} (w : World) (v0 : Value) (hA : ∀ k, w.heap.size ≤ k → A k)  (h0 : (D (b0 : (List UInt8))).p A w v0) (H : bywayref05_Get b0 = some r) :
    Calls Try.prog 78 #[v0] w (Ret A w (D (r : UInt64))) := by
  unfold bywayref05_Get at H
  refine enter1 hA Try.func78 rfl Try.ntmps78 rfl h0 ?_; refine TC.seqS ?_; refine TS.s OpY.assign rfl ?_; refine TS.nil ?_; refine TE.then ?_; refine TC.kp [0] [] ?_; refine TC.seqS ?_; refine TS.s OpY.assign rfl ?_; refine TS.nil ?_; refine TE.then ?_; refine TC.kp [0, 3] [] ?_; refine TC.seq ?_; refine TC.seqS ?_; refine TS.s OpY.assign rfl ?_; refine TS.nil ?_; refine TE.then ?_; refine TC.kp [0, 3, 4] [] ?_
  obtain ⟨o_2, H2, H⟩ := bnd H
  refine TC.cutP (fun s : UInt64 => o_2 = s) (fun (n_1 : UInt64) (_ : Unit) => (Env.set Env.nil 3 (D (n_1 : UInt64)))) (fun (n_1 : UInt64) (_ : Unit) => []) ?_ ?_
  · skip
    refine TC.block ?_; refine TC.loopP H2 (fun ⟨n_3, i_4⟩ (_ : Unit) => (Env.set (Env.set (Env.set Env.nil 0 (D (b0 : (List UInt8)))) 3 (D (n_3 : UInt64))) 4 (D (i_4 : Int)))) (fun ⟨n_3, i_4⟩ (_ : Unit) => []) () (Env.cv (Env.cv (Env.cv (Env.le_nil _)))) (Less.nil _) ?_
    rintro ⟨n_3, i_4⟩ ⟨⟩ x_5 H5 he5
    replace H5 : bywayref05_Get_l1 b0 n_3 i_4 = some x_5 := H5
    unfold bywayref05_Get_l1 at H5
    refine TC.seq ?_; refine TC.seqS ?_; refine TS.s OpY.move rfl ?_; refine TS.s OpY.move rfl ?_; refine TS.s OpD.len rfl ?_; refine TS.s OpY.lss rfl ?_; refine TS.nil ?_; refine TE.then ?_; refine TC.kp [0, 3, 4, 8] [] ?_; refine TC.cond (fun hc => ?_) (fun hc => ?_)
    · replace H5 := cT H5 hc
      refine TC.skip ?_; refine TE.then ?_; refine TC.kp [0, 3, 4] [] ?_; refine TC.seq ?_; refine TC.block ?_; refine TC.regionS ?_; refine TS.s OpY.move rfl ?_; refine TS.s OpY.mul64 rfl ?_; refine TS.s OpY.move rfl ?_; refine TS.s OpY.move rfl ?_
      obtain ⟨x_6, ex_6, H5⟩ := bnd H5
      refine TS.s (OpD.index ex_6) rfl ?_; refine TS.s OpY.load rfl ?_; refine TS.s OpY.conv8_64 rfl ?_; refine TS.s OpY.add64 rfl ?_; refine TS.s OpY.assign rfl ?_; refine TS.nil ?_; refine TE.kp [0, 3, 4] [] ?_
      obtain ⟨n_7, en_7, H5⟩ := bnd H5
      refine TE.see 3 (D (n_7 : UInt64)) (nm_cv en_7) ?_; refine TE.inBlock_normal ?_; refine TE.then ?_; refine TC.kp [0, 3, 4] [] ?_; refine TC.regionS ?_; refine TS.s OpY.move rfl ?_
      obtain ⟨x_8, ex_8, H5⟩ := bnd H5
      refine TS.s (OpD.add ex_8) rfl ?_; refine TS.s OpY.assign rfl ?_; refine TS.nil ?_; refine TE.kp [0, 3, 4] [] ?_; exact TE.backP ⟨n_7, x_8⟩ () (Option.some.inj H5).symm (Env.cv (Env.cv (Env.cv (Env.le_nil _)))) (Less.nil _)
    · replace H5 := cF H5 hc
      refine TC.exit ?_; refine TE.then_exit ?_; refine TE.then_exit ?_; refine TE.inBlock_here ?_; exact TE.cutP n_3 () (he5 _ (Option.some.inj H5).symm).symm (Env.cv (Env.le_nil _)) (Less.nil _)
  rintro n_1 ⟨⟩ hp
  replace hp := hp.symm
  subst hp
  refine TE.then ?_; refine TC.kp [3] [] ?_; refine TC.seqS ?_; refine TS.s OpY.move rfl ?_; refine TS.s OpY.assign rfl ?_; refine TS.nil ?_; refine TE.then ?_; refine TC.kp [2] [] ?_; refine TC.ret ?_
  obtain rfl := (Option.some.inj H)
  exact TE.ret1 rfl Cv.le
def bywayref07_Read_l1 (b0 : (List UInt8)) (none_3 : Page) (i_16 : Int) : Option (Int ⊕ (Unit ⊕ (Page × Int))) :=
  (subI (b0.length : Int) (4 : Int)).bind fun x_18 => bif (decide (i_16 < x_18)) then ((idx b0 i_16).bind fun x_19 => bif (decide (x_19 ≠ (UInt8.ofNat 0))) then (some (.inr (.inr (none_3, (2 : Int))))) else ((addI i_16 (1 : Int)).bind fun x_21 => some (.inl x_21))) else (some (.inr (.inl ())))
def bywayref07_Read (b0 : (List UInt8)) : Option (Page × Int) :=
  (some ((⟨0, 0, 0, []⟩ : Page) : Page)).bind fun none_3 => bif ((decide ((b0.length : Int) < (24 : Int))) || (decide ((b0.length : Int) > (256 : Int)))) then (some (none_3, (3 : Int))) else ((bywayref07_Blank b0).bind fun x_4 => bif x_4 then (some (none_3, (0 : Int))) else ((bywayref05_Open b0).bind fun r_5 => bif (decide (r_5.2 ≠ (0 : Int))) then (some (none_3, (4 : Int))) else ((idx b0 (8 : Int)).bind fun x_6 => (mulI (256 : Int) (x_6.toNat : Int)).bind fun x_7 => (idx b0 (9 : Int)).bind fun x_8 => (addI x_7 (x_8.toNat : Int)).bind fun x_9 => (idx b0 (0 : Int)).bind fun x_10 => (gb (decide (x_10 ≠ (UInt8.ofNat 1))) (idx b0 (0 : Int))).bind fun x_11 => (gb (!((decide (x_10 ≠ (UInt8.ofNat 1))) && (decide (x_11 ≠ (UInt8.ofNat 2))))) (idx b0 (1 : Int))).bind fun x_12 => (gb (!(((decide (x_10 ≠ (UInt8.ofNat 1))) && (decide (x_11 ≠ (UInt8.ofNat 2)))) || (decide ((UInt8.ofNat 63) < x_12)))) (subI (b0.length : Int) (16 : Int))).bind fun x_13 => bif ((((decide (x_10 ≠ (UInt8.ofNat 1))) && (decide (x_11 ≠ (UInt8.ofNat 2)))) || (decide ((UInt8.ofNat 63) < x_12))) || (decide (x_9 > x_13))) then (some (none_3, (2 : Int))) else ((addI (10 : Int) x_9).bind fun x_14 => (loopO (fun s => bywayref07_Read_l1 b0 none_3 s) x_14).bind fun o_15 => elS o_15 (fun _ => (idx b0 (0 : Int)).bind fun x_22 => (idx b0 (1 : Int)).bind fun x_23 => (cut b0.length (2 : Int) (8 : Int)).bind fun u_24 => (bywayref05_Get ((b0.take (Int.toNat (8 : Int))).drop (Int.toNat (2 : Int)))).bind fun x_25 => (addI (10 : Int) x_9).bind fun x_26 => (cut b0.length (10 : Int) x_26).bind fun u_27 => (some ((⟨(x_22.toNat : Int), (x_23.toNat : Int), x_25, ((b0.take (Int.toNat x_26)).drop (Int.toNat (10 : Int)))⟩ : Page) : Page)).bind fun k_28 => some (k_28, (0 : Int))) (fun q => some q)))))
theorem bywayref07_Read_c {A : Nat → Prop} {b0 : (List UInt8)}  {r : (Page × Int)} (w : World) (v0 : Value) (hA : ∀ k, w.heap.size ≤ k → A k)  (h0 : (D (b0 : (List UInt8))).p A w v0) (H : bywayref07_Read b0 = some r) :
    Calls Try.prog 29 #[v0] w (Ret A w (Tup [D (r.1 : Page), D (r.2 : Int)])) := by
  unfold bywayref07_Read at H
  refine enter1 hA Try.func29 rfl Try.ntmps29 rfl h0 ?_; refine TC.seqS ?_; refine TS.alloc (α := Page) rfl fun b2_0 => ?_; refine TS.s OpY.assign rfl ?_; refine TS.nil ?_; refine TE.then ?_; refine TC.kp [0, 2] [b2_0] ?_; refine TC.seqS ?_; refine TS.s (OpY.buildAs (⟨0, 0, 0, []⟩ : Page) rfl ⟨_, Try.underlying53, by kernel_rfl⟩ rfl rfl) rfl ?_; refine TS.alloc (α := Page) rfl fun b4_1 => ?_; refine TS.un (OpT.storeq (y := ((⟨0, 0, 0, []⟩ : Page) : Page)) Pl.one) ?_; refine TS.nil ?_; refine TE.then ?_; refine TC.kp [0, 2, 4] [b2_0, b4_1] ?_
  obtain ⟨none_3, enone_3, H⟩ := bnd H
  refine TC.nmB b4_1 (nm_one enone_3) ?_; refine TC.seq ?_; refine TC.seqS ?_; refine TS.s OpY.move rfl ?_; refine TS.s OpD.len rfl ?_; refine TS.s OpY.lss rfl ?_; refine TS.s OpY.move rfl ?_; refine TS.g 13 rfl (fun hg => OpY.move) rfl ?_; refine TS.g 13 rfl (fun hg => OpD.len) rfl ?_; refine TS.g 13 rfl (fun hg => OpY.gtr) rfl ?_; refine TS.s OpY.pickOr rfl ?_; refine TS.nil ?_; refine TE.then ?_; refine TC.kp [0, 2, 4, 17] [b2_0, b4_1] ?_; refine TC.cond (fun hc => ?_) (fun hc => ?_)
  · replace H := cT H hc
    refine TC.seqS ?_; refine TS.s (OpD.ldq Pl.one) rfl ?_; refine TS.un (OpT.storeq (y := (none_3 : Page)) Pl.one) ?_; refine TS.s OpY.assign rfl ?_; refine TS.nil ?_; refine TE.then ?_; refine TC.kp [2, 3] [b2_0] ?_; refine TC.ret ?_; refine TE.then_ret ?_
    obtain rfl := (Option.some.inj H)
    exact TE.retN rfl rfl (.cons Cv.le (.cons Cv.le .nil))
  · replace H := cF H hc
    refine TC.skip ?_; refine TE.then ?_; refine TC.kp [0, 2, 4] [b2_0, b4_1] ?_; refine TC.seq ?_; refine TC.seqS ?_; refine TS.s OpY.move rfl ?_
    obtain ⟨x_4, ex_4, H⟩ := bnd H
    refine TS.s (OpY.call1 fun w v0 hA h0 => bywayref07_Blank_c w v0 hA (toD h0) ex_4) rfl ?_; refine TS.nil ?_; refine TE.then ?_; refine TC.kp [0, 2, 4, 20] [b2_0, b4_1] ?_; refine TC.cond (fun hc => ?_) (fun hc => ?_)
    · replace H := cT H hc
      refine TC.seqS ?_; refine TS.s (OpD.ldq Pl.one) rfl ?_; refine TS.un (OpT.storeq (y := (none_3 : Page)) Pl.one) ?_; refine TS.s OpY.assign rfl ?_; refine TS.nil ?_; refine TE.then ?_; refine TC.kp [2, 3] [b2_0] ?_; refine TC.ret ?_; refine TE.then_ret ?_
      obtain rfl := (Option.some.inj H)
      exact TE.retN rfl rfl (.cons Cv.le (.cons Cv.le .nil))
    · replace H := cF H hc
      refine TC.skip ?_; refine TE.then ?_; refine TC.kp [0, 2, 4] [b2_0, b4_1] ?_; refine TC.seqS ?_; refine TS.s OpY.move rfl ?_
      obtain ⟨r_5, er_5, H⟩ := bnd H
      refine TS.s (OpY.call1 fun w v0 hA h0 => bywayref05_Open_c w v0 hA (toD h0) er_5) rfl ?_; refine TS.s OpY.move rfl ?_; refine TS.s (OpY.extract rfl) rfl ?_; refine TS.s (OpY.extract rfl) rfl ?_; refine TS.s OpY.assign rfl ?_; refine TS.s OpY.assign rfl ?_; refine TS.nil ?_; refine TE.then ?_; refine TC.kp [0, 2, 4, 6] [b2_0, b4_1] ?_; refine TC.seq ?_; refine TC.seqS ?_; refine TS.s OpY.move rfl ?_; refine TS.s OpY.neq rfl ?_; refine TS.nil ?_; refine TE.then ?_; refine TC.kp [0, 2, 4, 28] [b2_0, b4_1] ?_; refine TC.cond (fun hc => ?_) (fun hc => ?_)
      · replace H := cT H hc
        refine TC.seqS ?_; refine TS.s (OpD.ldq Pl.one) rfl ?_; refine TS.un (OpT.storeq (y := (none_3 : Page)) Pl.one) ?_; refine TS.s OpY.assign rfl ?_; refine TS.nil ?_; refine TE.then ?_; refine TC.kp [2, 3] [b2_0] ?_; refine TC.ret ?_; refine TE.then_ret ?_
        obtain rfl := (Option.some.inj H)
        exact TE.retN rfl rfl (.cons Cv.le (.cons Cv.le .nil))
      · replace H := cF H hc
        refine TC.skip ?_; refine TE.then ?_; refine TC.kp [0, 2, 4] [b2_0, b4_1] ?_; refine TC.seqD0 mix (by kernel_rfl) ?_; refine TR.s OpY.move rfl ?_
        obtain ⟨x_6, ex_6, H⟩ := bnd H
        refine TR.s (OpD.index ex_6) rfl ?_; refine TR.s OpY.load rfl ?_; refine TR.s OpD.conv8_i rfl ?_
        obtain ⟨x_7, ex_7, H⟩ := bnd H
        refine TR.s (OpD.mul ex_7) rfl ?_; refine TR.s OpY.move rfl ?_
        obtain ⟨x_8, ex_8, H⟩ := bnd H
        refine TR.s (OpD.index ex_8) rfl ?_; refine TR.s OpY.load rfl ?_; refine TR.s OpD.conv8_i rfl ?_
        obtain ⟨x_9, ex_9, H⟩ := bnd H
        refine TR.s (OpD.add ex_9) rfl ?_; refine TR.s OpY.assign rfl ?_; refine TR.nil ?_; refine TC.kp [0, 2, 4, 7] [b2_0, b4_1] ?_; refine TC.seq ?_; refine TC.seqS ?_; refine TS.s OpY.move rfl ?_
        obtain ⟨x_10, ex_10, H⟩ := bnd H
        refine TS.s (OpD.index ex_10) rfl ?_; refine TS.s OpY.load rfl ?_; refine TS.s OpY.neq8 rfl ?_; refine TS.s OpY.move rfl ?_; refine TS.g 44 rfl (fun hg => OpY.move) rfl ?_
        obtain ⟨x_11, ex_11, H⟩ := bnd H
        refine TS.g 44 rfl (fun hg => (OpD.index (gb_some ex_11 hg.h))) rfl ?_; refine TS.g 44 rfl (fun hg => OpY.load) rfl ?_; refine TS.g 44 rfl (fun hg => OpY.neq8) rfl ?_; refine TS.s OpY.pickAnd rfl ?_; refine TS.s OpY.move rfl ?_; refine TS.g 50 rfl (fun hg => OpY.move) rfl ?_
        obtain ⟨x_12, ex_12, H⟩ := bnd H
        refine TS.g 50 rfl (fun hg => (OpD.index (gb_some ex_12 (nF hg.h)))) rfl ?_; refine TS.g 50 rfl (fun hg => OpY.load) rfl ?_; refine TS.g 50 rfl (fun hg => OpY.gtr8) rfl ?_; refine TS.s OpY.pickOr rfl ?_; refine TS.s OpY.move rfl ?_; refine TS.g 56 rfl (fun hg => OpY.move) rfl ?_; refine TS.g 56 rfl (fun hg => OpY.move) rfl ?_; refine TS.g 56 rfl (fun hg => OpD.len) rfl ?_
        obtain ⟨x_13, ex_13, H⟩ := bnd H
        refine TS.g 56 rfl (fun hg => (OpD.sub (gb_some ex_13 (nF hg.h)))) rfl ?_; refine TS.g 56 rfl (fun hg => OpY.gtr) rfl ?_; refine TS.s OpY.pickOr rfl ?_; refine TS.nil ?_; refine TE.then ?_; refine TC.kp [0, 2, 4, 7, 62] [b2_0, b4_1] ?_; refine TC.cond (fun hc => ?_) (fun hc => ?_)
        · replace H := cT H hc
          refine TC.seqS ?_; refine TS.s (OpD.ldq Pl.one) rfl ?_; refine TS.un (OpT.storeq (y := (none_3 : Page)) Pl.one) ?_; refine TS.s OpY.assign rfl ?_; refine TS.nil ?_; refine TE.then ?_; refine TC.kp [2, 3] [b2_0] ?_; refine TC.ret ?_; refine TE.then_ret ?_
          obtain rfl := (Option.some.inj H)
          exact TE.retN rfl rfl (.cons Cv.le (.cons Cv.le .nil))
        · replace H := cF H hc
          refine TC.skip ?_; refine TE.then ?_; refine TC.kp [0, 2, 4, 7] [b2_0, b4_1] ?_; refine TC.seq ?_; refine TC.seqS ?_; refine TS.s OpY.move rfl ?_
          obtain ⟨x_14, ex_14, H⟩ := bnd H
          refine TS.s (OpD.add ex_14) rfl ?_; refine TS.s OpY.assign rfl ?_; refine TS.nil ?_; refine TE.then ?_; refine TC.kp [0, 2, 4, 7, 8] [b2_0, b4_1] ?_
          obtain ⟨o_15, H15, H⟩ := bnd H
          refine TC.cutP (fun s : Unit => o_15 = .inl s) (fun (_ : Unit) (_ : Unit) => (Env.set (Env.set (Env.set Env.nil 0 (D (b0 : (List UInt8)))) 2 (Pt b2_0 0)) 7 (D (x_9 : Int)))) (fun (_ : Unit) (_ : Unit) => [⟨b2_0, True, (One (Dat.z : Page))⟩]) ?_ ?_
          · skip
            refine TC.block ?_; refine TC.loopP H15 (fun (i_16 : Int) (_ : Unit) => (Env.set (Env.set (Env.set (Env.set (Env.set Env.nil 0 (D (b0 : (List UInt8)))) 2 (Pt b2_0 0)) 4 (Pt b4_1 0)) 7 (D (x_9 : Int))) 8 (D (i_16 : Int)))) (fun (i_16 : Int) (_ : Unit) => [⟨b2_0, True, (One (Dat.z : Page))⟩, ⟨b4_1, True, (One (none_3 : Page))⟩]) () (Env.cv (Env.cv (Env.cv (Env.cv (Env.cv (Env.le_nil _)))))) (Less.pk rfl (Less.pk rfl (Less.nil _))) ?_
            rintro i_16 ⟨⟩ x_17 H17 he17
            replace H17 : bywayref07_Read_l1 b0 none_3 i_16 = some x_17 := H17
            unfold bywayref07_Read_l1 at H17
            refine TC.seq ?_; refine TC.seqS ?_; refine TS.s OpY.move rfl ?_; refine TS.s OpY.move rfl ?_; refine TS.s OpD.len rfl ?_
            obtain ⟨x_18, ex_18, H17⟩ := bnd H17
            refine TS.s (OpD.sub ex_18) rfl ?_; refine TS.s OpY.lss rfl ?_; refine TS.nil ?_; refine TE.then ?_; refine TC.kp [0, 2, 4, 7, 8, 70] [b2_0, b4_1] ?_; refine TC.cond (fun hc => ?_) (fun hc => ?_)
            · replace H17 := cT H17 hc
              refine TC.skip ?_; refine TE.then ?_; refine TC.kp [0, 2, 4, 7, 8] [b2_0, b4_1] ?_; refine TC.seq ?_; refine TC.block ?_; refine TC.seqS ?_; refine TS.s OpY.move rfl ?_; refine TS.s OpY.move rfl ?_
              obtain ⟨x_19, ex_19, H17⟩ := bnd H17
              refine TS.s (OpD.index ex_19) rfl ?_; refine TS.s OpY.load rfl ?_; refine TS.s OpY.neq8 rfl ?_; refine TS.nil ?_; refine TE.then ?_; refine TC.kp [0, 2, 4, 7, 8, 77] [b2_0, b4_1] ?_; refine TC.cond (fun hc => ?_) (fun hc => ?_)
              · replace H17 := cT H17 hc
                refine TC.seqS ?_; refine TS.s (OpD.ldq Pl.one) rfl ?_; refine TS.un (OpT.storeq (y := (none_3 : Page)) Pl.one) ?_; refine TS.s OpY.assign rfl ?_; refine TS.nil ?_; refine TE.then ?_; refine TC.kp [2, 3] [b2_0] ?_; refine TC.ret ?_; refine TE.inBlock_ret ?_; refine TE.then_ret ?_; refine TE.then_ret ?_; refine TE.inBlock_ret ?_; refine TE.cut_ret ?_
                have R19 := elS_r (he17 _ (Option.some.inj H17).symm) H
                refine TE.then_ret ?_
                obtain rfl := (Option.some.inj R19)
                exact TE.retN rfl rfl (.cons Cv.le (.cons Cv.le .nil))
              · replace H17 := cF H17 hc
                refine TC.skip ?_; refine TE.inBlock_normal ?_; refine TE.then ?_; refine TC.kp [0, 2, 4, 7, 8] [b2_0, b4_1] ?_; refine TC.regionS ?_; refine TS.s OpY.move rfl ?_
                obtain ⟨x_21, ex_21, H17⟩ := bnd H17
                refine TS.s (OpD.add ex_21) rfl ?_; refine TS.s OpY.assign rfl ?_; refine TS.nil ?_; refine TE.kp [0, 2, 4, 7, 8] [b2_0, b4_1] ?_; exact TE.backP x_21 () (Option.some.inj H17).symm (Env.cv (Env.cv (Env.cv (Env.cv (Env.cv (Env.le_nil _)))))) (Less.pk rfl (Less.pk rfl (Less.nil _)))
            · replace H17 := cF H17 hc
              refine TC.exit ?_; refine TE.then_exit ?_; refine TE.then_exit ?_; refine TE.inBlock_here ?_; exact TE.cutP () () (he17 _ (Option.some.inj H17).symm).symm (Env.cv (Env.cv (Env.cv (Env.le_nil _)))) (Less.pk rfl (Less.nil _))
          rintro ⟨⟩ ⟨⟩ hp
          replace H := elS_l hp H
          refine TE.then ?_; refine TC.kp [0, 2, 7] [b2_0] ?_; refine TC.seqD [16] [b2_0] mix (by kernel_rfl) (by kernel_rfl) ?_; refine TR.s OpY.move rfl ?_
          obtain ⟨x_22, ex_22, H⟩ := bnd H
          refine TR.s (OpD.index ex_22) rfl ?_; refine TR.s OpY.load rfl ?_; refine TR.s OpD.conv8_i rfl ?_; refine TR.s OpY.move rfl ?_
          obtain ⟨x_23, ex_23, H⟩ := bnd H
          refine TR.s (OpD.index ex_23) rfl ?_; refine TR.s OpY.load rfl ?_; refine TR.s OpD.conv8_i rfl ?_; refine TR.s OpY.move rfl ?_
          obtain ⟨u_24, eu_24, H⟩ := bnd H
          refine TR.s (OpD.slice2 eu_24) rfl ?_
          obtain ⟨x_25, ex_25, H⟩ := bnd H
          refine TR.s (OpY.call1 fun w v0 hA h0 => bywayref05_Get_c w v0 hA (toD h0) ex_25) rfl ?_; refine TR.s OpY.move rfl ?_; refine TR.s OpY.move rfl ?_
          obtain ⟨x_26, ex_26, H⟩ := bnd H
          refine TR.s (OpD.add ex_26) rfl ?_
          obtain ⟨u_27, eu_27, H⟩ := bnd H
          refine TR.s (OpD.slice2 eu_27) rfl ?_; refine TR.s (OpY.buildAs (⟨(x_22.toNat : Int), (x_23.toNat : Int), x_25, ((b0.take (Int.toNat x_26)).drop (Int.toNat (10 : Int)))⟩ : Page) rfl ⟨_, Try.underlying53, by kernel_rfl⟩ rfl rfl) rfl ?_; refine TR.tn (fun g => (OpT.storeq (y := ((⟨(x_22.toNat : Int), (x_23.toNat : Int), x_25, ((b0.take (Int.toNat x_26)).drop (Int.toNat (10 : Int)))⟩ : Page) : Page)) Pl.one)) rfl ?_; refine TR.s OpY.assign rfl ?_; refine TR.nil ?_
          rintro ⟨_, _⟩
          dsimp only [Fam.nextS, Fam.nextN, Fam.one, List.cons_append, List.nil_append]
          refine TC.kp [2, 3] [b2_0] ?_
          obtain ⟨k_28, ek_28, H⟩ := bnd H
          refine TC.nmB b2_0 (nm_one ek_28) ?_; refine TC.ret ?_
          obtain rfl := (Option.some.inj H)
          exact TE.retN rfl rfl (.cons Cv.le (.cons Cv.le .nil))
def root_Most (size0 : Int) : Option Int :=
  (page_Room size0).bind fun x_1 => (quoI x_1 (2 : Int)).bind fun x_2 => some (min (64 : Int) x_2)
theorem root_Most_c {A : Nat → Prop} {size0 : Int}  {r : Int} (w : World) (v0 : Value) (hA : ∀ k, w.heap.size ≤ k → A k)  (h0 : (D (size0 : Int)).p A w v0) (H : root_Most size0 = some r) :
    Calls Try.prog 47 #[v0] w (Ret A w (D (r : Int))) := by
  unfold root_Most at H
  refine enter1 hA Try.func47 rfl Try.ntmps47 rfl h0 ?_; refine TC.seqS ?_; refine TS.s OpY.assign rfl ?_; refine TS.nil ?_; refine TE.then ?_; refine TC.kp [0] [] ?_; refine TC.seqS ?_; refine TS.s OpY.move rfl ?_
  obtain ⟨x_1, ex_1, H⟩ := bnd H
  refine TS.s (OpY.call1 fun w v0 hA h0 => page_Room_c w v0 hA (toD h0) ex_1) rfl ?_
  obtain ⟨x_2, ex_2, H⟩ := bnd H
  refine TS.s (OpD.quo ex_2) rfl ?_; refine TS.s OpD.min rfl ?_; refine TS.s OpY.assign rfl ?_; refine TS.nil ?_; refine TE.then ?_; refine TC.kp [2] [] ?_; refine TC.ret ?_
  obtain rfl := (Option.some.inj H)
  exact TE.ret1 rfl Cv.le
def root_May_l1 (r0 : Roots) (x_5 : Int) : Option (Int ⊕ (Unit ⊕ Bool)) :=
  bif (decide (x_5 < (r0.At.length : Int))) then ((idx r0.At x_5).bind fun x_7 => bif ((decide (x_7 < (0 : Int))) || (decide (x_7 > (65535 : Int)))) then (some (.inr (.inr false))) else ((addI x_5 (1 : Int)).bind fun x_9 => some (.inl x_9))) else (some (.inr (.inl ())))
def root_May (r0 : Roots) (size0 : Int) : Option Bool :=
  (page_Room size0).bind fun x_2 => (gb (!((decide (x_2 = (0 : Int))) || (decide ((UInt64.ofNat 281474976710656) ≤ r0.Gen)))) (root_Most size0)).bind fun x_3 => bif (((decide (x_2 = (0 : Int))) || (decide ((UInt64.ofNat 281474976710656) ≤ r0.Gen))) || (decide ((r0.At.length : Int) > x_3))) then (some false) else ((loopO (fun s => root_May_l1 r0 s) (0 : Int)).bind fun o_4 => elS o_4 (fun _ => some true) (fun q => some q))
theorem root_May_c {A : Nat → Prop} {r0 : Roots} {size0 : Int}  {r : Bool} (w : World) (v0 v1 : Value) (hA : ∀ k, w.heap.size ≤ k → A k)  (h0 : (D (r0 : Roots)).p A w v0) (h1 : (D (size0 : Int)).p A w v1) (H : root_May r0 size0 = some r) :
    Calls Try.prog 43 #[v0, v1] w (Ret A w (D (r : Bool))) := by
  unfold root_May at H
  refine enter2 hA Try.func43 rfl Try.ntmps43 rfl h0 h1 ?_; refine TC.seqS ?_; refine TS.box rfl fun b2_0 => ?_; refine TS.s OpY.assign rfl ?_; refine TS.nil ?_; refine TE.then ?_; refine TC.kp [1, 2] [b2_0] ?_; refine TC.seq ?_; refine TC.seqD0 mix (by kernel_rfl) ?_; refine TR.s OpY.move rfl ?_
  obtain ⟨x_2, ex_2, H⟩ := bnd H
  refine TR.s (OpY.call1 fun w v0 hA h0 => page_Room_c w v0 hA (toD h0) ex_2) rfl ?_; refine TR.s OpY.eql rfl ?_; refine TR.s OpY.move rfl ?_; refine TR.g 10 rfl (fun hg => OpY.fieldAddr) rfl ?_; refine TR.g 10 rfl (fun hg => (OpD.ldq (Pl.fld (off := 0) (α := Roots) (β := UInt64) Pl.one))) rfl ?_; refine TR.g 10 rfl (fun hg => OpY.geq64) rfl ?_; refine TR.s OpY.pickOr rfl ?_; refine TR.s OpY.move rfl ?_; refine TR.g 15 rfl (fun hg => OpY.fieldAddr) rfl ?_; refine TR.g 15 rfl (fun hg => (OpD.ldq (Pl.fld (off := 1) (α := Roots) (β := (List Int)) Pl.one))) rfl ?_; refine TR.g 15 rfl (fun hg => OpD.len) rfl ?_; refine TR.g 15 rfl (fun hg => OpY.move) rfl ?_
  obtain ⟨x_3, ex_3, H⟩ := bnd H
  refine TR.g 15 rfl (fun hg => (OpY.call1 fun w v0 hA h0 => root_Most_c w v0 hA (toD h0) (gb_some ex_3 (nF hg.h)))) rfl ?_; refine TR.g 15 rfl (fun hg => OpY.gtr) rfl ?_; refine TR.s OpY.pickOr rfl ?_; refine TR.nil ?_; refine TC.kp [2, 22] [b2_0] ?_; refine TC.cond (fun hc => ?_) (fun hc => ?_)
  · replace H := cT H hc
    refine TC.seqS ?_; refine TS.s OpY.assign rfl ?_; refine TS.nil ?_; refine TE.then ?_; refine TC.kp [4] [] ?_; refine TC.ret ?_; refine TE.then_ret ?_
    obtain rfl := (Option.some.inj H)
    exact TE.ret1 rfl Cv.le
  · replace H := cF H hc
    refine TC.skip ?_; refine TE.then ?_; refine TC.kp [2] [b2_0] ?_; refine TC.seq ?_; refine TC.seqS ?_; refine TS.s OpY.fieldAddr rfl ?_; refine TS.s (OpD.ldq (Pl.fld (off := 1) (α := Roots) (β := (List Int)) Pl.one)) rfl ?_; refine TS.s OpD.len rfl ?_; refine TS.s OpY.move rfl ?_; refine TS.nil ?_; refine TE.then ?_; refine TC.kp [24, 25, 26] [] ?_
    obtain ⟨o_4, H4, H⟩ := bnd H
    refine TC.cutP (fun s : Unit => o_4 = .inl s) (fun (_ : Unit) (_ : Unit) => Env.nil) (fun (_ : Unit) (_ : Unit) => []) ?_ ?_
    · skip
      refine TC.block ?_; refine TC.loopP H4 (fun (x_5 : Int) (_ : Unit) => (Env.set (Env.set (Env.set Env.nil 24 (D (r0.At : (List Int)))) 25 (D ((r0.At.length : Int) : Int))) 26 (D (x_5 : Int)))) (fun (x_5 : Int) (_ : Unit) => []) () (Env.cv (Env.cv (Env.cv (Env.le_nil _)))) (Less.nil _) ?_
      rintro x_5 ⟨⟩ x_6 H6 he6
      replace H6 : root_May_l1 r0 x_5 = some x_6 := H6
      unfold root_May_l1 at H6
      refine TC.seqS ?_; refine TS.s OpY.lss rfl ?_; refine TS.nil ?_; refine TE.then ?_; refine TC.kp [24, 25, 26, 27] [] ?_; refine TC.seq ?_; refine TC.cond (fun hc => ?_) (fun hc => ?_)
      · replace H6 := cT H6 hc
        refine TC.skip ?_; refine TE.then ?_; refine TC.kp [24, 25, 26] [] ?_; refine TC.seq ?_; refine TC.block ?_; refine TC.seqS ?_
        obtain ⟨x_7, ex_7, H6⟩ := bnd H6
        refine TS.s (OpD.index ex_7) rfl ?_; refine TS.s OpY.load rfl ?_; refine TS.s OpY.assign rfl ?_; refine TS.nil ?_; refine TE.then ?_; refine TC.kp [6, 24, 25, 26] [] ?_; refine TC.seqS ?_; refine TS.s OpY.move rfl ?_; refine TS.s OpY.lss rfl ?_; refine TS.s OpY.move rfl ?_; refine TS.g 32 rfl (fun hg => OpY.move) rfl ?_; refine TS.g 32 rfl (fun hg => OpY.gtr) rfl ?_; refine TS.s OpY.pickOr rfl ?_; refine TS.nil ?_; refine TE.then ?_; refine TC.kp [24, 25, 26, 35] [] ?_; refine TC.cond (fun hc => ?_) (fun hc => ?_)
        · replace H6 := cT H6 hc
          refine TC.seqS ?_; refine TS.s OpY.assign rfl ?_; refine TS.nil ?_; refine TE.then ?_; refine TC.kp [4] [] ?_; refine TC.ret ?_; refine TE.inBlock_ret ?_; refine TE.then_ret ?_; refine TE.then_ret ?_; refine TE.inBlock_ret ?_; refine TE.cut_ret ?_
          have R7 := elS_r (he6 _ (Option.some.inj H6).symm) H
          refine TE.then_ret ?_
          obtain rfl := (Option.some.inj R7)
          exact TE.ret1 rfl Cv.le
        · replace H6 := cF H6 hc
          refine TC.skip ?_; refine TE.inBlock_normal ?_; refine TE.then ?_; refine TC.kp [24, 25, 26] [] ?_; refine TC.regionS ?_
          obtain ⟨x_9, ex_9, H6⟩ := bnd H6
          refine TS.s (OpD.add ex_9) rfl ?_; refine TS.s OpY.move rfl ?_; refine TS.nil ?_; refine TE.kp [24, 25, 26] [] ?_; exact TE.backP x_9 () (Option.some.inj H6).symm (Env.cv (Env.cv (Env.cv (Env.le_nil _)))) (Less.nil _)
      · replace H6 := cF H6 hc
        refine TC.exit ?_; refine TE.then_exit ?_; refine TE.then_exit ?_; refine TE.inBlock_here ?_; exact TE.cutP () () (he6 _ (Option.some.inj H6).symm).symm (Env.le_nil _) (Less.nil _)
    rintro ⟨⟩ ⟨⟩ hp
    replace H := elS_l hp H
    refine TE.then ?_; refine TC.kp [] [] ?_; refine TC.seqS ?_; refine TS.s OpY.assign rfl ?_; refine TS.nil ?_; refine TE.then ?_; refine TC.kp [4] [] ?_; refine TC.ret ?_
    obtain rfl := (Option.some.inj H)
    exact TE.ret1 rfl Cv.le
def root_Put_l1 (r0 : Roots) (x_10 : Int) (l_12 : (List UInt8)) : Option ((Int × (List UInt8)) ⊕ (List UInt8)) :=
  bif (decide (x_10 < (r0.At.length : Int))) then ((idx r0.At x_10).bind fun x_14 => (shrI x_14 8).bind fun x_15 => (room 1 ((l_12.length + ([(UInt8.ofInt x_15), (UInt8.ofInt x_14)] : List UInt8).length : Nat) : Int)).bind fun u_17 => (some ((l_12 ++ ([(UInt8.ofInt x_15), (UInt8.ofInt x_14)] : List UInt8)) : (List UInt8))).bind fun l_18 => (addI x_10 (1 : Int)).bind fun x_19 => some (.inl (x_19, l_18))) else (some (.inr l_12))
def root_Put (r0 : Roots) (size0 : Int) : Option ((List UInt8) × Int) :=
  (root_May r0 size0).bind fun x_2 => bif (!x_2) then (some (([] : List UInt8), (1 : Int))) else ((subI (r0.At.length : Int) (1 : Int)).bind fun x_3 => (some ((⟨(2 : Int), (max (0 : Int) x_3), r0.Gen, []⟩ : Page) : Page)).bind fun p_5 => (some (([] : List UInt8) : (List UInt8))).bind fun l_6 => (loopO (fun s => root_Put_l1 r0 s.1 s.2) ((0 : Int), l_6)).bind fun l_8 => (page_Put (⟨p_5.Kind, p_5.Id, p_5.Gen, l_8⟩ : Page) size0).bind fun r_20 => some (r_20.1, r_20.2))
theorem root_Put_c {A : Nat → Prop} {r0 : Roots} {size0 : Int}  {r : ((List UInt8) × Int)} (w : World) (v0 v1 : Value) (hA : ∀ k, w.heap.size ≤ k → A k)  (h0 : (D (r0 : Roots)).p A w v0) (h1 : (D (size0 : Int)).p A w v1) (H : root_Put r0 size0 = some r) :
    Calls Try.prog 42 #[v0, v1] w (Ret A w (Tup [D (r.1 : (List UInt8)), D (r.2 : Int)])) := by
  unfold root_Put at H
  refine enter2 hA Try.func42 rfl Try.ntmps42 rfl h0 h1 ?_; refine TC.seqS ?_; refine TS.box rfl fun b2_0 => ?_; refine TS.s OpY.assign rfl ?_; refine TS.s OpY.assign rfl ?_; refine TS.nil ?_; refine TE.then ?_; refine TC.kp [1, 2] [b2_0] ?_; refine TC.seq ?_; refine TC.seqS ?_; refine TS.s (OpD.ldq Pl.one) rfl ?_; refine TS.s OpY.move rfl ?_
  obtain ⟨x_2, ex_2, H⟩ := bnd H
  refine TS.s (OpY.call2 fun w v0 v1 hA h0 h1 => root_May_c w v0 v1 hA (toD h0) (toD h1) ex_2) rfl ?_; refine TS.s OpY.notB rfl ?_; refine TS.nil ?_; refine TE.then ?_; refine TC.kp [1, 2, 12] [b2_0] ?_; refine TC.cond (fun hc => ?_) (fun hc => ?_)
  · replace H := cT H hc
    refine TC.seqS ?_; refine TS.s OpY.assign rfl ?_; refine TS.s OpY.assign rfl ?_; refine TS.nil ?_; refine TE.then ?_; refine TC.kp [4, 5] [] ?_; refine TC.ret ?_; refine TE.then_ret ?_
    obtain rfl := (Option.some.inj H)
    exact TE.retN rfl rfl (.cons Cv.le (.cons Cv.le .nil))
  · replace H := cF H hc
    refine TC.skip ?_; refine TE.then ?_; refine TC.kp [1, 2] [b2_0] ?_; refine TC.seqS ?_; refine TS.s OpY.fieldAddr rfl ?_; refine TS.s (OpD.ldq (Pl.fld (off := 1) (α := Roots) (β := (List Int)) Pl.one)) rfl ?_; refine TS.s OpD.len rfl ?_
    obtain ⟨x_3, ex_3, H⟩ := bnd H
    refine TS.s (OpD.sub ex_3) rfl ?_; refine TS.s OpD.max rfl ?_; refine TS.s OpY.fieldAddr rfl ?_; refine TS.s (OpD.ldq (Pl.fld (off := 0) (α := Roots) (β := UInt64) Pl.one)) rfl ?_; refine TS.nilE 0 UInt8 ?_; refine TS.s (OpY.buildZ (ps := _) rfl ⟨_, Try.underlying53, by kernel_rfl⟩ (ZeroC.mix (α := Page) (o := 3) (b := 0) (ZeroC.one (α := Page)) rfl) (PartsC.d (((Pl.mix (Pl.fld (off := 0) (α := Page) (β := Int) Pl.one) (by first | decide | omega))).st _) (PartsC.d (((Pl.mix (Pl.fld (off := 1) (α := Page) (β := Int) Pl.one) (by first | decide | omega))).st _) (PartsC.d (((Pl.mix (Pl.fld (off := 2) (α := Page) (β := UInt64) Pl.one) (by first | decide | omega))).st _) inferInstance)))) rfl ?_; refine TS.alloc (α := Page) rfl fun b6_3 => ?_; refine TS.un (OpT.storeC trivial rfl CtSc.h) ?_; refine TS.nil ?_; refine TE.then ?_; refine TC.kp [1, 2, 6] [b2_0, b6_3, 0] ?_
    obtain ⟨p_5, ep_5, H⟩ := bnd H
    refine TC.nmB b6_3 (nm_mix (nm_one ep_5)) ?_
    obtain ⟨l_6, el_6, H⟩ := bnd H
    refine TC.nmB 0 (nm_row el_6) ?_; refine TC.nmB b6_3 (mix_n (nm_len el_6 (by simp))) ?_; refine TC.seq ?_; refine TC.seqS ?_; refine TS.s OpY.fieldAddr rfl ?_; refine TS.s (OpD.ldq (Pl.fld (off := 1) (α := Roots) (β := (List Int)) Pl.one)) rfl ?_; refine TS.s OpD.len rfl ?_; refine TS.s OpY.move rfl ?_; refine TS.nil ?_; refine TE.then ?_; refine TC.kp [1, 6, 22, 23, 24] [b6_3, 0] ?_
    obtain ⟨o_9, H9, H⟩ := bnd H
    refine TC.cutP (fun s : (List UInt8) => o_9 = s) (fun (l_8 : (List UInt8)) (⟨b_6, p_6, c_6⟩ : Nat × Prop × Nat) => (Env.set (Env.set Env.nil 1 (D (size0 : Int))) 6 (Pt b6_3 0))) (fun (l_8 : (List UInt8)) (⟨b_6, p_6, c_6⟩ : Nat × Prop × Nat) => [⟨b_6, p_6, (Row (l_8 : List UInt8) c_6)⟩, ⟨b6_3, True, (Ct.mix (One (p_5 : Page)) 3 (Sl b_6 p_6 0 l_8.length c_6))⟩]) ?_ ?_
    · skip
      refine TC.block ?_; refine TC.loopP H9 (fun ⟨x_10, l_12⟩ (⟨b_10, p_10, c_10⟩ : Nat × Prop × Nat) => (Env.set (Env.set (Env.set (Env.set (Env.set Env.nil 1 (D (size0 : Int))) 6 (Pt b6_3 0)) 22 (D (r0.At : (List Int)))) 23 (D ((r0.At.length : Int) : Int))) 24 (D (x_10 : Int)))) (fun ⟨x_10, l_12⟩ (⟨b_10, p_10, c_10⟩ : Nat × Prop × Nat) => [⟨b_10, p_10, (Row (l_12 : List UInt8) c_10)⟩, ⟨b6_3, True, (Ct.mix (One (p_5 : Page)) 3 (Sl b_10 p_10 0 l_12.length c_10))⟩]) ⟨0, False, 0⟩ (Env.cv (Env.cv (Env.cv (Env.cv (Env.cv (Env.le_nil _)))))) (Less.pk rfl (Less.pk rfl (Less.nil _))) ?_
      rintro ⟨x_10, l_12⟩ ⟨b_10, p_10, c_10⟩ x_13 H13 he13
      replace H13 : root_Put_l1 r0 x_10 l_12 = some x_13 := H13
      unfold root_Put_l1 at H13
      refine TC.seqS ?_; refine TS.s OpY.lss rfl ?_; refine TS.nil ?_; refine TE.then ?_; refine TC.kp [1, 6, 22, 23, 24, 25] [b6_3, b_10] ?_; refine TC.seq ?_; refine TC.cond (fun hc => ?_) (fun hc => ?_)
      · replace H13 := cT H13 hc
        refine TC.skip ?_; refine TE.then ?_; refine TC.kp [1, 6, 22, 23, 24] [b6_3, b_10] ?_; refine TC.seq ?_; refine TC.block ?_; refine TC.seqS ?_
        obtain ⟨x_14, ex_14, H13⟩ := bnd H13
        refine TS.s (OpD.index ex_14) rfl ?_; refine TS.s OpY.load rfl ?_; refine TS.s OpY.assign rfl ?_; refine TS.nil ?_; refine TE.then ?_; refine TC.kp [1, 6, 8, 22, 23, 24] [b6_3, b_10] ?_; refine TC.regionS ?_; refine TS.s OpY.fieldAddr rfl ?_; refine TS.s (OpD.ldHq CeH.here) rfl ?_; refine TS.s OpY.move rfl ?_
        obtain ⟨x_15, ex_15, H13⟩ := bnd H13
        refine TS.s (OpD.shri ex_15) rfl ?_; refine TS.s OpY.convi_8 rfl ?_; refine TS.s OpY.move rfl ?_; refine TS.s OpY.convi_8 rfl ?_; refine TS.s (OpY.buildSlice [.tmp 32, .tmp 34] rfl rfl (by decide)) rfl ?_
        obtain ⟨u_17, eu_17, H13⟩ := bnd H13
        refine TS.app (ys := ([(UInt8.ofInt x_15), (UInt8.ofInt x_14)] : List UInt8)) inferInstance eu_17 rfl rfl rfl fun b36_15 p36_15 c36_15 => ?_; refine TS.s OpY.fieldAddr rfl ?_; refine TS.un (OpT.storeHq CtH.same) ?_; refine TS.nil ?_; refine TE.kp [1, 6, 22, 23, 24] [b6_3, b36_15] ?_
        obtain ⟨l_18, el_18, H13⟩ := bnd H13
        refine TE.nmB b36_15 (nm_row el_18) ?_; refine TE.nmB b6_3 (mix_n (nm_len el_18 rfl)) ?_; refine TE.inBlock_normal ?_; refine TE.then ?_; refine TC.kp [1, 6, 22, 23, 24] [b6_3, b36_15] ?_; refine TC.regionS ?_
        obtain ⟨x_19, ex_19, H13⟩ := bnd H13
        refine TS.s (OpD.add ex_19) rfl ?_; refine TS.s OpY.move rfl ?_; refine TS.nil ?_; refine TE.kp [1, 6, 22, 23, 24] [b6_3, b36_15] ?_; exact TE.backP ⟨x_19, l_18⟩ ⟨b36_15, p36_15, c36_15⟩ (Option.some.inj H13).symm (Env.cv (Env.cv (Env.cv (Env.cv (Env.cv (Env.le_nil _)))))) (Less.pk rfl (Less.pk rfl (Less.nil _)))
      · replace H13 := cF H13 hc
        refine TC.exit ?_; refine TE.then_exit ?_; refine TE.then_exit ?_; refine TE.inBlock_here ?_; exact TE.cutP l_12 ⟨b_10, p_10, c_10⟩ (he13 _ (Option.some.inj H13).symm).symm (Env.cv (Env.cv (Env.le_nil _))) (Less.pk rfl (Less.pk rfl (Less.nil _)))
    rintro l_8 ⟨b_6, p_6, c_6⟩ hp
    replace hp := hp.symm
    subst hp
    refine TE.then ?_; refine TC.kp [1, 6] [b6_3, b_6] ?_; refine TC.seqS ?_; refine TS.coll b6_3 b_6 (o := 3) (((Pl.fld (off := 3) (α := Page) (β := (List UInt8)) Pl.one)).st (l_8 : List UInt8)) (PubC.sv PlS.all rfl) ?_; refine TS.s (OpD.ldq Pl.one) rfl ?_; refine TS.s OpY.move rfl ?_
    obtain ⟨r_20, er_20, H⟩ := bnd H
    refine TS.s (OpY.call2 fun w v0 v1 hA h0 h1 => page_Put_c w v0 v1 hA (toD h0) (toD h1) er_20) rfl ?_; refine TS.s (OpY.extract rfl) rfl ?_; refine TS.s (OpY.extract rfl) rfl ?_; refine TS.s OpY.assign rfl ?_; refine TS.s OpY.assign rfl ?_; refine TS.nil ?_; refine TE.then ?_; refine TC.kp [4, 5] [] ?_; refine TC.ret ?_
    obtain rfl := (Option.some.inj H)
    exact TE.retN rfl rfl (.cons Cv.le (.cons Cv.le .nil))
def root_Read_l1 (r_2 : (Page × Int)) (x_6 : Int) (x_16 : Int) (l_18 : (List Int)) : Option ((Int × (List Int)) ⊕ (List Int)) :=
  bif (decide (x_16 < x_6)) then ((mulI (2 : Int) x_16).bind fun x_20 => (idx r_2.1.Body x_20).bind fun x_21 => (shlI (x_21.toNat : Int) 8).bind fun x_22 => (mulI (2 : Int) x_16).bind fun x_23 => (addI x_23 (1 : Int)).bind fun x_24 => (idx r_2.1.Body x_24).bind fun x_25 => (orI x_22 (x_25.toNat : Int)).bind fun x_26 => (room 8 ((l_18.length + ([x_26] : List Int).length : Nat) : Int)).bind fun u_28 => (some ((l_18 ++ ([x_26] : List Int)) : (List Int))).bind fun l_29 => (addI x_16 (1 : Int)).bind fun x_30 => some (.inl (x_30, l_29))) else (some (.inr l_18))
def root_Read (b0 : (List UInt8)) : Option (Roots × Int) :=
  (page_Read b0).bind fun r_2 => bif (decide (r_2.2 ≠ (0 : Int))) then ((some ((⟨0, []⟩ : Roots) : Roots)).bind fun k_4 => some (k_4, r_2.2)) else (bif (decide (r_2.1.Kind = (0 : Int))) then ((some ((⟨0, []⟩ : Roots) : Roots)).bind fun k_5 => some (k_5, (6 : Int))) else ((quoI (r_2.1.Body.length : Int) (2 : Int)).bind fun x_6 => (gb (!(decide (r_2.1.Kind ≠ (2 : Int)))) (remI (r_2.1.Body.length : Int) (2 : Int))).bind fun x_7 => (gb (!((decide (r_2.1.Kind ≠ (2 : Int))) || (decide (x_7 ≠ (0 : Int))))) (subI x_6 (1 : Int))).bind fun x_8 => bif (((decide (r_2.1.Kind ≠ (2 : Int))) || (decide (x_7 ≠ (0 : Int)))) || (decide (r_2.1.Id ≠ (max (0 : Int) x_8)))) then ((some ((⟨0, []⟩ : Roots) : Roots)).bind fun k_9 => some (k_9, (2 : Int))) else ((some ((⟨r_2.1.Gen, []⟩ : Roots) : Roots)).bind fun r_11 => (some (([] : List Int) : (List Int))).bind fun l_12 => (loopO (fun s => root_Read_l1 r_2 x_6 s.1 s.2) ((0 : Int), l_12)).bind fun l_14 => (some ((⟨r_11.Gen, l_14⟩ : Roots) : Roots)).bind fun k_31 => some (k_31, (0 : Int)))))
theorem root_Read_c {A : Nat → Prop} {b0 : (List UInt8)}  {r : (Roots × Int)} (w : World) (v0 : Value) (hA : ∀ k, w.heap.size ≤ k → A k)  (h0 : (D (b0 : (List UInt8))).p A w v0) (H : root_Read b0 = some r) :
    Calls Try.prog 44 #[v0] w (Ret A w (Tup [D (r.1 : Roots), D (r.2 : Int)])) := by
  unfold root_Read at H
  refine enter1 hA Try.func44 rfl Try.ntmps44 rfl h0 ?_; refine TC.seqS ?_; refine TS.alloc (α := Roots) rfl fun b2_0 => ?_; refine TS.s OpY.assign rfl ?_; refine TS.nil ?_; refine TE.then ?_; refine TC.kp [0, 2] [b2_0] ?_; refine TC.seqS ?_; refine TS.s OpY.move rfl ?_
  obtain ⟨r_2, er_2, H⟩ := bnd H
  refine TS.s (OpY.call1 fun w v0 hA h0 => page_Read_c w v0 hA (toD h0) er_2) rfl ?_; refine TS.s OpY.move rfl ?_; refine TS.s (OpY.extract rfl) rfl ?_; refine TS.s (OpY.extract rfl) rfl ?_; refine TS.alloc (α := Page) rfl fun b4_2 => ?_; refine TS.un (OpT.storeq (y := (r_2.1 : Page)) Pl.one) ?_; refine TS.s OpY.assign rfl ?_; refine TS.nil ?_; refine TE.then ?_; refine TC.kp [2, 4, 5] [b2_0, b4_2] ?_; refine TC.seq ?_; refine TC.seqS ?_; refine TS.s OpY.move rfl ?_; refine TS.s OpY.neq rfl ?_; refine TS.nil ?_; refine TE.then ?_; refine TC.kp [2, 4, 5, 15] [b2_0, b4_2] ?_; refine TC.cond (fun hc => ?_) (fun hc => ?_)
  · replace H := cT H hc
    refine TC.seqS ?_; refine TS.s (OpY.buildAs (⟨0, []⟩ : Roots) rfl ⟨_, Try.underlying80, by kernel_rfl⟩ rfl rfl) rfl ?_; refine TS.s OpY.move rfl ?_; refine TS.un (OpT.storeq (y := ((⟨0, []⟩ : Roots) : Roots)) Pl.one) ?_; refine TS.s OpY.assign rfl ?_; refine TS.nil ?_; refine TE.then ?_; refine TC.kp [2, 3] [b2_0] ?_
    obtain ⟨k_4, ek_4, H⟩ := bnd H
    refine TC.nmB b2_0 (nm_one ek_4) ?_; refine TC.ret ?_; refine TE.then_ret ?_
    obtain rfl := (Option.some.inj H)
    exact TE.retN rfl rfl (.cons Cv.le (.cons Cv.le .nil))
  · replace H := cF H hc
    refine TC.skip ?_; refine TE.then ?_; refine TC.kp [2, 4] [b2_0, b4_2] ?_; refine TC.seq ?_; refine TC.seqS ?_; refine TS.s OpY.fieldAddr rfl ?_; refine TS.s (OpD.ldq (Pl.fld (off := 0) (α := Page) (β := Int) Pl.one)) rfl ?_; refine TS.s OpY.eql rfl ?_; refine TS.nil ?_; refine TE.then ?_; refine TC.kp [2, 4, 20] [b2_0, b4_2] ?_; refine TC.cond (fun hc => ?_) (fun hc => ?_)
    · replace H := cT H hc
      refine TC.seqS ?_; refine TS.s (OpY.buildAs (⟨0, []⟩ : Roots) rfl ⟨_, Try.underlying80, by kernel_rfl⟩ rfl rfl) rfl ?_; refine TS.un (OpT.storeq (y := ((⟨0, []⟩ : Roots) : Roots)) Pl.one) ?_; refine TS.s OpY.assign rfl ?_; refine TS.nil ?_; refine TE.then ?_; refine TC.kp [2, 3] [b2_0] ?_
      obtain ⟨k_5, ek_5, H⟩ := bnd H
      refine TC.nmB b2_0 (nm_one ek_5) ?_; refine TC.ret ?_; refine TE.then_ret ?_
      obtain rfl := (Option.some.inj H)
      exact TE.retN rfl rfl (.cons Cv.le (.cons Cv.le .nil))
    · replace H := cF H hc
      refine TC.skip ?_; refine TE.then ?_; refine TC.kp [2, 4] [b2_0, b4_2] ?_; refine TC.seqS ?_; refine TS.s OpY.fieldAddr rfl ?_; refine TS.s (OpD.ldq (Pl.fld (off := 3) (α := Page) (β := (List UInt8)) Pl.one)) rfl ?_; refine TS.s OpD.len rfl ?_
      obtain ⟨x_6, ex_6, H⟩ := bnd H
      refine TS.s (OpD.quo ex_6) rfl ?_; refine TS.s OpY.assign rfl ?_; refine TS.nil ?_; refine TE.then ?_; refine TC.kp [2, 4, 6] [b2_0, b4_2] ?_; refine TC.seq ?_; refine TC.seqS ?_; refine TS.s OpY.fieldAddr rfl ?_; refine TS.s (OpD.ldq (Pl.fld (off := 0) (α := Page) (β := Int) Pl.one)) rfl ?_; refine TS.s OpY.neq rfl ?_; refine TS.s OpY.move rfl ?_; refine TS.g 29 rfl (fun hg => OpY.fieldAddr) rfl ?_; refine TS.g 29 rfl (fun hg => (OpD.ldq (Pl.fld (off := 3) (α := Page) (β := (List UInt8)) Pl.one))) rfl ?_; refine TS.g 29 rfl (fun hg => OpD.len) rfl ?_
      obtain ⟨x_7, ex_7, H⟩ := bnd H
      refine TS.g 29 rfl (fun hg => (OpD.rem (gb_some ex_7 (nF hg.h)))) rfl ?_; refine TS.g 29 rfl (fun hg => OpY.neq) rfl ?_; refine TS.s OpY.pickOr rfl ?_; refine TS.s OpY.move rfl ?_; refine TS.g 36 rfl (fun hg => OpY.fieldAddr) rfl ?_; refine TS.g 36 rfl (fun hg => (OpD.ldq (Pl.fld (off := 1) (α := Page) (β := Int) Pl.one))) rfl ?_; refine TS.g 36 rfl (fun hg => OpY.move) rfl ?_
      obtain ⟨x_8, ex_8, H⟩ := bnd H
      refine TS.g 36 rfl (fun hg => (OpD.sub (gb_some ex_8 (nF hg.h)))) rfl ?_; refine TS.g 36 rfl (fun hg => OpD.max) rfl ?_; refine TS.g 36 rfl (fun hg => OpY.neq) rfl ?_; refine TS.s OpY.pickOr rfl ?_; refine TS.nil ?_; refine TE.then ?_; refine TC.kp [2, 4, 6, 43] [b2_0, b4_2] ?_; refine TC.cond (fun hc => ?_) (fun hc => ?_)
      · replace H := cT H hc
        refine TC.seqS ?_; refine TS.s (OpY.buildAs (⟨0, []⟩ : Roots) rfl ⟨_, Try.underlying80, by kernel_rfl⟩ rfl rfl) rfl ?_; refine TS.un (OpT.storeq (y := ((⟨0, []⟩ : Roots) : Roots)) Pl.one) ?_; refine TS.s OpY.assign rfl ?_; refine TS.nil ?_; refine TE.then ?_; refine TC.kp [2, 3] [b2_0] ?_
        obtain ⟨k_9, ek_9, H⟩ := bnd H
        refine TC.nmB b2_0 (nm_one ek_9) ?_; refine TC.ret ?_; refine TE.then_ret ?_
        obtain rfl := (Option.some.inj H)
        exact TE.retN rfl rfl (.cons Cv.le (.cons Cv.le .nil))
      · replace H := cF H hc
        refine TC.skip ?_; refine TE.then ?_; refine TC.kp [2, 4, 6] [b2_0, b4_2] ?_; refine TC.seqS ?_; refine TS.s OpY.fieldAddr rfl ?_; refine TS.s (OpD.ldq (Pl.fld (off := 2) (α := Page) (β := UInt64) Pl.one)) rfl ?_; refine TS.nilE 0 Int ?_; refine TS.s (OpY.buildZ (ps := _) rfl ⟨_, Try.underlying80, by kernel_rfl⟩ (ZeroC.mix (α := Roots) (o := 1) (b := 0) (ZeroC.one (α := Roots)) rfl) (PartsC.d (((Pl.mix (Pl.fld (off := 0) (α := Roots) (β := UInt64) Pl.one) (by first | decide | omega))).st _) inferInstance)) rfl ?_; refine TS.alloc (α := Roots) rfl fun b7_9 => ?_; refine TS.un (OpT.storeC trivial rfl CtSc.h) ?_; refine TS.nil ?_; refine TE.then ?_; refine TC.kp [2, 4, 6, 7] [b2_0, b4_2, b7_9, 0] ?_
        obtain ⟨r_11, er_11, H⟩ := bnd H
        refine TC.nmB b7_9 (nm_mix (nm_one er_11)) ?_
        obtain ⟨l_12, el_12, H⟩ := bnd H
        refine TC.nmB 0 (nm_row el_12) ?_; refine TC.nmB b7_9 (mix_n (nm_len el_12 (by simp))) ?_; refine TC.seq ?_; refine TC.seqS ?_; refine TS.s OpY.move rfl ?_; refine TS.s OpY.move rfl ?_; refine TS.nil ?_; refine TE.then ?_; refine TC.kp [2, 4, 7, 48, 49] [b2_0, b4_2, b7_9, 0] ?_
        obtain ⟨o_15, H15, H⟩ := bnd H
        refine TC.cutP (fun s : (List Int) => o_15 = s) (fun (l_14 : (List Int)) (⟨b_12, p_12, c_12⟩ : Nat × Prop × Nat) => (Env.set (Env.set Env.nil 2 (Pt b2_0 0)) 7 (Pt b7_9 0))) (fun (l_14 : (List Int)) (⟨b_12, p_12, c_12⟩ : Nat × Prop × Nat) => [⟨b_12, p_12, (Row (l_14 : List Int) c_12)⟩, ⟨b2_0, True, (One (Dat.z : Roots))⟩, ⟨b7_9, True, (Ct.mix (One (r_11 : Roots)) 1 (Sl b_12 p_12 0 l_14.length c_12))⟩]) ?_ ?_
        · skip
          refine TC.block ?_; refine TC.loopP H15 (fun ⟨x_16, l_18⟩ (⟨b_16, p_16, c_16⟩ : Nat × Prop × Nat) => (Env.set (Env.set (Env.set (Env.set (Env.set Env.nil 2 (Pt b2_0 0)) 4 (Pt b4_2 0)) 7 (Pt b7_9 0)) 48 (D (x_6 : Int))) 49 (D (x_16 : Int)))) (fun ⟨x_16, l_18⟩ (⟨b_16, p_16, c_16⟩ : Nat × Prop × Nat) => [⟨b_16, p_16, (Row (l_18 : List Int) c_16)⟩, ⟨b2_0, True, (One (Dat.z : Roots))⟩, ⟨b4_2, True, (One (r_2.1 : Page))⟩, ⟨b7_9, True, (Ct.mix (One (r_11 : Roots)) 1 (Sl b_16 p_16 0 l_18.length c_16))⟩]) ⟨0, False, 0⟩ (Env.cv (Env.cv (Env.cv (Env.cv (Env.cv (Env.le_nil _)))))) (Less.pk rfl (Less.pk rfl (Less.pk rfl (Less.pk rfl (Less.nil _))))) ?_
          rintro ⟨x_16, l_18⟩ ⟨b_16, p_16, c_16⟩ x_19 H19 he19
          replace H19 : root_Read_l1 r_2 x_6 x_16 l_18 = some x_19 := H19
          unfold root_Read_l1 at H19
          refine TC.seqS ?_; refine TS.s OpY.lss rfl ?_; refine TS.nil ?_; refine TE.then ?_; refine TC.kp [2, 4, 7, 48, 49, 50] [b2_0, b4_2, b7_9, b_16] ?_; refine TC.seq ?_; refine TC.cond (fun hc => ?_) (fun hc => ?_)
          · replace H19 := cT H19 hc
            refine TC.skip ?_; refine TE.then ?_; refine TC.kp [2, 4, 7, 48, 49] [b2_0, b4_2, b7_9, b_16] ?_; refine TC.seq ?_; refine TC.block ?_; refine TC.seqS ?_; refine TS.s OpY.move rfl ?_; refine TS.s OpY.assign rfl ?_; refine TS.nil ?_; refine TE.then ?_; refine TC.kp [2, 4, 7, 8, 48, 49] [b2_0, b4_2, b7_9, b_16] ?_; refine TC.regD [1, 20, 22] [b7_9, b_16] mix (by kernel_rfl) (by kernel_rfl) ?_; refine TR.s OpY.fieldAddr rfl ?_; refine TR.t (fun g => OpT.G rfl (OpD.ldHq CeH.here)) rfl ?_; refine TR.s OpY.fieldAddr rfl ?_; refine TR.s (OpD.ldq (Pl.fld (off := 3) (α := Page) (β := (List UInt8)) Pl.one)) rfl ?_; refine TR.s OpY.move rfl ?_
            obtain ⟨x_20, ex_20, H19⟩ := bnd H19
            refine TR.s (OpD.mul ex_20) rfl ?_
            obtain ⟨x_21, ex_21, H19⟩ := bnd H19
            refine TR.s (OpD.index ex_21) rfl ?_; refine TR.s OpY.load rfl ?_; refine TR.s OpD.conv8_i rfl ?_
            obtain ⟨x_22, ex_22, H19⟩ := bnd H19
            refine TR.s (OpD.shli ex_22) rfl ?_; refine TR.s OpY.fieldAddr rfl ?_; refine TR.s (OpD.ldq (Pl.fld (off := 3) (α := Page) (β := (List UInt8)) Pl.one)) rfl ?_; refine TR.s OpY.move rfl ?_
            obtain ⟨x_23, ex_23, H19⟩ := bnd H19
            refine TR.s (OpD.mul ex_23) rfl ?_
            obtain ⟨x_24, ex_24, H19⟩ := bnd H19
            refine TR.s (OpD.add ex_24) rfl ?_
            obtain ⟨x_25, ex_25, H19⟩ := bnd H19
            refine TR.s (OpD.index ex_25) rfl ?_; refine TR.s OpY.load rfl ?_; refine TR.s OpD.conv8_i rfl ?_
            obtain ⟨x_26, ex_26, H19⟩ := bnd H19
            refine TR.s (OpD.ori ex_26) rfl ?_; refine TR.s (OpY.buildSlice [.tmp 70] rfl rfl (by decide)) rfl ?_
            obtain ⟨u_28, eu_28, H19⟩ := bnd H19
            refine TR.t (fun g => OpT.appR (ys := ([x_26] : List Int)) inferInstance eu_28 rfl rfl) rfl ?_; refine TR.s OpY.fieldAddr rfl ?_; refine TR.tn (fun g => (OpT.storeHq CtH.same)) rfl ?_; refine TR.nil ?_
            rintro ⟨⟨⟨_, _⟩, ⟨b72_26, p72_26, c72_26⟩⟩, _⟩
            dsimp only [Fam.nextS, Fam.nextN, Fam.one, List.cons_append, List.nil_append]
            refine TE.kp [2, 4, 7, 48, 49] [b2_0, b4_2, b7_9, b72_26] ?_
            obtain ⟨l_29, el_29, H19⟩ := bnd H19
            refine TE.nmB b72_26 (nm_row el_29) ?_; refine TE.nmB b7_9 (mix_n (nm_len el_29 rfl)) ?_; refine TE.inBlock_normal ?_; refine TE.then ?_; refine TC.kp [2, 4, 7, 48, 49] [b2_0, b4_2, b7_9, b72_26] ?_; refine TC.regionS ?_
            obtain ⟨x_30, ex_30, H19⟩ := bnd H19
            refine TS.s (OpD.add ex_30) rfl ?_; refine TS.s OpY.move rfl ?_; refine TS.nil ?_; refine TE.kp [2, 4, 7, 48, 49] [b2_0, b4_2, b7_9, b72_26] ?_; exact TE.backP ⟨x_30, l_29⟩ ⟨b72_26, p72_26, c72_26⟩ (Option.some.inj H19).symm (Env.cv (Env.cv (Env.cv (Env.cv (Env.cv (Env.le_nil _)))))) (Less.pk rfl (Less.pk rfl (Less.pk rfl (Less.pk rfl (Less.nil _)))))
          · replace H19 := cF H19 hc
            refine TC.exit ?_; refine TE.then_exit ?_; refine TE.then_exit ?_; refine TE.inBlock_here ?_; exact TE.cutP l_18 ⟨b_16, p_16, c_16⟩ (he19 _ (Option.some.inj H19).symm).symm (Env.cv (Env.cv (Env.le_nil _))) (Less.pk rfl (Less.pk rfl (Less.pk rfl (Less.nil _))))
        rintro l_14 ⟨b_12, p_12, c_12⟩ hp
        replace hp := hp.symm
        subst hp
        refine TE.then ?_; refine TC.kp [2, 7] [b2_0, b7_9, b_12] ?_; refine TC.seqS ?_; refine TS.coll b7_9 b_12 (o := 1) (((Pl.fld (off := 1) (α := Roots) (β := (List Int)) Pl.one)).st (l_14 : List Int)) (PubC.sv PlS.all rfl) ?_; refine TS.s (OpD.ldq Pl.one) rfl ?_; refine TS.un (OpT.storeq (y := ((⟨r_11.Gen, l_14⟩ : Roots) : Roots)) Pl.one) ?_; refine TS.s OpY.assign rfl ?_; refine TS.nil ?_; refine TE.then ?_; refine TC.kp [2, 3] [b2_0] ?_
        obtain ⟨k_31, ek_31, H⟩ := bnd H
        refine TC.nmB b2_0 (nm_one ek_31) ?_; refine TC.ret ?_
        obtain rfl := (Option.some.inj H)
        exact TE.retN rfl rfl (.cons Cv.le (.cons Cv.le .nil))
def bywayref08_Ints_l1 (a0 : (List Int)) (b0 : (List Int)) (i_2 : Int) : Option (Int ⊕ (Unit ⊕ Bool)) :=
  bif (decide (i_2 < (a0.length : Int))) then ((idx a0 i_2).bind fun x_4 => (idx b0 i_2).bind fun x_5 => bif (decide (x_4 ≠ x_5)) then (some (.inr (.inr false))) else ((addI i_2 (1 : Int)).bind fun x_7 => some (.inl x_7))) else (some (.inr (.inl ())))
def bywayref08_Ints (a0 : (List Int)) (b0 : (List Int)) : Option Bool :=
  bif (decide ((a0.length : Int) ≠ (b0.length : Int))) then (some false) else ((loopO (fun s => bywayref08_Ints_l1 a0 b0 s) (0 : Int)).bind fun o_1 => elS o_1 (fun _ => some true) (fun q => some q))
theorem bywayref08_Ints_c {A : Nat → Prop} {a0 : (List Int)} {b0 : (List Int)}  {r : Bool} (w : World) (v0 v1 : Value) (hA : ∀ k, w.heap.size ≤ k → A k)  (h0 : (D (a0 : (List Int))).p A w v0) (h1 : (D (b0 : (List Int))).p A w v1) (H : bywayref08_Ints a0 b0 = some r) :
    Calls Try.prog 58 #[v0, v1] w (Ret A w (D (r : Bool))) := by
  unfold bywayref08_Ints at H
  refine enter2 hA Try.func58 rfl Try.ntmps58 rfl h0 h1 ?_; refine TC.seqS ?_; refine TS.s OpY.assign rfl ?_; refine TS.nil ?_; refine TE.then ?_; refine TC.kp [0, 1] [] ?_; refine TC.seq ?_; refine TC.seqS ?_; refine TS.s OpY.move rfl ?_; refine TS.s OpD.len rfl ?_; refine TS.s OpY.move rfl ?_; refine TS.s OpD.len rfl ?_; refine TS.s OpY.neq rfl ?_; refine TS.nil ?_; refine TE.then ?_; refine TC.kp [0, 1, 10] [] ?_; refine TC.cond (fun hc => ?_) (fun hc => ?_)
  · replace H := cT H hc
    refine TC.seqS ?_; refine TS.s OpY.assign rfl ?_; refine TS.nil ?_; refine TE.then ?_; refine TC.kp [4] [] ?_; refine TC.ret ?_; refine TE.then_ret ?_
    obtain rfl := (Option.some.inj H)
    exact TE.ret1 rfl Cv.le
  · replace H := cF H hc
    refine TC.skip ?_; refine TE.then ?_; refine TC.kp [0, 1] [] ?_; refine TC.seq ?_; refine TC.seqS ?_; refine TS.s OpY.assign rfl ?_; refine TS.nil ?_; refine TE.then ?_; refine TC.kp [0, 1, 5] [] ?_
    obtain ⟨o_1, H1, H⟩ := bnd H
    refine TC.cutP (fun s : Unit => o_1 = .inl s) (fun (_ : Unit) (_ : Unit) => Env.nil) (fun (_ : Unit) (_ : Unit) => []) ?_ ?_
    · skip
      refine TC.block ?_; refine TC.loopP H1 (fun (i_2 : Int) (_ : Unit) => (Env.set (Env.set (Env.set Env.nil 0 (D (a0 : (List Int)))) 1 (D (b0 : (List Int)))) 5 (D (i_2 : Int)))) (fun (i_2 : Int) (_ : Unit) => []) () (Env.cv (Env.cv (Env.cv (Env.le_nil _)))) (Less.nil _) ?_
      rintro i_2 ⟨⟩ x_3 H3 he3
      replace H3 : bywayref08_Ints_l1 a0 b0 i_2 = some x_3 := H3
      unfold bywayref08_Ints_l1 at H3
      refine TC.seq ?_; refine TC.seqS ?_; refine TS.s OpY.move rfl ?_; refine TS.s OpY.move rfl ?_; refine TS.s OpD.len rfl ?_; refine TS.s OpY.lss rfl ?_; refine TS.nil ?_; refine TE.then ?_; refine TC.kp [0, 1, 5, 14] [] ?_; refine TC.cond (fun hc => ?_) (fun hc => ?_)
      · replace H3 := cT H3 hc
        refine TC.skip ?_; refine TE.then ?_; refine TC.kp [0, 1, 5] [] ?_; refine TC.seq ?_; refine TC.block ?_; refine TC.seqD0 mix (by kernel_rfl) ?_; refine TR.s OpY.move rfl ?_; refine TR.s OpY.move rfl ?_
        obtain ⟨x_4, ex_4, H3⟩ := bnd H3
        refine TR.s (OpD.index ex_4) rfl ?_; refine TR.s OpY.load rfl ?_; refine TR.s OpY.move rfl ?_; refine TR.s OpY.move rfl ?_
        obtain ⟨x_5, ex_5, H3⟩ := bnd H3
        refine TR.s (OpD.index ex_5) rfl ?_; refine TR.s OpY.load rfl ?_; refine TR.s OpY.neq rfl ?_; refine TR.nil ?_; refine TC.kp [0, 1, 5, 25] [] ?_; refine TC.cond (fun hc => ?_) (fun hc => ?_)
        · replace H3 := cT H3 hc
          refine TC.seqS ?_; refine TS.s OpY.assign rfl ?_; refine TS.nil ?_; refine TE.then ?_; refine TC.kp [4] [] ?_; refine TC.ret ?_; refine TE.inBlock_ret ?_; refine TE.then_ret ?_; refine TE.then_ret ?_; refine TE.inBlock_ret ?_; refine TE.cut_ret ?_
          have R5 := elS_r (he3 _ (Option.some.inj H3).symm) H
          refine TE.then_ret ?_
          obtain rfl := (Option.some.inj R5)
          exact TE.ret1 rfl Cv.le
        · replace H3 := cF H3 hc
          refine TC.skip ?_; refine TE.inBlock_normal ?_; refine TE.then ?_; refine TC.kp [0, 1, 5] [] ?_; refine TC.regionS ?_; refine TS.s OpY.move rfl ?_
          obtain ⟨x_7, ex_7, H3⟩ := bnd H3
          refine TS.s (OpD.add ex_7) rfl ?_; refine TS.s OpY.assign rfl ?_; refine TS.nil ?_; refine TE.kp [0, 1, 5] [] ?_; exact TE.backP x_7 () (Option.some.inj H3).symm (Env.cv (Env.cv (Env.cv (Env.le_nil _)))) (Less.nil _)
      · replace H3 := cF H3 hc
        refine TC.exit ?_; refine TE.then_exit ?_; refine TE.then_exit ?_; refine TE.inBlock_here ?_; exact TE.cutP () () (he3 _ (Option.some.inj H3).symm).symm (Env.le_nil _) (Less.nil _)
    rintro ⟨⟩ ⟨⟩ hp
    replace H := elS_l hp H
    refine TE.then ?_; refine TC.kp [] [] ?_; refine TC.seqS ?_; refine TS.s OpY.assign rfl ?_; refine TS.nil ?_; refine TE.then ?_; refine TC.kp [4] [] ?_; refine TC.ret ?_
    obtain rfl := (Option.some.inj H)
    exact TE.ret1 rfl Cv.le
def bywayref10_Read_l1 (r_2 : (Page × Int)) (x_6 : Int) (i_16 : Int) (l_18 : (List Int)) : Option ((Int × (List Int)) ⊕ (List Int)) :=
  bif (decide (i_16 < x_6)) then ((mulI (2 : Int) i_16).bind fun x_20 => (mulI (2 : Int) i_16).bind fun x_21 => (addI x_21 (2 : Int)).bind fun x_22 => (cut r_2.1.Body.length x_20 x_22).bind fun u_23 => (bywayref05_Get ((r_2.1.Body.take (Int.toNat x_22)).drop (Int.toNat x_20))).bind fun x_24 => (ok64 (x_24.toNat : Int)).bind fun x_25 => (room 8 ((l_18.length + ([x_25] : List Int).length : Nat) : Int)).bind fun u_27 => (some ((l_18 ++ ([x_25] : List Int)) : (List Int))).bind fun l_28 => (addI i_16 (1 : Int)).bind fun x_29 => some (.inl (x_29, l_28))) else (some (.inr l_18))
def bywayref10_Read (b0 : (List UInt8)) : Option (Roots × Int) :=
  (bywayref07_Read b0).bind fun r_2 => bif (decide (r_2.2 ≠ (0 : Int))) then ((some ((⟨0, []⟩ : Roots) : Roots)).bind fun k_4 => some (k_4, r_2.2)) else (bif (decide (r_2.1.Kind = (0 : Int))) then ((some ((⟨0, []⟩ : Roots) : Roots)).bind fun k_5 => some (k_5, (6 : Int))) else ((quoI (r_2.1.Body.length : Int) (2 : Int)).bind fun x_6 => (gb (!(decide (r_2.1.Kind ≠ (2 : Int)))) (remI (r_2.1.Body.length : Int) (2 : Int))).bind fun x_7 => (gb ((!(((decide (r_2.1.Kind ≠ (2 : Int))) || (decide (x_7 = (1 : Int)))) || (decide (x_6 > (64 : Int))))) && (decide (x_6 > (0 : Int)))) (subI x_6 (1 : Int))).bind fun x_8 => bif (((((decide (r_2.1.Kind ≠ (2 : Int))) || (decide (x_7 = (1 : Int)))) || (decide (x_6 > (64 : Int)))) || ((decide (x_6 > (0 : Int))) && (decide (r_2.1.Id ≠ x_8)))) || ((decide (x_6 = (0 : Int))) && (decide (r_2.1.Id ≠ (0 : Int))))) then ((some ((⟨0, []⟩ : Roots) : Roots)).bind fun k_9 => some (k_9, (2 : Int))) else ((some ((⟨r_2.1.Gen, []⟩ : Roots) : Roots)).bind fun r_11 => (some (([] : List Int) : (List Int))).bind fun l_12 => (loopO (fun s => bywayref10_Read_l1 r_2 x_6 s.1 s.2) ((0 : Int), l_12)).bind fun l_14 => (some ((⟨r_11.Gen, l_14⟩ : Roots) : Roots)).bind fun k_30 => some (k_30, (0 : Int)))))
theorem bywayref10_Read_c {A : Nat → Prop} {b0 : (List UInt8)}  {r : (Roots × Int)} (w : World) (v0 : Value) (hA : ∀ k, w.heap.size ≤ k → A k)  (h0 : (D (b0 : (List UInt8))).p A w v0) (H : bywayref10_Read b0 = some r) :
    Calls Try.prog 90 #[v0] w (Ret A w (Tup [D (r.1 : Roots), D (r.2 : Int)])) := by
  unfold bywayref10_Read at H
  refine enter1 hA Try.func90 rfl Try.ntmps90 rfl h0 ?_; refine TC.seqS ?_; refine TS.alloc (α := Roots) rfl fun b2_0 => ?_; refine TS.s OpY.assign rfl ?_; refine TS.nil ?_; refine TE.then ?_; refine TC.kp [0, 2] [b2_0] ?_; refine TC.seqS ?_; refine TS.s OpY.move rfl ?_
  obtain ⟨r_2, er_2, H⟩ := bnd H
  refine TS.s (OpY.call1 fun w v0 hA h0 => bywayref07_Read_c w v0 hA (toD h0) er_2) rfl ?_; refine TS.s OpY.move rfl ?_; refine TS.s (OpY.extract rfl) rfl ?_; refine TS.s (OpY.extract rfl) rfl ?_; refine TS.alloc (α := Page) rfl fun b4_2 => ?_; refine TS.un (OpT.storeq (y := (r_2.1 : Page)) Pl.one) ?_; refine TS.s OpY.assign rfl ?_; refine TS.nil ?_; refine TE.then ?_; refine TC.kp [2, 4, 5] [b2_0, b4_2] ?_; refine TC.seq ?_; refine TC.seqS ?_; refine TS.s OpY.move rfl ?_; refine TS.s OpY.neq rfl ?_; refine TS.nil ?_; refine TE.then ?_; refine TC.kp [2, 4, 5, 15] [b2_0, b4_2] ?_; refine TC.cond (fun hc => ?_) (fun hc => ?_)
  · replace H := cT H hc
    refine TC.seqS ?_; refine TS.s (OpY.buildAs (⟨0, []⟩ : Roots) rfl ⟨_, Try.underlying80, by kernel_rfl⟩ rfl rfl) rfl ?_; refine TS.s OpY.move rfl ?_; refine TS.un (OpT.storeq (y := ((⟨0, []⟩ : Roots) : Roots)) Pl.one) ?_; refine TS.s OpY.assign rfl ?_; refine TS.nil ?_; refine TE.then ?_; refine TC.kp [2, 3] [b2_0] ?_
    obtain ⟨k_4, ek_4, H⟩ := bnd H
    refine TC.nmB b2_0 (nm_one ek_4) ?_; refine TC.ret ?_; refine TE.then_ret ?_
    obtain rfl := (Option.some.inj H)
    exact TE.retN rfl rfl (.cons Cv.le (.cons Cv.le .nil))
  · replace H := cF H hc
    refine TC.skip ?_; refine TE.then ?_; refine TC.kp [2, 4] [b2_0, b4_2] ?_; refine TC.seq ?_; refine TC.seqS ?_; refine TS.s OpY.fieldAddr rfl ?_; refine TS.s (OpD.ldq (Pl.fld (off := 0) (α := Page) (β := Int) Pl.one)) rfl ?_; refine TS.s OpY.eql rfl ?_; refine TS.nil ?_; refine TE.then ?_; refine TC.kp [2, 4, 20] [b2_0, b4_2] ?_; refine TC.cond (fun hc => ?_) (fun hc => ?_)
    · replace H := cT H hc
      refine TC.seqS ?_; refine TS.s (OpY.buildAs (⟨0, []⟩ : Roots) rfl ⟨_, Try.underlying80, by kernel_rfl⟩ rfl rfl) rfl ?_; refine TS.un (OpT.storeq (y := ((⟨0, []⟩ : Roots) : Roots)) Pl.one) ?_; refine TS.s OpY.assign rfl ?_; refine TS.nil ?_; refine TE.then ?_; refine TC.kp [2, 3] [b2_0] ?_
      obtain ⟨k_5, ek_5, H⟩ := bnd H
      refine TC.nmB b2_0 (nm_one ek_5) ?_; refine TC.ret ?_; refine TE.then_ret ?_
      obtain rfl := (Option.some.inj H)
      exact TE.retN rfl rfl (.cons Cv.le (.cons Cv.le .nil))
    · replace H := cF H hc
      refine TC.skip ?_; refine TE.then ?_; refine TC.kp [2, 4] [b2_0, b4_2] ?_; refine TC.seqS ?_; refine TS.s OpY.fieldAddr rfl ?_; refine TS.s (OpD.ldq (Pl.fld (off := 3) (α := Page) (β := (List UInt8)) Pl.one)) rfl ?_; refine TS.s OpD.len rfl ?_
      obtain ⟨x_6, ex_6, H⟩ := bnd H
      refine TS.s (OpD.quo ex_6) rfl ?_; refine TS.s OpY.assign rfl ?_; refine TS.nil ?_; refine TE.then ?_; refine TC.kp [2, 4, 6] [b2_0, b4_2] ?_; refine TC.seq ?_; refine TC.seqS ?_; refine TS.s OpY.fieldAddr rfl ?_; refine TS.s (OpD.ldq (Pl.fld (off := 0) (α := Page) (β := Int) Pl.one)) rfl ?_; refine TS.s OpY.neq rfl ?_; refine TS.s OpY.move rfl ?_; refine TS.g 29 rfl (fun hg => OpY.fieldAddr) rfl ?_; refine TS.g 29 rfl (fun hg => (OpD.ldq (Pl.fld (off := 3) (α := Page) (β := (List UInt8)) Pl.one))) rfl ?_; refine TS.g 29 rfl (fun hg => OpD.len) rfl ?_
      obtain ⟨x_7, ex_7, H⟩ := bnd H
      refine TS.g 29 rfl (fun hg => (OpD.rem (gb_some ex_7 (nF hg.h)))) rfl ?_; refine TS.g 29 rfl (fun hg => OpY.eql) rfl ?_; refine TS.s OpY.pickOr rfl ?_; refine TS.s OpY.move rfl ?_; refine TS.g 36 rfl (fun hg => OpY.move) rfl ?_; refine TS.g 36 rfl (fun hg => OpY.gtr) rfl ?_; refine TS.s OpY.pickOr rfl ?_; refine TS.s OpY.move rfl ?_; refine TS.g 40 rfl (fun hg => OpY.move) rfl ?_; refine TS.g 40 rfl (fun hg => OpY.gtr) rfl ?_; refine TS.g 40 rfl (fun hg => OpY.move) rfl ?_; refine TS.gg 43 rfl (fun hp hg => OpY.fieldAddr) rfl ?_; refine TS.gg 43 rfl (fun hp hg => (OpD.ldq (Pl.fld (off := 1) (α := Page) (β := Int) Pl.one))) rfl ?_; refine TS.gg 43 rfl (fun hp hg => OpY.move) rfl ?_
      obtain ⟨x_8, ex_8, H⟩ := bnd H
      refine TS.gg 43 rfl (fun hp hg => (OpD.sub (gb_some ex_8 (aT (nF hp.h) hg.h)))) rfl ?_; refine TS.gg 43 rfl (fun hp hg => OpY.neq) rfl ?_; refine TS.g 40 rfl (fun hg => OpY.pickAnd) rfl ?_; refine TS.s OpY.pickOr rfl ?_; refine TS.s OpY.move rfl ?_; refine TS.g 51 rfl (fun hg => OpY.move) rfl ?_; refine TS.g 51 rfl (fun hg => OpY.eql) rfl ?_; refine TS.g 51 rfl (fun hg => OpY.move) rfl ?_; refine TS.gg 54 rfl (fun hp hg => OpY.fieldAddr) rfl ?_; refine TS.gg 54 rfl (fun hp hg => (OpD.ldq (Pl.fld (off := 1) (α := Page) (β := Int) Pl.one))) rfl ?_; refine TS.gg 54 rfl (fun hp hg => OpY.neq) rfl ?_; refine TS.g 51 rfl (fun hg => OpY.pickAnd) rfl ?_; refine TS.s OpY.pickOr rfl ?_; refine TS.nil ?_; refine TE.then ?_; refine TC.kp [2, 4, 6, 59] [b2_0, b4_2] ?_; refine TC.cond (fun hc => ?_) (fun hc => ?_)
      · replace H := cT H hc
        refine TC.seqS ?_; refine TS.s (OpY.buildAs (⟨0, []⟩ : Roots) rfl ⟨_, Try.underlying80, by kernel_rfl⟩ rfl rfl) rfl ?_; refine TS.un (OpT.storeq (y := ((⟨0, []⟩ : Roots) : Roots)) Pl.one) ?_; refine TS.s OpY.assign rfl ?_; refine TS.nil ?_; refine TE.then ?_; refine TC.kp [2, 3] [b2_0] ?_
        obtain ⟨k_9, ek_9, H⟩ := bnd H
        refine TC.nmB b2_0 (nm_one ek_9) ?_; refine TC.ret ?_; refine TE.then_ret ?_
        obtain rfl := (Option.some.inj H)
        exact TE.retN rfl rfl (.cons Cv.le (.cons Cv.le .nil))
      · replace H := cF H hc
        refine TC.skip ?_; refine TE.then ?_; refine TC.kp [2, 4, 6] [b2_0, b4_2] ?_; refine TC.seqS ?_; refine TS.s OpY.fieldAddr rfl ?_; refine TS.s (OpD.ldq (Pl.fld (off := 2) (α := Page) (β := UInt64) Pl.one)) rfl ?_; refine TS.nilE 0 Int ?_; refine TS.s (OpY.buildZ (ps := _) rfl ⟨_, Try.underlying80, by kernel_rfl⟩ (ZeroC.mix (α := Roots) (o := 1) (b := 0) (ZeroC.one (α := Roots)) rfl) (PartsC.d (((Pl.mix (Pl.fld (off := 0) (α := Roots) (β := UInt64) Pl.one) (by first | decide | omega))).st _) inferInstance)) rfl ?_; refine TS.alloc (α := Roots) rfl fun b7_9 => ?_; refine TS.un (OpT.storeC trivial rfl CtSc.h) ?_; refine TS.nil ?_; refine TE.then ?_; refine TC.kp [2, 4, 6, 7] [b2_0, b4_2, b7_9, 0] ?_
        obtain ⟨r_11, er_11, H⟩ := bnd H
        refine TC.nmB b7_9 (nm_mix (nm_one er_11)) ?_
        obtain ⟨l_12, el_12, H⟩ := bnd H
        refine TC.nmB 0 (nm_row el_12) ?_; refine TC.nmB b7_9 (mix_n (nm_len el_12 (by simp))) ?_; refine TC.seq ?_; refine TC.seqS ?_; refine TS.s OpY.assign rfl ?_; refine TS.nil ?_; refine TE.then ?_; refine TC.kp [2, 4, 6, 7, 8] [b2_0, b4_2, b7_9, 0] ?_
        obtain ⟨o_15, H15, H⟩ := bnd H
        refine TC.cutP (fun s : (List Int) => o_15 = s) (fun (l_14 : (List Int)) (⟨b_12, p_12, c_12⟩ : Nat × Prop × Nat) => (Env.set (Env.set Env.nil 2 (Pt b2_0 0)) 7 (Pt b7_9 0))) (fun (l_14 : (List Int)) (⟨b_12, p_12, c_12⟩ : Nat × Prop × Nat) => [⟨b_12, p_12, (Row (l_14 : List Int) c_12)⟩, ⟨b2_0, True, (One (Dat.z : Roots))⟩, ⟨b7_9, True, (Ct.mix (One (r_11 : Roots)) 1 (Sl b_12 p_12 0 l_14.length c_12))⟩]) ?_ ?_
        · skip
          refine TC.block ?_; refine TC.loopP H15 (fun ⟨i_16, l_18⟩ (⟨b_16, p_16, c_16⟩ : Nat × Prop × Nat) => (Env.set (Env.set (Env.set (Env.set (Env.set Env.nil 2 (Pt b2_0 0)) 4 (Pt b4_2 0)) 6 (D (x_6 : Int))) 7 (Pt b7_9 0)) 8 (D (i_16 : Int)))) (fun ⟨i_16, l_18⟩ (⟨b_16, p_16, c_16⟩ : Nat × Prop × Nat) => [⟨b_16, p_16, (Row (l_18 : List Int) c_16)⟩, ⟨b2_0, True, (One (Dat.z : Roots))⟩, ⟨b4_2, True, (One (r_2.1 : Page))⟩, ⟨b7_9, True, (Ct.mix (One (r_11 : Roots)) 1 (Sl b_16 p_16 0 l_18.length c_16))⟩]) ⟨0, False, 0⟩ (Env.cv (Env.cv (Env.cv (Env.cv (Env.cv (Env.le_nil _)))))) (Less.pk rfl (Less.pk rfl (Less.pk rfl (Less.pk rfl (Less.nil _))))) ?_
          rintro ⟨i_16, l_18⟩ ⟨b_16, p_16, c_16⟩ x_19 H19 he19
          replace H19 : bywayref10_Read_l1 r_2 x_6 i_16 l_18 = some x_19 := H19
          unfold bywayref10_Read_l1 at H19
          refine TC.seq ?_; refine TC.seqS ?_; refine TS.s OpY.move rfl ?_; refine TS.s OpY.move rfl ?_; refine TS.s OpY.lss rfl ?_; refine TS.nil ?_; refine TE.then ?_; refine TC.kp [2, 4, 6, 7, 8, 66] [b2_0, b4_2, b7_9, b_16] ?_; refine TC.cond (fun hc => ?_) (fun hc => ?_)
          · replace H19 := cT H19 hc
            refine TC.skip ?_; refine TE.then ?_; refine TC.kp [2, 4, 6, 7, 8] [b2_0, b4_2, b7_9, b_16] ?_; refine TC.seq ?_; refine TC.block ?_; refine TC.regD [1, 13, 15] [b7_9, b_16] mix (by kernel_rfl) (by kernel_rfl) ?_; refine TR.s OpY.fieldAddr rfl ?_; refine TR.t (fun g => OpT.G rfl (OpD.ldHq CeH.here)) rfl ?_; refine TR.s OpY.fieldAddr rfl ?_; refine TR.s (OpD.ldq (Pl.fld (off := 3) (α := Page) (β := (List UInt8)) Pl.one)) rfl ?_; refine TR.s OpY.move rfl ?_
            obtain ⟨x_20, ex_20, H19⟩ := bnd H19
            refine TR.s (OpD.mul ex_20) rfl ?_; refine TR.s OpY.move rfl ?_
            obtain ⟨x_21, ex_21, H19⟩ := bnd H19
            refine TR.s (OpD.mul ex_21) rfl ?_
            obtain ⟨x_22, ex_22, H19⟩ := bnd H19
            refine TR.s (OpD.add ex_22) rfl ?_
            obtain ⟨u_23, eu_23, H19⟩ := bnd H19
            refine TR.s (OpD.slice2 eu_23) rfl ?_
            obtain ⟨x_24, ex_24, H19⟩ := bnd H19
            refine TR.s (OpY.call1 fun w v0 hA h0 => bywayref05_Get_c w v0 hA (toD h0) ex_24) rfl ?_
            obtain ⟨x_25, ex_25, H19⟩ := bnd H19
            refine TR.s (OpD.conv64_i ex_25) rfl ?_; refine TR.s (OpY.buildSlice [.tmp 80] rfl rfl (by decide)) rfl ?_
            obtain ⟨u_27, eu_27, H19⟩ := bnd H19
            refine TR.t (fun g => OpT.appR (ys := ([x_25] : List Int)) inferInstance eu_27 rfl rfl) rfl ?_; refine TR.s OpY.fieldAddr rfl ?_; refine TR.tn (fun g => (OpT.storeHq CtH.same)) rfl ?_; refine TR.nil ?_
            rintro ⟨⟨⟨_, _⟩, ⟨b82_25, p82_25, c82_25⟩⟩, _⟩
            dsimp only [Fam.nextS, Fam.nextN, Fam.one, List.cons_append, List.nil_append]
            refine TE.kp [2, 4, 6, 7, 8] [b2_0, b4_2, b7_9, b82_25] ?_
            obtain ⟨l_28, el_28, H19⟩ := bnd H19
            refine TE.nmB b82_25 (nm_row el_28) ?_; refine TE.nmB b7_9 (mix_n (nm_len el_28 rfl)) ?_; refine TE.inBlock_normal ?_; refine TE.then ?_; refine TC.kp [2, 4, 6, 7, 8] [b2_0, b4_2, b7_9, b82_25] ?_; refine TC.regionS ?_; refine TS.s OpY.move rfl ?_
            obtain ⟨x_29, ex_29, H19⟩ := bnd H19
            refine TS.s (OpD.add ex_29) rfl ?_; refine TS.s OpY.assign rfl ?_; refine TS.nil ?_; refine TE.kp [2, 4, 6, 7, 8] [b2_0, b4_2, b7_9, b82_25] ?_; exact TE.backP ⟨x_29, l_28⟩ ⟨b82_25, p82_25, c82_25⟩ (Option.some.inj H19).symm (Env.cv (Env.cv (Env.cv (Env.cv (Env.cv (Env.le_nil _)))))) (Less.pk rfl (Less.pk rfl (Less.pk rfl (Less.pk rfl (Less.nil _)))))
          · replace H19 := cF H19 hc
            refine TC.exit ?_; refine TE.then_exit ?_; refine TE.then_exit ?_; refine TE.inBlock_here ?_; exact TE.cutP l_18 ⟨b_16, p_16, c_16⟩ (he19 _ (Option.some.inj H19).symm).symm (Env.cv (Env.cv (Env.le_nil _))) (Less.pk rfl (Less.pk rfl (Less.pk rfl (Less.nil _))))
        rintro l_14 ⟨b_12, p_12, c_12⟩ hp
        replace hp := hp.symm
        subst hp
        refine TE.then ?_; refine TC.kp [2, 7] [b2_0, b7_9, b_12] ?_; refine TC.seqS ?_; refine TS.coll b7_9 b_12 (o := 1) (((Pl.fld (off := 1) (α := Roots) (β := (List Int)) Pl.one)).st (l_14 : List Int)) (PubC.sv PlS.all rfl) ?_; refine TS.s (OpD.ldq Pl.one) rfl ?_; refine TS.un (OpT.storeq (y := ((⟨r_11.Gen, l_14⟩ : Roots) : Roots)) Pl.one) ?_; refine TS.s OpY.assign rfl ?_; refine TS.nil ?_; refine TE.then ?_; refine TC.kp [2, 3] [b2_0] ?_
        obtain ⟨k_30, ek_30, H⟩ := bnd H
        refine TC.nmB b2_0 (nm_one ek_30) ?_; refine TC.ret ?_
        obtain rfl := (Option.some.inj H)
        exact TE.retN rfl rfl (.cons Cv.le (.cons Cv.le .nil))
def bywayref08_Has_l1 (l0 : (List Int)) (n0 : Int) (i_2 : Int) : Option (Int ⊕ (Unit ⊕ Bool)) :=
  bif (decide (i_2 < (l0.length : Int))) then ((idx l0 i_2).bind fun x_4 => bif (decide (x_4 = n0)) then (some (.inr (.inr true))) else ((addI i_2 (1 : Int)).bind fun x_6 => some (.inl x_6))) else (some (.inr (.inl ())))
def bywayref08_Has (l0 : (List Int)) (n0 : Int) : Option Bool :=
  (loopO (fun s => bywayref08_Has_l1 l0 n0 s) (0 : Int)).bind fun o_1 => elS o_1 (fun _ => some false) (fun q => some q)
theorem bywayref08_Has_c {A : Nat → Prop} {l0 : (List Int)} {n0 : Int}  {r : Bool} (w : World) (v0 v1 : Value) (hA : ∀ k, w.heap.size ≤ k → A k)  (h0 : (D (l0 : (List Int))).p A w v0) (h1 : (D (n0 : Int)).p A w v1) (H : bywayref08_Has l0 n0 = some r) :
    Calls Try.prog 61 #[v0, v1] w (Ret A w (D (r : Bool))) := by
  unfold bywayref08_Has at H
  refine enter2 hA Try.func61 rfl Try.ntmps61 rfl h0 h1 ?_; refine TC.seqS ?_; refine TS.s OpY.assign rfl ?_; refine TS.nil ?_; refine TE.then ?_; refine TC.kp [0, 1] [] ?_; refine TC.seq ?_; refine TC.seqS ?_; refine TS.s OpY.assign rfl ?_; refine TS.nil ?_; refine TE.then ?_; refine TC.kp [0, 1, 5] [] ?_
  obtain ⟨o_1, H1, H⟩ := bnd H
  refine TC.cutP (fun s : Unit => o_1 = .inl s) (fun (_ : Unit) (_ : Unit) => Env.nil) (fun (_ : Unit) (_ : Unit) => []) ?_ ?_
  · skip
    refine TC.block ?_; refine TC.loopP H1 (fun (i_2 : Int) (_ : Unit) => (Env.set (Env.set (Env.set Env.nil 0 (D (l0 : (List Int)))) 1 (D (n0 : Int))) 5 (D (i_2 : Int)))) (fun (i_2 : Int) (_ : Unit) => []) () (Env.cv (Env.cv (Env.cv (Env.le_nil _)))) (Less.nil _) ?_
    rintro i_2 ⟨⟩ x_3 H3 he3
    replace H3 : bywayref08_Has_l1 l0 n0 i_2 = some x_3 := H3
    unfold bywayref08_Has_l1 at H3
    refine TC.seq ?_; refine TC.seqS ?_; refine TS.s OpY.move rfl ?_; refine TS.s OpY.move rfl ?_; refine TS.s OpD.len rfl ?_; refine TS.s OpY.lss rfl ?_; refine TS.nil ?_; refine TE.then ?_; refine TC.kp [0, 1, 5, 9] [] ?_; refine TC.cond (fun hc => ?_) (fun hc => ?_)
    · replace H3 := cT H3 hc
      refine TC.skip ?_; refine TE.then ?_; refine TC.kp [0, 1, 5] [] ?_; refine TC.seq ?_; refine TC.block ?_; refine TC.seqS ?_; refine TS.s OpY.move rfl ?_; refine TS.s OpY.move rfl ?_
      obtain ⟨x_4, ex_4, H3⟩ := bnd H3
      refine TS.s (OpD.index ex_4) rfl ?_; refine TS.s OpY.load rfl ?_; refine TS.s OpY.move rfl ?_; refine TS.s OpY.eql rfl ?_; refine TS.nil ?_; refine TE.then ?_; refine TC.kp [0, 1, 5, 17] [] ?_; refine TC.cond (fun hc => ?_) (fun hc => ?_)
      · replace H3 := cT H3 hc
        refine TC.seqS ?_; refine TS.s OpY.assign rfl ?_; refine TS.nil ?_; refine TE.then ?_; refine TC.kp [4] [] ?_; refine TC.ret ?_; refine TE.inBlock_ret ?_; refine TE.then_ret ?_; refine TE.then_ret ?_; refine TE.inBlock_ret ?_; refine TE.cut_ret ?_
        have R4 := elS_r (he3 _ (Option.some.inj H3).symm) H
        refine TE.then_ret ?_
        obtain rfl := (Option.some.inj R4)
        exact TE.ret1 rfl Cv.le
      · replace H3 := cF H3 hc
        refine TC.skip ?_; refine TE.inBlock_normal ?_; refine TE.then ?_; refine TC.kp [0, 1, 5] [] ?_; refine TC.regionS ?_; refine TS.s OpY.move rfl ?_
        obtain ⟨x_6, ex_6, H3⟩ := bnd H3
        refine TS.s (OpD.add ex_6) rfl ?_; refine TS.s OpY.assign rfl ?_; refine TS.nil ?_; refine TE.kp [0, 1, 5] [] ?_; exact TE.backP x_6 () (Option.some.inj H3).symm (Env.cv (Env.cv (Env.cv (Env.le_nil _)))) (Less.nil _)
    · replace H3 := cF H3 hc
      refine TC.exit ?_; refine TE.then_exit ?_; refine TE.then_exit ?_; refine TE.inBlock_here ?_; exact TE.cutP () () (he3 _ (Option.some.inj H3).symm).symm (Env.le_nil _) (Less.nil _)
  rintro ⟨⟩ ⟨⟩ hp
  replace H := elS_l hp H
  refine TE.then ?_; refine TC.kp [] [] ?_; refine TC.seqS ?_; refine TS.s OpY.assign rfl ?_; refine TS.nil ?_; refine TE.then ?_; refine TC.kp [4] [] ?_; refine TC.ret ?_
  obtain rfl := (Option.some.inj H)
  exact TE.ret1 rfl Cv.le
end Go.Proofs.Ytefmfhbkihplgaa.Tr
