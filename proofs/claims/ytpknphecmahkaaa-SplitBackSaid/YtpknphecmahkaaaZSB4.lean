/- What the proof leans on. Conditions: none. -/
import Derived.Test.YtpknphecmahkaaaZSB3
set_option linter.all false
set_option linter.unusedSimpArgs false
set_option linter.unusedVariables false
set_option linter.unusedSectionVars false
namespace Go.Proofs.Ytpknphecmahkaaa.Tr
open Go Go.RowKit
set_option maxRecDepth 100000
set_option synthInstance.maxHeartbeats 400000
set_option synthInstance.maxSize 4096
def split_set (k0 : (Vec UInt8 16)) (n0 : Int) : Option (Vec UInt8 16) :=
  (quoI n0 (8 : Int)).bind fun x_3 => (idx k0.l x_3).bind fun x_4 => (remI n0 (8 : Int)).bind fun x_5 => (cnt x_5).bind fun n_6 => (idx k0.l x_3).bind fun x_7 => (some ((Vec.set k0 (Int.toNat x_3) (x_4 ||| (shr8 (UInt8.ofNat 128) x_5))) : (Vec UInt8 16))).bind fun k_8 => some k_8
theorem split_set_c {A : Nat → Prop} {k0 : (Vec UInt8 16)} {n0 : Int}  {r : (Vec UInt8 16)} (w : World) (v0 v1 : Value) (hA : ∀ k, w.heap.size ≤ k → A k)  (h0 : (D (k0 : (Vec UInt8 16))).p A w v0) (h1 : (D (n0 : Int)).p A w v1) (H : split_set k0 n0 = some r) :
    Calls Try.prog 44 #[v0, v1] w (Ret A w (D (r : (Vec UInt8 16)))) := by
  unfold split_set at H
  refine enter2 hA Try.func44 rfl Try.ntmps44 rfl h0 h1 ?_; refine TC.seqS ?_; refine TS.box rfl fun b2_0 => ?_; refine TS.alloc (α := (Vec UInt8 16)) rfl fun b4_1 => ?_; refine TS.nil ?_; refine TE.then ?_; refine TC.kp [1, 2, 4] [b2_0, b4_1] ?_; refine TC.seqD [3, 7, 9] [b2_0] mix (by kernel_rfl) (by kernel_rfl) ?_; refine TR.s OpY.move rfl ?_
  obtain ⟨x_3, ex_3, H⟩ := bnd H
  refine TR.s (OpD.quo ex_3) rfl ?_
  obtain ⟨x_4, ex_4, H⟩ := bnd H
  refine TR.s (OpD.indexArq (idx_in ex_4 (Vec.h _).symm)) rfl ?_; refine TR.t (fun g => OpT.G rfl (OpD.ldq (Pl.vec (α := UInt8) Pl.one ex_4))) rfl ?_; refine TR.s OpY.move rfl ?_
  obtain ⟨x_5, ex_5, H⟩ := bnd H
  refine TR.s (OpD.rem ex_5) rfl ?_
  obtain ⟨n_6, en_6, H⟩ := bnd H
  refine TR.s (OpD.shr8 (cnt_some en_6).1) rfl ?_; refine TR.t (fun g => OpT.G rfl OpY.or8) rfl ?_
  obtain ⟨x_7, ex_7, H⟩ := bnd H
  refine TR.s (OpD.indexArq (idx_in ex_7 (Vec.h _).symm)) rfl ?_; refine TR.tn (fun g => (OpT.storeq (y := ((x_4 ||| (shr8 (UInt8.ofNat 128) x_5)) : UInt8)) (Pl.vec (α := UInt8) Pl.one ex_7))) rfl ?_; refine TR.nil ?_
  rintro ⟨⟨⟨_, _⟩, _⟩, _⟩
  dsimp only [Fam.nextS, Fam.nextN, Fam.one, List.cons_append, List.nil_append]
  refine TC.kp [2, 4] [b2_0, b4_1] ?_
  obtain ⟨k_8, ek_8, H⟩ := bnd H
  refine TC.nmB b2_0 (nm_one ek_8) ?_; refine TC.seqS ?_; refine TS.s (OpD.ldq Pl.one) rfl ?_; refine TS.un (OpT.storeq (y := (k_8 : (Vec UInt8 16))) Pl.one) ?_; refine TS.nil ?_; refine TE.then ?_; refine TC.kp [4] [b4_1] ?_; refine TC.ret ?_
  obtain rfl := (Option.some.inj H)
  exact TE.ret1 rfl Cv.le
def split_halves (p0 : Prefix) : Option (Prefix × Prefix) :=
  (addI p0.Len (1 : Int)).bind fun x_4 => (some ((⟨p0.Bits, x_4, p0.Key⟩ : Prefix) : Prefix)).bind fun low_6 => (addI p0.Len (1 : Int)).bind fun x_7 => (split_set p0.Key p0.Len).bind fun x_8 => (some ((⟨p0.Bits, x_7, x_8⟩ : Prefix) : Prefix)).bind fun high_10 => some (low_6, high_10)
theorem split_halves_c {A : Nat → Prop} {p0 : Prefix}  {r : (Prefix × Prefix)} (w : World) (v0 : Value) (hA : ∀ k, w.heap.size ≤ k → A k)  (h0 : (D (p0 : Prefix)).p A w v0) (H : split_halves p0 = some r) :
    Calls Try.prog 29 #[v0] w (Ret A w (Tup [D (r.1 : Prefix), D (r.2 : Prefix)])) := by
  unfold split_halves at H
  refine enter1 hA Try.func29 rfl Try.ntmps29 rfl h0 ?_; refine TC.seqS ?_; refine TS.box rfl fun b1_0 => ?_; refine TS.alloc (α := Prefix) rfl fun b2_1 => ?_; refine TS.alloc (α := Prefix) rfl fun b3_2 => ?_; refine TS.nil ?_; refine TE.then ?_; refine TC.kp [1, 2, 3] [b1_0, b2_1, b3_2] ?_; refine TC.seqS ?_; refine TS.s OpY.fieldAddr rfl ?_; refine TS.s (OpD.ldq (Pl.fld (off := 0) (α := Prefix) (β := Int) Pl.one)) rfl ?_; refine TS.s OpY.fieldAddr rfl ?_; refine TS.s (OpD.ldq (Pl.fld (off := 1) (α := Prefix) (β := Int) Pl.one)) rfl ?_
  obtain ⟨x_4, ex_4, H⟩ := bnd H
  refine TS.s (OpD.add ex_4) rfl ?_; refine TS.s OpY.fieldAddr rfl ?_; refine TS.s (OpD.ldq (Pl.fld (off := 2) (α := Prefix) (β := (Vec UInt8 16)) Pl.one)) rfl ?_; refine TS.s (OpY.buildAs (⟨p0.Bits, x_4, p0.Key⟩ : Prefix) rfl ⟨_, Try.underlying25, by kernel_rfl⟩ rfl rfl) rfl ?_; refine TS.alloc (α := Prefix) rfl fun b4_4 => ?_; refine TS.un (OpT.storeq (y := ((⟨p0.Bits, x_4, p0.Key⟩ : Prefix) : Prefix)) Pl.one) ?_; refine TS.nil ?_; refine TE.then ?_; refine TC.kp [1, 2, 3, 4] [b1_0, b2_1, b3_2, b4_4] ?_
  obtain ⟨low_6, elow_6, H⟩ := bnd H
  refine TC.nmB b4_4 (nm_one elow_6) ?_; refine TC.seqD [11, 12] [] mix (by kernel_rfl) (by kernel_rfl) ?_; refine TR.s OpY.fieldAddr rfl ?_; refine TR.s (OpD.ldq (Pl.fld (off := 0) (α := Prefix) (β := Int) Pl.one)) rfl ?_; refine TR.s OpY.fieldAddr rfl ?_; refine TR.s (OpD.ldq (Pl.fld (off := 1) (α := Prefix) (β := Int) Pl.one)) rfl ?_
  obtain ⟨x_7, ex_7, H⟩ := bnd H
  refine TR.s (OpD.add ex_7) rfl ?_; refine TR.s OpY.fieldAddr rfl ?_; refine TR.s (OpD.ldq (Pl.fld (off := 2) (α := Prefix) (β := (Vec UInt8 16)) Pl.one)) rfl ?_; refine TR.s OpY.fieldAddr rfl ?_; refine TR.s (OpD.ldq (Pl.fld (off := 1) (α := Prefix) (β := Int) Pl.one)) rfl ?_
  obtain ⟨x_8, ex_8, H⟩ := bnd H
  refine TR.s (OpY.call2 fun w v0 v1 hA h0 h1 => split_set_c w v0 v1 hA (toD h0) (toD h1) ex_8) rfl ?_; refine TR.s (OpY.buildAs (⟨p0.Bits, x_7, x_8⟩ : Prefix) rfl ⟨_, Try.underlying25, by kernel_rfl⟩ rfl rfl) rfl ?_; refine TR.t (fun g => OpT.allocT (α := Prefix)) rfl ?_; refine TR.tn (fun g => (OpT.storeq (y := ((⟨p0.Bits, x_7, x_8⟩ : Prefix) : Prefix)) Pl.one)) rfl ?_; refine TR.nil ?_
  rintro ⟨⟨_, ⟨b5_8, _⟩⟩, _⟩
  dsimp only [Fam.nextS, Fam.nextN, Fam.one, List.cons_append, List.nil_append]
  refine TC.kp [2, 3, 4, 5] [b2_1, b3_2, b4_4, b5_8] ?_
  obtain ⟨high_10, ehigh_10, H⟩ := bnd H
  refine TC.nmB b5_8 (nm_one ehigh_10) ?_; refine TC.seqD [2, 3] [b2_1, b3_2] mix (by kernel_rfl) (by kernel_rfl) ?_; refine TR.s (OpD.ldq Pl.one) rfl ?_; refine TR.s (OpD.ldq Pl.one) rfl ?_; refine TR.tn (fun g => (OpT.storeq (y := (low_6 : Prefix)) Pl.one)) rfl ?_; refine TR.tn (fun g => (OpT.storeq (y := (high_10 : Prefix)) Pl.one)) rfl ?_; refine TR.nil ?_
  rintro ⟨⟨_, _⟩, _⟩
  dsimp only [Fam.nextS, Fam.nextN, Fam.one, List.cons_append, List.nil_append]
  refine TC.kp [2, 3] [b2_1, b3_2] ?_; refine TC.ret ?_
  obtain rfl := (Option.some.inj H)
  exact TE.retN rfl rfl (.cons Cv.le (.cons Cv.le .nil))
def split_Halves (p0 : Prefix) : Option (Prefix × Prefix × Int) :=
  (key_May p0).bind fun x_4 => bif (!x_4) then ((some ((⟨0, 0, Dat.z⟩ : Prefix) : Prefix)).bind fun k_5 => (some ((⟨0, 0, Dat.z⟩ : Prefix) : Prefix)).bind fun k_6 => some (k_5, k_6, (1 : Int))) else (bif (decide (p0.Len = p0.Bits)) then ((some ((⟨0, 0, Dat.z⟩ : Prefix) : Prefix)).bind fun k_7 => (some ((⟨0, 0, Dat.z⟩ : Prefix) : Prefix)).bind fun k_8 => some (k_7, k_8, (6 : Int))) else ((split_halves p0).bind fun r_9 => some (r_9.1, r_9.2, (0 : Int))))
theorem split_Halves_c {A : Nat → Prop} {p0 : Prefix}  {r : (Prefix × Prefix × Int)} (w : World) (v0 : Value) (hA : ∀ k, w.heap.size ≤ k → A k)  (h0 : (D (p0 : Prefix)).p A w v0) (H : split_Halves p0 = some r) :
    Calls Try.prog 8 #[v0] w (Ret A w (Tup [D (r.1 : Prefix), D (r.2.1 : Prefix), D (r.2.2 : Int)])) := by
  unfold split_Halves at H
  refine enter1 hA Try.func8 rfl Try.ntmps8 rfl h0 ?_; refine TC.seqS ?_; refine TS.box rfl fun b1_0 => ?_; refine TS.alloc (α := Prefix) rfl fun b2_1 => ?_; refine TS.alloc (α := Prefix) rfl fun b3_2 => ?_; refine TS.s OpY.assign rfl ?_; refine TS.nil ?_; refine TE.then ?_; refine TC.kp [1, 2, 3] [b1_0, b2_1, b3_2] ?_; refine TC.seq ?_; refine TC.seqS ?_; refine TS.s (OpD.ldq Pl.one) rfl ?_
  obtain ⟨x_4, ex_4, H⟩ := bnd H
  refine TS.s (OpY.call1 fun w v0 hA h0 => key_May_c w v0 hA (toD h0) ex_4) rfl ?_; refine TS.s OpY.notB rfl ?_; refine TS.nil ?_; refine TE.then ?_; refine TC.kp [1, 2, 3, 9] [b1_0, b2_1, b3_2] ?_; refine TC.cond (fun hc => ?_) (fun hc => ?_)
  · replace H := cT H hc
    refine TC.seqS ?_; refine TS.s (OpY.buildAs (⟨0, 0, Dat.z⟩ : Prefix) rfl ⟨_, Try.underlying25, by kernel_rfl⟩ rfl rfl) rfl ?_; refine TS.s (OpY.buildAs (⟨0, 0, Dat.z⟩ : Prefix) rfl ⟨_, Try.underlying25, by kernel_rfl⟩ rfl rfl) rfl ?_; refine TS.un (OpT.storeq (y := ((⟨0, 0, Dat.z⟩ : Prefix) : Prefix)) Pl.one) ?_; refine TS.un (OpT.storeq (y := ((⟨0, 0, Dat.z⟩ : Prefix) : Prefix)) Pl.one) ?_; refine TS.s OpY.assign rfl ?_; refine TS.nil ?_; refine TE.then ?_; refine TC.kp [2, 3, 4] [b2_1, b3_2] ?_
    obtain ⟨k_5, ek_5, H⟩ := bnd H
    refine TC.nmB b2_1 (nm_one ek_5) ?_
    obtain ⟨k_6, ek_6, H⟩ := bnd H
    refine TC.nmB b3_2 (nm_one ek_6) ?_; refine TC.ret ?_; refine TE.then_ret ?_
    obtain rfl := (Option.some.inj H)
    exact TE.retN rfl rfl (.cons Cv.le (.cons Cv.le (.cons Cv.le .nil)))
  · replace H := cF H hc
    refine TC.skip ?_; refine TE.then ?_; refine TC.kp [1, 2, 3] [b1_0, b2_1, b3_2] ?_; refine TC.seq ?_; refine TC.seqS ?_; refine TS.s OpY.fieldAddr rfl ?_; refine TS.s (OpD.ldq (Pl.fld (off := 1) (α := Prefix) (β := Int) Pl.one)) rfl ?_; refine TS.s OpY.fieldAddr rfl ?_; refine TS.s (OpD.ldq (Pl.fld (off := 0) (α := Prefix) (β := Int) Pl.one)) rfl ?_; refine TS.s OpY.eql rfl ?_; refine TS.nil ?_; refine TE.then ?_; refine TC.kp [1, 2, 3, 16] [b1_0, b2_1, b3_2] ?_; refine TC.cond (fun hc => ?_) (fun hc => ?_)
    · replace H := cT H hc
      refine TC.seqS ?_; refine TS.s (OpY.buildAs (⟨0, 0, Dat.z⟩ : Prefix) rfl ⟨_, Try.underlying25, by kernel_rfl⟩ rfl rfl) rfl ?_; refine TS.s (OpY.buildAs (⟨0, 0, Dat.z⟩ : Prefix) rfl ⟨_, Try.underlying25, by kernel_rfl⟩ rfl rfl) rfl ?_; refine TS.un (OpT.storeq (y := ((⟨0, 0, Dat.z⟩ : Prefix) : Prefix)) Pl.one) ?_; refine TS.un (OpT.storeq (y := ((⟨0, 0, Dat.z⟩ : Prefix) : Prefix)) Pl.one) ?_; refine TS.s OpY.assign rfl ?_; refine TS.nil ?_; refine TE.then ?_; refine TC.kp [2, 3, 4] [b2_1, b3_2] ?_
      obtain ⟨k_7, ek_7, H⟩ := bnd H
      refine TC.nmB b2_1 (nm_one ek_7) ?_
      obtain ⟨k_8, ek_8, H⟩ := bnd H
      refine TC.nmB b3_2 (nm_one ek_8) ?_; refine TC.ret ?_; refine TE.then_ret ?_
      obtain rfl := (Option.some.inj H)
      exact TE.retN rfl rfl (.cons Cv.le (.cons Cv.le (.cons Cv.le .nil)))
    · replace H := cF H hc
      refine TC.skip ?_; refine TE.then ?_; refine TC.kp [1, 2, 3] [b1_0, b2_1, b3_2] ?_; refine TC.seqS ?_; refine TS.s (OpD.ldq Pl.one) rfl ?_
      obtain ⟨r_9, er_9, H⟩ := bnd H
      refine TS.s (OpY.call1 fun w v0 hA h0 => split_halves_c w v0 hA (toD h0) er_9) rfl ?_; refine TS.s OpY.move rfl ?_; refine TS.s (OpY.extract rfl) rfl ?_; refine TS.s (OpY.extract rfl) rfl ?_; refine TS.alloc (α := Prefix) rfl fun b5_9 => ?_; refine TS.alloc (α := Prefix) rfl fun b6_10 => ?_; refine TS.un (OpT.storeq (y := (r_9.1 : Prefix)) Pl.one) ?_; refine TS.un (OpT.storeq (y := (r_9.2 : Prefix)) Pl.one) ?_; refine TS.nil ?_; refine TE.then ?_; refine TC.kp [2, 3, 5, 6] [b2_1, b3_2, b5_9, b6_10] ?_; refine TC.seqD [2, 3] [b2_1, b3_2] mix (by kernel_rfl) (by kernel_rfl) ?_; refine TR.s (OpD.ldq Pl.one) rfl ?_; refine TR.s (OpD.ldq Pl.one) rfl ?_; refine TR.tn (fun g => (OpT.storeq (y := (r_9.1 : Prefix)) Pl.one)) rfl ?_; refine TR.tn (fun g => (OpT.storeq (y := (r_9.2 : Prefix)) Pl.one)) rfl ?_; refine TR.s OpY.assign rfl ?_; refine TR.nil ?_
      rintro ⟨⟨_, _⟩, _⟩
      dsimp only [Fam.nextS, Fam.nextN, Fam.one, List.cons_append, List.nil_append]
      refine TC.kp [2, 3, 4] [b2_1, b3_2] ?_; refine TC.ret ?_
      obtain rfl := (Option.some.inj H)
      exact TE.retN rfl rfl (.cons Cv.le (.cons Cv.le (.cons Cv.le .nil)))
def split_whole (p0 : Prefix) : Option Prefix :=
  (subI p0.Len (1 : Int)).bind fun x_3 => (subI p0.Len (1 : Int)).bind fun x_4 => (key_Cut p0.Key x_4).bind fun x_5 => (some ((⟨p0.Bits, x_3, x_5⟩ : Prefix) : Prefix)).bind fun k_6 => some k_6
theorem split_whole_c {A : Nat → Prop} {p0 : Prefix}  {r : Prefix} (w : World) (v0 : Value) (hA : ∀ k, w.heap.size ≤ k → A k)  (h0 : (D (p0 : Prefix)).p A w v0) (H : split_whole p0 = some r) :
    Calls Try.prog 30 #[v0] w (Ret A w (D (r : Prefix))) := by
  unfold split_whole at H
  refine enter1 hA Try.func30 rfl Try.ntmps30 rfl h0 ?_; refine TC.seqS ?_; refine TS.box rfl fun b1_0 => ?_; refine TS.alloc (α := Prefix) rfl fun b2_1 => ?_; refine TS.nil ?_; refine TE.then ?_; refine TC.kp [1, 2] [b1_0, b2_1] ?_; refine TC.seqD [12] [b2_1] mix (by kernel_rfl) (by kernel_rfl) ?_; refine TR.s OpY.fieldAddr rfl ?_; refine TR.s (OpD.ldq (Pl.fld (off := 0) (α := Prefix) (β := Int) Pl.one)) rfl ?_; refine TR.s OpY.fieldAddr rfl ?_; refine TR.s (OpD.ldq (Pl.fld (off := 1) (α := Prefix) (β := Int) Pl.one)) rfl ?_
  obtain ⟨x_3, ex_3, H⟩ := bnd H
  refine TR.s (OpD.sub ex_3) rfl ?_; refine TR.s OpY.fieldAddr rfl ?_; refine TR.s (OpD.ldq (Pl.fld (off := 2) (α := Prefix) (β := (Vec UInt8 16)) Pl.one)) rfl ?_; refine TR.s OpY.fieldAddr rfl ?_; refine TR.s (OpD.ldq (Pl.fld (off := 1) (α := Prefix) (β := Int) Pl.one)) rfl ?_
  obtain ⟨x_4, ex_4, H⟩ := bnd H
  refine TR.s (OpD.sub ex_4) rfl ?_
  obtain ⟨x_5, ex_5, H⟩ := bnd H
  refine TR.s (OpY.call2 fun w v0 v1 hA h0 h1 => key_Cut_c w v0 v1 hA (toD h0) (toD h1) ex_5) rfl ?_; refine TR.s (OpY.buildAs (⟨p0.Bits, x_3, x_5⟩ : Prefix) rfl ⟨_, Try.underlying25, by kernel_rfl⟩ rfl rfl) rfl ?_; refine TR.tn (fun g => (OpT.storeq (y := ((⟨p0.Bits, x_3, x_5⟩ : Prefix) : Prefix)) Pl.one)) rfl ?_; refine TR.nil ?_
  rintro ⟨_, _⟩
  dsimp only [Fam.nextS, Fam.nextN, Fam.one, List.cons_append, List.nil_append]
  refine TC.kp [2] [b2_1] ?_
  obtain ⟨k_6, ek_6, H⟩ := bnd H
  refine TC.nmB b2_1 (nm_one ek_6) ?_; refine TC.ret ?_
  obtain rfl := (Option.some.inj H)
  exact TE.ret1 rfl Cv.le
def split_Whole (p0 : Prefix) : Option (Prefix × Int) :=
  (key_May p0).bind fun x_3 => bif (!x_3) then ((some ((⟨0, 0, Dat.z⟩ : Prefix) : Prefix)).bind fun k_4 => some (k_4, (1 : Int))) else (bif (decide (p0.Len = (0 : Int))) then ((some ((⟨0, 0, Dat.z⟩ : Prefix) : Prefix)).bind fun k_5 => some (k_5, (6 : Int))) else ((split_whole p0).bind fun x_6 => some (x_6, (0 : Int))))
theorem split_Whole_c {A : Nat → Prop} {p0 : Prefix}  {r : (Prefix × Int)} (w : World) (v0 : Value) (hA : ∀ k, w.heap.size ≤ k → A k)  (h0 : (D (p0 : Prefix)).p A w v0) (H : split_Whole p0 = some r) :
    Calls Try.prog 9 #[v0] w (Ret A w (Tup [D (r.1 : Prefix), D (r.2 : Int)])) := by
  unfold split_Whole at H
  refine enter1 hA Try.func9 rfl Try.ntmps9 rfl h0 ?_; refine TC.seqS ?_; refine TS.box rfl fun b1_0 => ?_; refine TS.alloc (α := Prefix) rfl fun b2_1 => ?_; refine TS.s OpY.assign rfl ?_; refine TS.nil ?_; refine TE.then ?_; refine TC.kp [1, 2] [b1_0, b2_1] ?_; refine TC.seq ?_; refine TC.seqS ?_; refine TS.s (OpD.ldq Pl.one) rfl ?_
  obtain ⟨x_3, ex_3, H⟩ := bnd H
  refine TS.s (OpY.call1 fun w v0 hA h0 => key_May_c w v0 hA (toD h0) ex_3) rfl ?_; refine TS.s OpY.notB rfl ?_; refine TS.nil ?_; refine TE.then ?_; refine TC.kp [1, 2, 6] [b1_0, b2_1] ?_; refine TC.cond (fun hc => ?_) (fun hc => ?_)
  · replace H := cT H hc
    refine TC.seqS ?_; refine TS.s (OpY.buildAs (⟨0, 0, Dat.z⟩ : Prefix) rfl ⟨_, Try.underlying25, by kernel_rfl⟩ rfl rfl) rfl ?_; refine TS.un (OpT.storeq (y := ((⟨0, 0, Dat.z⟩ : Prefix) : Prefix)) Pl.one) ?_; refine TS.s OpY.assign rfl ?_; refine TS.nil ?_; refine TE.then ?_; refine TC.kp [2, 3] [b2_1] ?_
    obtain ⟨k_4, ek_4, H⟩ := bnd H
    refine TC.nmB b2_1 (nm_one ek_4) ?_; refine TC.ret ?_; refine TE.then_ret ?_
    obtain rfl := (Option.some.inj H)
    exact TE.retN rfl rfl (.cons Cv.le (.cons Cv.le .nil))
  · replace H := cF H hc
    refine TC.skip ?_; refine TE.then ?_; refine TC.kp [1, 2] [b1_0, b2_1] ?_; refine TC.seq ?_; refine TC.seqS ?_; refine TS.s OpY.fieldAddr rfl ?_; refine TS.s (OpD.ldq (Pl.fld (off := 1) (α := Prefix) (β := Int) Pl.one)) rfl ?_; refine TS.s OpY.eql rfl ?_; refine TS.nil ?_; refine TE.then ?_; refine TC.kp [1, 2, 10] [b1_0, b2_1] ?_; refine TC.cond (fun hc => ?_) (fun hc => ?_)
    · replace H := cT H hc
      refine TC.seqS ?_; refine TS.s (OpY.buildAs (⟨0, 0, Dat.z⟩ : Prefix) rfl ⟨_, Try.underlying25, by kernel_rfl⟩ rfl rfl) rfl ?_; refine TS.un (OpT.storeq (y := ((⟨0, 0, Dat.z⟩ : Prefix) : Prefix)) Pl.one) ?_; refine TS.s OpY.assign rfl ?_; refine TS.nil ?_; refine TE.then ?_; refine TC.kp [2, 3] [b2_1] ?_
      obtain ⟨k_5, ek_5, H⟩ := bnd H
      refine TC.nmB b2_1 (nm_one ek_5) ?_; refine TC.ret ?_; refine TE.then_ret ?_
      obtain rfl := (Option.some.inj H)
      exact TE.retN rfl rfl (.cons Cv.le (.cons Cv.le .nil))
    · replace H := cF H hc
      refine TC.skip ?_; refine TE.then ?_; refine TC.kp [1, 2] [b1_0, b2_1] ?_; refine TC.seqS ?_; refine TS.s (OpD.ldq Pl.one) rfl ?_
      obtain ⟨x_6, ex_6, H⟩ := bnd H
      refine TS.s (OpY.call1 fun w v0 hA h0 => split_whole_c w v0 hA (toD h0) ex_6) rfl ?_; refine TS.un (OpT.storeq (y := (x_6 : Prefix)) Pl.one) ?_; refine TS.s OpY.assign rfl ?_; refine TS.nil ?_; refine TE.then ?_; refine TC.kp [2, 3] [b2_1] ?_; refine TC.ret ?_
      obtain rfl := (Option.some.inj H)
      exact TE.retN rfl rfl (.cons Cv.le (.cons Cv.le .nil))
def split_Apart_l2 (l_7 : (List Prefix)) (x_18 : Int) (longer_20 : (List Prefix)) : Option ((Int × (List Prefix)) ⊕ (List Prefix)) :=
  bif (decide (x_18 < (l_7.length : Int))) then ((idx l_7 x_18).bind fun x_22 => (split_halves x_22).bind fun r_24 => (room 32 ((longer_20.length + ([r_24.1, r_24.2] : List Prefix).length : Nat) : Int)).bind fun u_28 => (some ((longer_20 ++ ([r_24.1, r_24.2] : List Prefix)) : (List Prefix))).bind fun l_29 => (addI x_18 (1 : Int)).bind fun x_30 => some (.inl (x_30, l_29))) else (some (.inr longer_20))
def split_Apart_l1 (x_4 : Int) (l_7 : (List Prefix)) (x_8 : Int) : Option (((List Prefix) × Int) ⊕ (List Prefix)) :=
  bif (decide (x_8 < x_4)) then ((mulI (2 : Int) (l_7.length : Int)).bind fun x_10 => (room 32 x_10).bind fun u_11 => (cut (Int.toNat x_10) 0 (0 : Int)).bind fun u_12 => (some (((List.replicate (Int.toNat x_10) (Dat.z : Prefix)).take (Int.toNat (0 : Int))) : (List Prefix))).bind fun l_14 => (loopO (fun s => split_Apart_l2 l_7 s.1 s.2) ((0 : Int), l_14)).bind fun longer_16 => (addI x_8 (1 : Int)).bind fun x_31 => some (.inl (longer_16, x_31))) else (some (.inr l_7))
def split_Apart (p0 : Prefix) (n0 : Int) : Option ((List Prefix) × Int) :=
  (key_May p0).bind fun x_2 => bif (((!x_2) || (decide (n0 < p0.Len))) || (decide (n0 > p0.Bits))) then (some (([] : List Prefix), (1 : Int))) else ((subI n0 p0.Len).bind fun x_3 => bif (decide (x_3 > (8 : Int))) then (some (([] : List Prefix), (3 : Int))) else ((subI n0 p0.Len).bind fun x_4 => (loopO (fun s => split_Apart_l1 x_4 s.1 s.2) (([p0] : List Prefix), (0 : Int))).bind fun l_5 => some (l_5, (0 : Int))))
theorem split_Apart_c {A : Nat → Prop} {p0 : Prefix} {n0 : Int}  {r : ((List Prefix) × Int)} (w : World) (v0 v1 : Value) (hA : ∀ k, w.heap.size ≤ k → A k)  (h0 : (D (p0 : Prefix)).p A w v0) (h1 : (D (n0 : Int)).p A w v1) (H : split_Apart p0 n0 = some r) :
    Calls Try.prog 10 #[v0, v1] w (Ret A w (Tup [D (r.1 : (List Prefix)), D (r.2 : Int)])) := by
  unfold split_Apart at H
  refine enter2 hA Try.func10 rfl Try.ntmps10 rfl h0 h1 ?_; refine TC.seqS ?_; refine TS.box rfl fun b2_0 => ?_; refine TS.s OpY.assign rfl ?_; refine TS.s OpY.assign rfl ?_; refine TS.nil ?_; refine TE.then ?_; refine TC.kp [1, 2] [b2_0] ?_; refine TC.seq ?_; refine TC.seqS ?_; refine TS.s (OpD.ldq Pl.one) rfl ?_
  obtain ⟨x_2, ex_2, H⟩ := bnd H
  refine TS.s (OpY.call1 fun w v0 hA h0 => key_May_c w v0 hA (toD h0) ex_2) rfl ?_; refine TS.s OpY.notB rfl ?_; refine TS.s OpY.move rfl ?_; refine TS.g 15 rfl (fun hg => OpY.move) rfl ?_; refine TS.g 15 rfl (fun hg => OpY.fieldAddr) rfl ?_; refine TS.g 15 rfl (fun hg => (OpD.ldq (Pl.fld (off := 1) (α := Prefix) (β := Int) Pl.one))) rfl ?_; refine TS.g 15 rfl (fun hg => OpY.lss) rfl ?_; refine TS.s OpY.pickOr rfl ?_; refine TS.s OpY.move rfl ?_; refine TS.g 21 rfl (fun hg => OpY.move) rfl ?_; refine TS.g 21 rfl (fun hg => OpY.fieldAddr) rfl ?_; refine TS.g 21 rfl (fun hg => (OpD.ldq (Pl.fld (off := 0) (α := Prefix) (β := Int) Pl.one))) rfl ?_; refine TS.g 21 rfl (fun hg => OpY.gtr) rfl ?_; refine TS.s OpY.pickOr rfl ?_; refine TS.nil ?_; refine TE.then ?_; refine TC.kp [1, 2, 26] [b2_0] ?_; refine TC.cond (fun hc => ?_) (fun hc => ?_)
  · replace H := cT H hc
    refine TC.seqS ?_; refine TS.s OpY.assign rfl ?_; refine TS.s OpY.assign rfl ?_; refine TS.nil ?_; refine TE.then ?_; refine TC.kp [4, 5] [] ?_; refine TC.ret ?_; refine TE.then_ret ?_
    obtain rfl := (Option.some.inj H)
    exact TE.retN rfl rfl (.cons Cv.le (.cons Cv.le .nil))
  · replace H := cF H hc
    refine TC.skip ?_; refine TE.then ?_; refine TC.kp [1, 2] [b2_0] ?_; refine TC.seq ?_; refine TC.seqS ?_; refine TS.s OpY.move rfl ?_; refine TS.s OpY.fieldAddr rfl ?_; refine TS.s (OpD.ldq (Pl.fld (off := 1) (α := Prefix) (β := Int) Pl.one)) rfl ?_
    obtain ⟨x_3, ex_3, H⟩ := bnd H
    refine TS.s (OpD.sub ex_3) rfl ?_; refine TS.s OpY.gtr rfl ?_; refine TS.nil ?_; refine TE.then ?_; refine TC.kp [1, 2, 31] [b2_0] ?_; refine TC.cond (fun hc => ?_) (fun hc => ?_)
    · replace H := cT H hc
      refine TC.seqS ?_; refine TS.s OpY.assign rfl ?_; refine TS.s OpY.assign rfl ?_; refine TS.nil ?_; refine TE.then ?_; refine TC.kp [4, 5] [] ?_; refine TC.ret ?_; refine TE.then_ret ?_
      obtain rfl := (Option.some.inj H)
      exact TE.retN rfl rfl (.cons Cv.le (.cons Cv.le .nil))
    · replace H := cF H hc
      refine TC.skip ?_; refine TE.then ?_; refine TC.kp [1, 2] [b2_0] ?_; refine TC.seqS ?_; refine TS.s (OpD.ldq Pl.one) rfl ?_; refine TS.s (OpY.buildSlice [.tmp 32] rfl rfl (by decide)) rfl ?_; refine TS.s OpY.assign rfl ?_; refine TS.nil ?_; refine TE.then ?_; refine TC.kp [1, 2, 6] [b2_0] ?_; refine TC.seq ?_; refine TC.seqS ?_; refine TS.s OpY.move rfl ?_; refine TS.s OpY.fieldAddr rfl ?_; refine TS.s (OpD.ldq (Pl.fld (off := 1) (α := Prefix) (β := Int) Pl.one)) rfl ?_
      obtain ⟨x_4, ex_4, H⟩ := bnd H
      refine TS.s (OpD.sub ex_4) rfl ?_; refine TS.s OpY.move rfl ?_; refine TS.nil ?_; refine TE.then ?_; refine TC.kp [6, 37, 38] [] ?_
      obtain ⟨o_6, H6, H⟩ := bnd H
      refine TC.cutP (fun s : (List Prefix) => o_6 = s) (fun (l_5 : (List Prefix)) (_ : Unit) => (Env.set Env.nil 6 (D (l_5 : (List Prefix))))) (fun (l_5 : (List Prefix)) (_ : Unit) => []) ?_ ?_
      · skip
        refine TC.block ?_; refine TC.loopP H6 (fun ⟨l_7, x_8⟩ (_ : Unit) => (Env.set (Env.set (Env.set Env.nil 6 (D (l_7 : (List Prefix)))) 37 (D (x_4 : Int))) 38 (D (x_8 : Int)))) (fun ⟨l_7, x_8⟩ (_ : Unit) => []) () (Env.cv (Env.cv (Env.cv (Env.le_nil _)))) (Less.nil _) ?_
        rintro ⟨l_7, x_8⟩ ⟨⟩ x_9 H9 he9
        replace H9 : split_Apart_l1 x_4 l_7 x_8 = some x_9 := H9
        unfold split_Apart_l1 at H9
        refine TC.seqS ?_; refine TS.s OpY.lss rfl ?_; refine TS.nil ?_; refine TE.then ?_; refine TC.kp [6, 37, 38, 39] [] ?_; refine TC.seq ?_; refine TC.cond (fun hc => ?_) (fun hc => ?_)
        · replace H9 := cT H9 hc
          refine TC.skip ?_; refine TE.then ?_; refine TC.kp [6, 37, 38] [] ?_; refine TC.seq ?_; refine TC.block ?_; refine TC.seqS ?_; refine TS.s OpY.move rfl ?_; refine TS.s OpD.len rfl ?_
          obtain ⟨x_10, ex_10, H9⟩ := bnd H9
          refine TS.s (OpD.mul ex_10) rfl ?_
          obtain ⟨u_11, eu_11, H9⟩ := bnd H9
          obtain ⟨u_12, eu_12, H9⟩ := bnd H9
          refine TS.make eu_11 (make_le eu_11 eu_12) rfl fun b43_12 => ?_; refine TS.s OpY.assign rfl ?_; refine TS.nil ?_; refine TE.then ?_; refine TC.kp [6, 7, 37, 38] [b43_12] ?_; refine TC.trim b43_12 (Int.toNat (0 : Int)) (make_le2 eu_11 eu_12) ?_; refine TC.see 7 _ (Sl_le (List.length_take_of_le (l := (List.replicate (Int.toNat x_10) (Dat.z : Prefix))) (make_le2 eu_11 eu_12)).symm) ?_
          obtain ⟨l_14, el_14, H9⟩ := bnd H9
          refine TC.nmB b43_12 (nm_row el_14) ?_; refine TC.see 7 _ (nm_sl2 el_14 rfl) ?_; refine TC.seq ?_; refine TC.seqS ?_; refine TS.s OpY.move rfl ?_; refine TS.s OpD.len rfl ?_; refine TS.s OpY.move rfl ?_; refine TS.nil ?_; refine TE.then ?_; refine TC.kp [7, 37, 38, 44, 45, 46] [b43_12] ?_
          obtain ⟨o_17, H17, H9⟩ := bnd H9
          refine TC.cutP (fun s : (List Prefix) => o_17 = s) (fun (longer_16 : (List Prefix)) (⟨b_14, p_14, c_14⟩ : Nat × Prop × Nat) => (Env.set (Env.set (Env.set Env.nil 7 (Sl b_14 p_14 0 longer_16.length c_14)) 37 (D (x_4 : Int))) 38 (D (x_8 : Int)))) (fun (longer_16 : (List Prefix)) (⟨b_14, p_14, c_14⟩ : Nat × Prop × Nat) => [⟨b_14, p_14, (Row (longer_16 : List Prefix) c_14)⟩]) ?_ ?_
          · skip
            refine TC.block ?_; refine TC.loopP H17 (fun ⟨x_18, longer_20⟩ (⟨b_18, p_18, c_18⟩ : Nat × Prop × Nat) => (Env.set (Env.set (Env.set (Env.set (Env.set (Env.set Env.nil 7 (Sl b_18 p_18 0 longer_20.length c_18)) 37 (D (x_4 : Int))) 38 (D (x_8 : Int))) 44 (D (l_7 : (List Prefix)))) 45 (D ((l_7.length : Int) : Int))) 46 (D (x_18 : Int)))) (fun ⟨x_18, longer_20⟩ (⟨b_18, p_18, c_18⟩ : Nat × Prop × Nat) => [⟨b_18, p_18, (Row (longer_20 : List Prefix) c_18)⟩]) ⟨b43_12, True, (Int.toNat x_10)⟩ (Env.cv (Env.cv (Env.cv (Env.cv (Env.cv (Env.cvBy (Sl_le rfl) (Env.le_nil _))))))) (Less.pk rfl (Less.nil _)) ?_
            rintro ⟨x_18, longer_20⟩ ⟨b_18, p_18, c_18⟩ x_21 H21 he21
            replace H21 : split_Apart_l2 l_7 x_18 longer_20 = some x_21 := H21
            unfold split_Apart_l2 at H21
            refine TC.seqS ?_; refine TS.s OpY.lss rfl ?_; refine TS.nil ?_; refine TE.then ?_; refine TC.kp [7, 37, 38, 44, 45, 46, 47] [b_18] ?_; refine TC.seq ?_; refine TC.cond (fun hc => ?_) (fun hc => ?_)
            · replace H21 := cT H21 hc
              refine TC.skip ?_; refine TE.then ?_; refine TC.kp [7, 37, 38, 44, 45, 46] [b_18] ?_; refine TC.seq ?_; refine TC.block ?_; refine TC.seqS ?_
              obtain ⟨x_22, ex_22, H21⟩ := bnd H21
              refine TS.s (OpD.index ex_22) rfl ?_; refine TS.s OpY.load rfl ?_; refine TS.alloc (α := Prefix) rfl fun b9_22 => ?_; refine TS.un (OpT.storeq (y := (x_22 : Prefix)) Pl.one) ?_; refine TS.nil ?_; refine TE.then ?_; refine TC.kp [7, 9, 37, 38, 44, 45, 46] [b_18, b9_22] ?_; refine TC.seqS ?_; refine TS.s (OpD.ldq Pl.one) rfl ?_
              obtain ⟨r_24, er_24, H21⟩ := bnd H21
              refine TS.s (OpY.call1 fun w v0 hA h0 => split_halves_c w v0 hA (toD h0) er_24) rfl ?_; refine TS.s OpY.move rfl ?_; refine TS.s (OpY.extract rfl) rfl ?_; refine TS.s (OpY.extract rfl) rfl ?_; refine TS.alloc (α := Prefix) rfl fun b10_24 => ?_; refine TS.alloc (α := Prefix) rfl fun b11_25 => ?_; refine TS.un (OpT.storeq (y := (r_24.1 : Prefix)) Pl.one) ?_; refine TS.un (OpT.storeq (y := (r_24.2 : Prefix)) Pl.one) ?_; refine TS.nil ?_; refine TE.then ?_; refine TC.kp [7, 10, 11, 37, 38, 44, 45, 46] [b_18, b10_24, b11_25] ?_; refine TC.regionS ?_; refine TS.s OpY.move rfl ?_; refine TS.s (OpD.ldq Pl.one) rfl ?_; refine TS.s (OpD.ldq Pl.one) rfl ?_; refine TS.s (OpY.buildSlice [.tmp 56, .tmp 57] rfl rfl (by decide)) rfl ?_
              obtain ⟨u_28, eu_28, H21⟩ := bnd H21
              refine TS.app (ys := ([r_24.1, r_24.2] : List Prefix)) inferInstance eu_28 rfl rfl rfl fun b59_26 p59_26 c59_26 => ?_; refine TS.s OpY.assign rfl ?_; refine TS.nil ?_; refine TE.kp [7, 37, 38, 44, 45, 46] [b59_26] ?_
              obtain ⟨l_29, el_29, H21⟩ := bnd H21
              refine TE.nmB b59_26 (nm_row el_29) ?_; refine TE.see 7 _ (nm_sl2 el_29 rfl) ?_; refine TE.inBlock_normal ?_; refine TE.then ?_; refine TC.kp [7, 37, 38, 44, 45, 46] [b59_26] ?_; refine TC.regionS ?_
              obtain ⟨x_30, ex_30, H21⟩ := bnd H21
              refine TS.s (OpD.add ex_30) rfl ?_; refine TS.s OpY.move rfl ?_; refine TS.nil ?_; refine TE.kp [7, 37, 38, 44, 45, 46] [b59_26] ?_; exact TE.backP ⟨x_30, l_29⟩ ⟨b59_26, p59_26, c59_26⟩ (Option.some.inj H21).symm (Env.cv (Env.cv (Env.cv (Env.cv (Env.cv (Env.cvBy (Sl_le rfl) (Env.le_nil _))))))) (Less.pk rfl (Less.nil _))
            · replace H21 := cF H21 hc
              refine TC.exit ?_; refine TE.then_exit ?_; refine TE.then_exit ?_; refine TE.inBlock_here ?_; exact TE.cutP longer_20 ⟨b_18, p_18, c_18⟩ (he21 _ (Option.some.inj H21).symm).symm (Env.cv (Env.cv (Env.cvBy (Sl_le rfl) (Env.le_nil _)))) (Less.pk rfl (Less.nil _))
          rintro longer_16 ⟨b_14, p_14, c_14⟩ hp
          replace hp := hp.symm
          subst hp
          refine TE.then ?_; refine TC.kp [7, 37, 38] [b_14] ?_; refine TC.regionS ?_; refine TS.s OpY.move rfl ?_; refine TS.s OpY.assign rfl ?_; refine TS.nil ?_; refine TE.kp [6, 37, 38] [b_14] ?_; refine TE.inBlock_normal ?_; refine TE.then ?_; refine TC.kp [6, 37, 38] [b_14] ?_; refine TC.regionS ?_
          obtain ⟨x_31, ex_31, H9⟩ := bnd H9
          refine TS.s (OpD.add ex_31) rfl ?_; refine TS.s OpY.move rfl ?_; refine TS.nil ?_; refine TE.kp [6, 37, 38] [b_14] ?_; refine TE.pub b_14 (PubE.set 6 (PubC.sv PlS.all rfl) PubE.refl) ?_; exact TE.backP ⟨longer_16, x_31⟩ () (Option.some.inj H9).symm (Env.cv (Env.cv (Env.cv (Env.le_nil _)))) (Less.nil _)
        · replace H9 := cF H9 hc
          refine TC.exit ?_; refine TE.then_exit ?_; refine TE.then_exit ?_; refine TE.inBlock_here ?_; exact TE.cutP l_7 () (he9 _ (Option.some.inj H9).symm).symm (Env.cv (Env.le_nil _)) (Less.nil _)
      rintro l_5 ⟨⟩ hp
      replace hp := hp.symm
      subst hp
      refine TE.then ?_; refine TC.kp [6] [] ?_; refine TC.seqS ?_; refine TS.s OpY.move rfl ?_; refine TS.s OpY.assign rfl ?_; refine TS.s OpY.assign rfl ?_; refine TS.nil ?_; refine TE.then ?_; refine TC.kp [4, 5] [] ?_; refine TC.ret ?_
      obtain rfl := (Option.some.inj H)
      exact TE.retN rfl rfl (.cons Cv.le (.cons Cv.le .nil))
def split_Without_l1 (q0 : Prefix) (ahead_12 : (List Prefix)) (behind_14 : (List Prefix)) (p_15 : Prefix) : Option (((List Prefix) × (List Prefix) × Prefix) ⊕ ((List Prefix) × (List Prefix))) :=
  bif (decide (p_15.Len < q0.Len)) then ((split_halves p_15).bind fun r_17 => (key_Covers r_17.1 q0).bind fun x_20 => bif x_20 then ((room 32 ((behind_14.length + ([r_17.2] : List Prefix).length : Nat) : Int)).bind fun u_22 => (some ((behind_14 ++ ([r_17.2] : List Prefix)) : (List Prefix))).bind fun l_23 => some (.inl (ahead_12, l_23, r_17.1))) else ((room 32 ((ahead_12.length + ([r_17.1] : List Prefix).length : Nat) : Int)).bind fun u_25 => (some ((ahead_12 ++ ([r_17.1] : List Prefix)) : (List Prefix))).bind fun l_26 => some (.inl (l_26, behind_14, r_17.2)))) else (some (.inr (ahead_12, behind_14)))
def split_Without (p0 : Prefix) (q0 : Prefix) : Option ((List Prefix) × Int) :=
  (key_May p0).bind fun x_3 => (gb (!(!x_3)) (key_May q0)).bind fun x_4 => (gb (!((!x_3) || (!x_4))) (key_Covers p0 q0)).bind fun x_5 => bif (((!x_3) || (!x_4)) || (!x_5)) then (some (([] : List Prefix), (1 : Int))) else ((loopO (fun s => split_Without_l1 q0 s.1 s.2.1 s.2.2) ([], [], p0)).bind fun o_10 => el2 o_10 (fun ahead_7 behind_9 => (slices_Reverse_api_Prefix behind_9).bind fun x_27 => (lenI x_27.length behind_9.length).bind fun u_29 => (room 32 ((ahead_7.length + x_27.length : Nat) : Int)).bind fun u_31 => (some ((ahead_7 ++ x_27) : (List Prefix))).bind fun l_32 => some (l_32, (0 : Int))))
theorem split_Without_c {A : Nat → Prop} {p0 : Prefix} {q0 : Prefix}  {r : ((List Prefix) × Int)} (w : World) (v0 v1 : Value) (hA : ∀ k, w.heap.size ≤ k → A k)  (h0 : (D (p0 : Prefix)).p A w v0) (h1 : (D (q0 : Prefix)).p A w v1) (H : split_Without p0 q0 = some r) :
    Calls Try.prog 11 #[v0, v1] w (Ret A w (Tup [D (r.1 : (List Prefix)), D (r.2 : Int)])) := by
  unfold split_Without at H
  refine enter2 hA Try.func11 rfl Try.ntmps11 rfl h0 h1 ?_; refine TC.seqS ?_; refine TS.box rfl fun b2_0 => ?_; refine TS.box rfl fun b3_1 => ?_; refine TS.s OpY.assign rfl ?_; refine TS.s OpY.assign rfl ?_; refine TS.nil ?_; refine TE.then ?_; refine TC.kp [2, 3] [b2_0, b3_1] ?_; refine TC.seq ?_; refine TC.seqS ?_; refine TS.s (OpD.ldq Pl.one) rfl ?_
  obtain ⟨x_3, ex_3, H⟩ := bnd H
  refine TS.s (OpY.call1 fun w v0 hA h0 => key_May_c w v0 hA (toD h0) ex_3) rfl ?_; refine TS.s OpY.notB rfl ?_; refine TS.s OpY.move rfl ?_; refine TS.g 13 rfl (fun hg => (OpD.ldq Pl.one)) rfl ?_
  obtain ⟨x_4, ex_4, H⟩ := bnd H
  refine TS.g 13 rfl (fun hg => (OpY.call1 fun w v0 hA h0 => key_May_c w v0 hA (toD h0) (gb_some ex_4 (nF hg.h)))) rfl ?_; refine TS.g 13 rfl (fun hg => OpY.notB) rfl ?_; refine TS.s OpY.pickOr rfl ?_; refine TS.s OpY.move rfl ?_; refine TS.g 18 rfl (fun hg => (OpD.ldq Pl.one)) rfl ?_; refine TS.g 18 rfl (fun hg => (OpD.ldq Pl.one)) rfl ?_
  obtain ⟨x_5, ex_5, H⟩ := bnd H
  refine TS.g 18 rfl (fun hg => (OpY.call2 fun w v0 v1 hA h0 h1 => key_Covers_c w v0 v1 hA (toD h0) (toD h1) (gb_some ex_5 (nF hg.h)))) rfl ?_; refine TS.g 18 rfl (fun hg => OpY.notB) rfl ?_; refine TS.s OpY.pickOr rfl ?_; refine TS.nil ?_; refine TE.then ?_; refine TC.kp [2, 3, 23] [b2_0, b3_1] ?_; refine TC.cond (fun hc => ?_) (fun hc => ?_)
  · replace H := cT H hc
    refine TC.seqS ?_; refine TS.s OpY.assign rfl ?_; refine TS.s OpY.assign rfl ?_; refine TS.nil ?_; refine TE.then ?_; refine TC.kp [4, 5] [] ?_; refine TC.ret ?_; refine TE.then_ret ?_
    obtain rfl := (Option.some.inj H)
    exact TE.retN rfl rfl (.cons Cv.le (.cons Cv.le .nil))
  · replace H := cF H hc
    refine TC.skip ?_; refine TE.then ?_; refine TC.kp [2, 3] [b2_0, b3_1] ?_; refine TC.seqS ?_; refine TS.s OpY.assign rfl ?_; refine TS.s OpY.assign rfl ?_; refine TS.nil ?_; refine TE.then ?_; refine TC.kp [2, 3, 6, 7] [b2_0, b3_1] ?_; refine TC.seq ?_
    obtain ⟨o_10, H10, H⟩ := bnd H
    refine TC.cutP (fun s : ((List Prefix) × (List Prefix)) => o_10 = s) (fun ⟨ahead_7, behind_9⟩ (⟨b_5, p_5, c_5, b_7, p_7, c_7⟩ : Nat × Prop × Nat × Nat × Prop × Nat) => (Env.set (Env.set Env.nil 6 (Sl b_5 p_5 0 ahead_7.length c_5)) 7 (Sl b_7 p_7 0 behind_9.length c_7))) (fun ⟨ahead_7, behind_9⟩ (⟨b_5, p_5, c_5, b_7, p_7, c_7⟩ : Nat × Prop × Nat × Nat × Prop × Nat) => [⟨b_5, p_5, (Row (ahead_7 : List Prefix) c_5)⟩, ⟨b_7, p_7, (Row (behind_9 : List Prefix) c_7)⟩]) ?_ ?_
    · skip
      refine TC.block ?_; refine TC.loopP H10 (fun ⟨ahead_12, behind_14, p_15⟩ (⟨b_10, p_10, c_10, b_12, p_12, c_12⟩ : Nat × Prop × Nat × Nat × Prop × Nat) => (Env.set (Env.set (Env.set (Env.set Env.nil 2 (Pt b2_0 0)) 3 (Pt b3_1 0)) 6 (Sl b_10 p_10 0 ahead_12.length c_10)) 7 (Sl b_12 p_12 0 behind_14.length c_12))) (fun ⟨ahead_12, behind_14, p_15⟩ (⟨b_10, p_10, c_10, b_12, p_12, c_12⟩ : Nat × Prop × Nat × Nat × Prop × Nat) => [⟨b_10, p_10, (Row (ahead_12 : List Prefix) c_10)⟩, ⟨b_12, p_12, (Row (behind_14 : List Prefix) c_12)⟩, ⟨b2_0, True, (One (p_15 : Prefix))⟩, ⟨b3_1, True, (One (q0 : Prefix))⟩]) ⟨0, False, 0, 0, False, 0⟩ (Env.cvBy NilS.sl0 (Env.cvBy NilS.sl0 (Env.cv (Env.cv (Env.le_nil _))))) (Less.nilRow (Less.nilRow (Less.pk rfl (Less.pk rfl (Less.nil _))))) ?_
      rintro ⟨ahead_12, behind_14, p_15⟩ ⟨b_10, p_10, c_10, b_12, p_12, c_12⟩ x_16 H16 he16
      replace H16 : split_Without_l1 q0 ahead_12 behind_14 p_15 = some x_16 := H16
      unfold split_Without_l1 at H16
      refine TC.seq ?_; refine TC.seqS ?_; refine TS.s OpY.fieldAddr rfl ?_; refine TS.s (OpD.ldq (Pl.fld (off := 1) (α := Prefix) (β := Int) Pl.one)) rfl ?_; refine TS.s OpY.fieldAddr rfl ?_; refine TS.s (OpD.ldq (Pl.fld (off := 1) (α := Prefix) (β := Int) Pl.one)) rfl ?_; refine TS.s OpY.lss rfl ?_; refine TS.nil ?_; refine TE.then ?_; refine TC.kp [2, 3, 6, 7, 28] [b2_0, b3_1, b_10, b_12] ?_; refine TC.cond (fun hc => ?_) (fun hc => ?_)
      · replace H16 := cT H16 hc
        refine TC.skip ?_; refine TE.then ?_; refine TC.kp [2, 3, 6, 7] [b2_0, b3_1, b_10, b_12] ?_; refine TC.block ?_; refine TC.seqS ?_; refine TS.s (OpD.ldq Pl.one) rfl ?_
        obtain ⟨r_17, er_17, H16⟩ := bnd H16
        refine TS.s (OpY.call1 fun w v0 hA h0 => split_halves_c w v0 hA (toD h0) er_17) rfl ?_; refine TS.s OpY.move rfl ?_; refine TS.s (OpY.extract rfl) rfl ?_; refine TS.s (OpY.extract rfl) rfl ?_; refine TS.alloc (α := Prefix) rfl fun b8_17 => ?_; refine TS.alloc (α := Prefix) rfl fun b9_18 => ?_; refine TS.un (OpT.storeq (y := (r_17.1 : Prefix)) Pl.one) ?_; refine TS.un (OpT.storeq (y := (r_17.2 : Prefix)) Pl.one) ?_; refine TS.nil ?_; refine TE.then ?_; refine TC.kp [2, 3, 6, 7, 8, 9] [b2_0, b3_1, b_10, b_12, b8_17, b9_18] ?_; refine TC.seqS ?_; refine TS.s (OpD.ldq Pl.one) rfl ?_; refine TS.s (OpD.ldq Pl.one) rfl ?_
        obtain ⟨x_20, ex_20, H16⟩ := bnd H16
        refine TS.s (OpY.call2 fun w v0 v1 hA h0 h1 => key_Covers_c w v0 v1 hA (toD h0) (toD h1) ex_20) rfl ?_; refine TS.nil ?_; refine TE.then ?_; refine TC.kp [2, 3, 6, 7, 8, 9, 36] [b2_0, b3_1, b_10, b_12, b8_17, b9_18] ?_; refine TC.cond (fun hc => ?_) (fun hc => ?_)
        · replace H16 := cT H16 hc
          refine TC.seqS ?_; refine TS.s OpY.move rfl ?_; refine TS.s (OpD.ldq Pl.one) rfl ?_; refine TS.s (OpY.buildSlice [.tmp 38] rfl rfl (by decide)) rfl ?_
          obtain ⟨u_22, eu_22, H16⟩ := bnd H16
          refine TS.app (ys := ([r_17.2] : List Prefix)) inferInstance eu_22 rfl rfl rfl fun b40_20 p40_20 c40_20 => ?_; refine TS.s OpY.assign rfl ?_; refine TS.nil ?_; refine TE.then ?_; refine TC.kp [2, 3, 6, 7, 8] [b2_0, b3_1, b_10, b40_20, b8_17] ?_
          obtain ⟨l_23, el_23, H16⟩ := bnd H16
          refine TC.nmB b40_20 (nm_row el_23) ?_; refine TC.see 7 _ (nm_sl2 el_23 rfl) ?_; refine TC.regionS ?_; refine TS.s (OpD.ldq Pl.one) rfl ?_; refine TS.un (OpT.storeq (y := (r_17.1 : Prefix)) Pl.one) ?_; refine TS.nil ?_; refine TE.kp [2, 3, 6, 7] [b2_0, b3_1, b_10, b40_20] ?_; refine TE.inBlock_normal ?_; exact TE.backP ⟨ahead_12, l_23, r_17.1⟩ ⟨b_10, p_10, c_10, b40_20, p40_20, c40_20⟩ (Option.some.inj H16).symm (Env.cvBy (Sl_le rfl) (Env.cvBy (Sl_le rfl) (Env.cv (Env.cv (Env.le_nil _))))) (Less.pk rfl (Less.pk rfl (Less.pk rfl (Less.pk rfl (Less.nil _)))))
        · replace H16 := cF H16 hc
          refine TC.seqS ?_; refine TS.s OpY.move rfl ?_; refine TS.s (OpD.ldq Pl.one) rfl ?_; refine TS.s (OpY.buildSlice [.tmp 43] rfl rfl (by decide)) rfl ?_
          obtain ⟨u_25, eu_25, H16⟩ := bnd H16
          refine TS.app (ys := ([r_17.1] : List Prefix)) inferInstance eu_25 rfl rfl rfl fun b45_23 p45_23 c45_23 => ?_; refine TS.s OpY.assign rfl ?_; refine TS.nil ?_; refine TE.then ?_; refine TC.kp [2, 3, 6, 7, 9] [b2_0, b3_1, b45_23, b_12, b9_18] ?_
          obtain ⟨l_26, el_26, H16⟩ := bnd H16
          refine TC.nmB b45_23 (nm_row el_26) ?_; refine TC.see 6 _ (nm_sl2 el_26 rfl) ?_; refine TC.regionS ?_; refine TS.s (OpD.ldq Pl.one) rfl ?_; refine TS.un (OpT.storeq (y := (r_17.2 : Prefix)) Pl.one) ?_; refine TS.nil ?_; refine TE.kp [2, 3, 6, 7] [b2_0, b3_1, b45_23, b_12] ?_; refine TE.inBlock_normal ?_; exact TE.backP ⟨l_26, behind_14, r_17.2⟩ ⟨b45_23, p45_23, c45_23, b_12, p_12, c_12⟩ (Option.some.inj H16).symm (Env.cvBy (Sl_le rfl) (Env.cvBy (Sl_le rfl) (Env.cv (Env.cv (Env.le_nil _))))) (Less.pk rfl (Less.pk rfl (Less.pk rfl (Less.pk rfl (Less.nil _)))))
      · replace H16 := cF H16 hc
        refine TC.exit ?_; refine TE.then_exit ?_; refine TE.then_exit ?_; refine TE.inBlock_here ?_; exact TE.cutP ⟨ahead_12, behind_14⟩ ⟨b_10, p_10, c_10, b_12, p_12, c_12⟩ (he16 _ (Option.some.inj H16).symm).symm (Env.cvBy (Sl_le rfl) (Env.cvBy (Sl_le rfl) (Env.le_nil _))) (Less.pk rfl (Less.pk rfl (Less.nil _)))
    rintro ⟨ahead_7, behind_9⟩ ⟨b_5, p_5, c_5, b_7, p_7, c_7⟩ hp
    replace hp := hp.symm
    subst hp
    replace H := el2_mk H
    refine TE.then ?_; refine TC.kp [6, 7] [b_5, b_7] ?_; refine TC.seqS ?_; refine TS.s OpY.move rfl ?_
    obtain ⟨x_27, ex_27, H⟩ := bnd H
    refine TS.t (OpT.callO1 [b_7] fun w v0 hA hO hap hks h0 => slices_Reverse_api_Prefix_o w v0 hA hO hap hks (slD rfl h0) ex_27) rfl fun _ => ?_; dsimp only [List.cons_append, List.nil_append]
    obtain ⟨u_29, eu_29, H⟩ := bnd H
    refine TS.nil ?_; refine TE.then ?_; refine TC.kp [6, 7] [b_5, b_7] ?_; refine TC.seqS ?_; refine TS.s OpY.move rfl ?_; refine TS.s OpY.move rfl ?_
    obtain ⟨u_31, eu_31, H⟩ := bnd H
    refine TS.app (ys := x_27) (SrcOf.sv PlS.all (lenI_eq eu_29)) eu_31 rfl rfl rfl fun b51_29 p51_29 c51_29 => ?_; refine TS.s OpY.assign rfl ?_; refine TS.s OpY.assign rfl ?_; refine TS.nil ?_; refine TE.then ?_; refine TC.kp [4, 5] [b51_29] ?_
    obtain ⟨l_32, el_32, H⟩ := bnd H
    refine TC.nmB b51_29 (nm_row el_32) ?_; refine TC.see 4 _ (nm_sl2 el_32 rfl) ?_; refine TC.ret ?_; refine TE.pub b51_29 (PubE.set 4 (PubC.sv PlS.all rfl) PubE.refl) ?_
    obtain rfl := (Option.some.inj H)
    exact TE.retN rfl rfl (.cons Cv.le (.cons Cv.le .nil))
def split_order (p0 : Prefix) (q0 : Prefix) : Option Int :=
  (key_Less p0 q0).bind fun x_3 => bif x_3 then (some (-1 : Int)) else ((key_Less q0 p0).bind fun x_4 => bif x_4 then (some (1 : Int)) else (some (0 : Int)))
theorem split_order_c {A : Nat → Prop} {p0 : Prefix} {q0 : Prefix}  {r : Int} (w : World) (v0 v1 : Value) (hA : ∀ k, w.heap.size ≤ k → A k)  (h0 : (D (p0 : Prefix)).p A w v0) (h1 : (D (q0 : Prefix)).p A w v1) (H : split_order p0 q0 = some r) :
    Calls Try.prog 33 #[v0, v1] w (Ret A w (D (r : Int))) := by
  unfold split_order at H
  refine enter2 hA Try.func33 rfl Try.ntmps33 rfl h0 h1 ?_; refine TC.seqS ?_; refine TS.box rfl fun b2_0 => ?_; refine TS.box rfl fun b3_1 => ?_; refine TS.s OpY.assign rfl ?_; refine TS.nil ?_; refine TE.then ?_; refine TC.kp [2, 3] [b2_0, b3_1] ?_; refine TC.seq ?_; refine TC.block ?_; refine TC.seqS ?_; refine TS.s (OpD.ldq Pl.one) rfl ?_; refine TS.s (OpD.ldq Pl.one) rfl ?_
  obtain ⟨x_3, ex_3, H⟩ := bnd H
  refine TS.s (OpY.call2 fun w v0 v1 hA h0 h1 => key_Less_c w v0 v1 hA (toD h0) (toD h1) ex_3) rfl ?_; refine TS.s OpY.assign rfl ?_; refine TS.nil ?_; refine TE.then ?_; refine TC.kp [2, 3, 5] [b2_0, b3_1] ?_; refine TC.cond (fun hc => ?_) (fun hc => ?_)
  · replace H := cT H hc
    refine TC.seqS ?_; refine TS.s OpY.assign rfl ?_; refine TS.nil ?_; refine TE.then ?_; refine TC.kp [4] [] ?_; refine TC.ret ?_; refine TE.inBlock_ret ?_; refine TE.then_ret ?_
    obtain rfl := (Option.some.inj H)
    exact TE.ret1 rfl Cv.le
  · replace H := cF H hc
    refine TC.seqS ?_; refine TS.s (OpD.ldq Pl.one) rfl ?_; refine TS.s (OpD.ldq Pl.one) rfl ?_
    obtain ⟨x_4, ex_4, H⟩ := bnd H
    refine TS.s (OpY.call2 fun w v0 v1 hA h0 h1 => key_Less_c w v0 v1 hA (toD h0) (toD h1) ex_4) rfl ?_; refine TS.s OpY.assign rfl ?_; refine TS.nil ?_; refine TE.then ?_; refine TC.kp [9] [] ?_; refine TC.cond (fun hc => ?_) (fun hc => ?_)
    · replace H := cT H hc
      refine TC.seqS ?_; refine TS.s OpY.assign rfl ?_; refine TS.nil ?_; refine TE.then ?_; refine TC.kp [4] [] ?_; refine TC.ret ?_; refine TE.inBlock_ret ?_; refine TE.then_ret ?_
      obtain rfl := (Option.some.inj H)
      exact TE.ret1 rfl Cv.le
    · replace H := cF H hc
      refine TC.skip ?_; refine TE.inBlock_normal ?_; refine TE.then ?_; refine TC.kp [] [] ?_; refine TC.seqS ?_; refine TS.s OpY.assign rfl ?_; refine TS.nil ?_; refine TE.then ?_; refine TC.kp [4] [] ?_; refine TC.ret ?_
      obtain rfl := (Option.some.inj H)
      exact TE.ret1 rfl Cv.le
instance {Γ : Env} : Has Γ (.func 33) (D (⟨split_order⟩ : F2 Try.prog Prefix Prefix Int)) := ⟨fun a A w _ => F2.const (P := Try.prog) (f := 33) fun w v0 v1 hA h0 h1 e => split_order_c w v0 v1 hA h0 h1 e⟩
def split_joined_l1 (n_4 : Int) (l_6 : (List Prefix)) : Option ((Int × (List Prefix)) ⊕ (List Prefix)) :=
  bif (decide (n_4 > (1 : Int))) then ((subI n_4 (2 : Int)).bind fun x_8 => (idx l_6 x_8).bind fun x_9 => (subI n_4 (1 : Int)).bind fun x_10 => (idx l_6 x_10).bind fun x_11 => (gb (!((((decide (x_9.Bits ≠ x_11.Bits)) || (decide (x_9.Len ≠ x_11.Len))) || (decide (x_9.Len = (0 : Int)))) || (decide (x_9 = x_11)))) (split_whole x_9)).bind fun x_14 => (gb (!((((decide (x_9.Bits ≠ x_11.Bits)) || (decide (x_9.Len ≠ x_11.Len))) || (decide (x_9.Len = (0 : Int)))) || (decide (x_9 = x_11)))) (split_whole x_11)).bind fun x_15 => bif (((((decide (x_9.Bits ≠ x_11.Bits)) || (decide (x_9.Len ≠ x_11.Len))) || (decide (x_9.Len = (0 : Int)))) || (decide (x_9 = x_11))) || (decide (x_14 ≠ x_15))) then (some (.inr l_6)) else ((subI n_4 (2 : Int)).bind fun x_16 => (cut l_6.length 0 x_16).bind fun u_17 => (split_whole x_9).bind fun x_18 => (room 32 (((Int.toNat x_16) + ([x_18] : List Prefix).length : Nat) : Int)).bind fun u_20 => (some ((l_6.take (Int.toNat x_16) ++ ([x_18] : List Prefix)) : (List Prefix))).bind fun l_21 => some (.inl ((l_21.length : Int), l_21)))) else (some (.inr l_6))
def split_joined (l0 : (List Prefix)) : Option (List Prefix) :=
  (loopO (fun s => split_joined_l1 s.1 s.2) ((l0.length : Int), l0)).bind fun l_2 => some l_2
theorem split_joined_o {A : Nat → Prop} {l0 : (List Prefix)} {b0 c0 : Nat} {p0 : Prop} {r : (List Prefix)} (w : World) (v0 : Value) (hA : ∀ k, w.heap.size ≤ k → A k) (hO : OwnIn A [⟨b0, p0, Row (l0 : List Prefix) c0⟩]) (hap : Apart [⟨b0, p0, Row (l0 : List Prefix) c0⟩]) (hks : Pks (Pub A [⟨b0, p0, Row (l0 : List Prefix) c0⟩]) [⟨b0, p0, Row (l0 : List Prefix) c0⟩] w) (h0 : (Sl b0 p0 0 l0.length c0).p (Pub A [⟨b0, p0, Row (l0 : List Prefix) c0⟩]) w v0) (H : split_joined l0 = some r) :
    Calls Try.prog 34 #[v0] w (RetO A w [⟨b0, p0, Row (l0 : List Prefix) c0⟩] (fun g : Nat × Prop × Nat => Sl g.1 g.2.1 0 (List.length r) g.2.2) fun g => [⟨g.1, g.2.1, Row (r : List Prefix) g.2.2⟩]) := by
  unfold split_joined at H
  refine enterO1 hA hap hks Try.func34 rfl Try.ntmps34 rfl h0 ?_; refine TC.seqS ?_; refine TS.s OpY.assign rfl ?_; refine TS.nil ?_; refine TE.then ?_; refine TC.kp [0] [b0] ?_; refine TC.seq ?_; refine TC.seqS ?_; refine TS.s OpY.move rfl ?_; refine TS.s (OpD.lenSv (n := l0.length) rfl) rfl ?_; refine TS.s OpY.assign rfl ?_; refine TS.nil ?_; refine TE.then ?_; refine TC.kp [0, 3] [b0] ?_
  obtain ⟨o_3, H3, H⟩ := bnd H
  refine TC.cutP (fun s : (List Prefix) => o_3 = s) (fun (l_2 : (List Prefix)) (⟨b_0, p_0, c_0⟩ : Nat × Prop × Nat) => (Env.set Env.nil 0 (Sl b_0 p_0 0 l_2.length c_0))) (fun (l_2 : (List Prefix)) (⟨b_0, p_0, c_0⟩ : Nat × Prop × Nat) => [⟨b_0, p_0, (Row (l_2 : List Prefix) c_0)⟩]) ?_ ?_
  · skip
    refine TC.block ?_; refine TC.loopP H3 (fun ⟨n_4, l_6⟩ (⟨b_4, p_4, c_4⟩ : Nat × Prop × Nat) => (Env.set (Env.set Env.nil 0 (Sl b_4 p_4 0 l_6.length c_4)) 3 (D (n_4 : Int)))) (fun ⟨n_4, l_6⟩ (⟨b_4, p_4, c_4⟩ : Nat × Prop × Nat) => [⟨b_4, p_4, (Row (l_6 : List Prefix) c_4)⟩]) ⟨b0, p0, c0⟩ (Env.cv (Env.cvBy (Sl_le rfl) (Env.le_nil _))) (Less.pk rfl (Less.nil _)) ?_
    rintro ⟨n_4, l_6⟩ ⟨b_4, p_4, c_4⟩ x_7 H7 he7
    replace H7 : split_joined_l1 n_4 l_6 = some x_7 := H7
    unfold split_joined_l1 at H7
    refine TC.seq ?_; refine TC.seqS ?_; refine TS.s OpY.move rfl ?_; refine TS.s OpY.gtr rfl ?_; refine TS.nil ?_; refine TE.then ?_; refine TC.kp [0, 3, 9] [b_4] ?_; refine TC.cond (fun hc => ?_) (fun hc => ?_)
    · replace H7 := cT H7 hc
      refine TC.skip ?_; refine TE.then ?_; refine TC.kp [0, 3] [b_4] ?_; refine TC.seq ?_; refine TC.block ?_; refine TC.seqD2 [0, 0, 0, 0, 0, 0, 0, 0, 0, 0, 3, 3, 1, 1] [] mix (by kernel_rfl) (by kernel_rfl) ?_; refine TR2.s OpY.move rfl ?_; refine TR2.s OpY.move rfl ?_
      obtain ⟨x_8, ex_8, H7⟩ := bnd H7
      refine TR2.s (OpD.sub ex_8) rfl ?_
      obtain ⟨x_9, ex_9, H7⟩ := bnd H7
      refine TR2.s (OpD.indexq (idx_in ex_9 rfl)) rfl ?_; refine TR2.s (OpD.ldq (Pl.rowz ex_9)) rfl ?_; refine TR2.s OpY.move rfl ?_; refine TR2.s OpY.move rfl ?_
      obtain ⟨x_10, ex_10, H7⟩ := bnd H7
      refine TR2.s (OpD.sub ex_10) rfl ?_
      obtain ⟨x_11, ex_11, H7⟩ := bnd H7
      refine TR2.s (OpD.indexq (idx_in ex_11 rfl)) rfl ?_; refine TR2.s (OpD.ldq (Pl.rowz ex_11)) rfl ?_; refine TR2.a (AllocU.of (α := Prefix)) rfl ?_; refine TR2.a (AllocU.of (α := Prefix)) rfl ?_; refine TR2.tn (fun Ωr g => (OpT.storeq (y := (x_9 : Prefix)) Pl.one)) rfl ?_; refine TR2.tn (fun Ωr g => (OpT.storeq (y := (x_11 : Prefix)) Pl.one)) rfl ?_; refine TR2.nil ?_
      rintro ⟨⟨⟨⟨_, b4_11⟩, b5_12⟩, _⟩, _⟩
      dsimp only [Fam.nextS, Fam.nextN, Fam.one, List.cons_append, List.nil_append]
      refine TC.kp [0, 3, 4, 5] [b_4, b4_11, b5_12] ?_; refine TC.seq ?_; refine TC.seqD0 mix (by kernel_rfl) ?_; refine TR.s OpY.fieldAddr rfl ?_; refine TR.s (OpD.ldq (Pl.fld (off := 0) (α := Prefix) (β := Int) Pl.one)) rfl ?_; refine TR.s OpY.fieldAddr rfl ?_; refine TR.s (OpD.ldq (Pl.fld (off := 0) (α := Prefix) (β := Int) Pl.one)) rfl ?_; refine TR.s OpY.neq rfl ?_; refine TR.s OpY.move rfl ?_; refine TR.g 27 rfl (fun hg => OpY.fieldAddr) rfl ?_; refine TR.g 27 rfl (fun hg => (OpD.ldq (Pl.fld (off := 1) (α := Prefix) (β := Int) Pl.one))) rfl ?_; refine TR.g 27 rfl (fun hg => OpY.fieldAddr) rfl ?_; refine TR.g 27 rfl (fun hg => (OpD.ldq (Pl.fld (off := 1) (α := Prefix) (β := Int) Pl.one))) rfl ?_; refine TR.g 27 rfl (fun hg => OpY.neq) rfl ?_; refine TR.s OpY.pickOr rfl ?_; refine TR.s OpY.move rfl ?_; refine TR.g 34 rfl (fun hg => OpY.fieldAddr) rfl ?_; refine TR.g 34 rfl (fun hg => (OpD.ldq (Pl.fld (off := 1) (α := Prefix) (β := Int) Pl.one))) rfl ?_; refine TR.g 34 rfl (fun hg => OpY.eql) rfl ?_; refine TR.s OpY.pickOr rfl ?_; refine TR.s OpY.move rfl ?_; refine TR.g 39 rfl (fun hg => (OpD.ldq Pl.one)) rfl ?_; refine TR.g 39 rfl (fun hg => (OpD.ldq Pl.one)) rfl ?_; refine TR.g 39 rfl (fun hg => (OpY.eql_agg EqV_25 (by decide) EqG_25 rfl)) rfl ?_; refine TR.s OpY.pickOr rfl ?_; refine TR.s OpY.move rfl ?_; refine TR.g 44 rfl (fun hg => (OpD.ldq Pl.one)) rfl ?_
      obtain ⟨x_14, ex_14, H7⟩ := bnd H7
      refine TR.g 44 rfl (fun hg => (OpY.call1 fun w v0 hA h0 => split_whole_c w v0 hA (toD h0) (gb_some ex_14 (nF hg.h)))) rfl ?_; refine TR.g 44 rfl (fun hg => (OpD.ldq Pl.one)) rfl ?_
      obtain ⟨x_15, ex_15, H7⟩ := bnd H7
      refine TR.g 44 rfl (fun hg => (OpY.call1 fun w v0 hA h0 => split_whole_c w v0 hA (toD h0) (gb_some ex_15 (nF hg.h)))) rfl ?_; refine TR.g 44 rfl (fun hg => (OpY.neq_agg EqV_25 (by decide) EqG_25 rfl)) rfl ?_; refine TR.s OpY.pickOr rfl ?_; refine TR.nil ?_; refine TC.kp [0, 3, 4, 50] [b_4, b4_11] ?_; refine TC.cond (fun hc => ?_) (fun hc => ?_)
      · replace H7 := cT H7 hc
        refine TC.exit ?_; refine TE.then_exit ?_; refine TE.inBlock_other rfl ?_; refine TE.then_exit ?_; refine TE.then_exit ?_; refine TE.inBlock_here ?_; exact TE.cutP l_6 ⟨b_4, p_4, c_4⟩ (he7 _ (Option.some.inj H7).symm).symm (Env.cvBy (Sl_le rfl) (Env.le_nil _)) (Less.pk rfl (Less.nil _))
      · replace H7 := cF H7 hc
        refine TC.skip ?_; refine TE.then ?_; refine TC.kp [0, 3, 4] [b_4, b4_11] ?_; refine TC.regD [7, 8] [b_4] mix (by kernel_rfl) (by kernel_rfl) ?_; refine TR.s OpY.move rfl ?_; refine TR.s OpY.move rfl ?_
        obtain ⟨x_16, ex_16, H7⟩ := bnd H7
        refine TR.s (OpD.sub ex_16) rfl ?_
        obtain ⟨u_17, eu_17, H7⟩ := bnd H7
        refine TR.s (OpY.sliceSlTo (cut_row eu_17 rfl).2.1 (cut_row eu_17 rfl).2.2) rfl ?_; refine TR.s (OpD.ldq Pl.one) rfl ?_
        obtain ⟨x_18, ex_18, H7⟩ := bnd H7
        refine TR.s (OpY.call1 fun w v0 hA h0 => split_whole_c w v0 hA (toD h0) ex_18) rfl ?_; refine TR.s (OpY.buildSlice [.tmp 56] rfl rfl (by decide)) rfl ?_
        obtain ⟨u_20, eu_20, H7⟩ := bnd H7
        refine TR.t (fun g => OpT.appByR (ys := ([x_18] : List Prefix)) inferInstance eu_20 rfl (cut_le0 eu_17)) rfl ?_; refine TR.t (fun g => OpT.G rfl OpY.assign) rfl ?_; refine TR.nil ?_
        rintro ⟨⟨_, ⟨b58_18, p58_18, c58_18⟩⟩, _⟩
        dsimp only [Fam.nextS, Fam.nextN, Fam.one, List.cons_append, List.nil_append]
        refine TE.kp [0] [b58_18] ?_
        obtain ⟨l_21, el_21, H7⟩ := bnd H7
        refine TE.nmB b58_18 (nm_row el_21) ?_; refine TE.see 0 _ (nm_sl2 el_21 rfl) ?_; refine TE.inBlock_normal ?_; refine TE.then ?_; refine TC.kp [0] [b58_18] ?_; refine TC.regionS ?_; refine TS.s OpY.move rfl ?_; refine TS.s (OpD.lenSv (n := l_21.length) rfl) rfl ?_; refine TS.s OpY.assign rfl ?_; refine TS.nil ?_; refine TE.kp [0, 3] [b58_18] ?_; exact TE.backP ⟨(l_21.length : Int), l_21⟩ ⟨b58_18, p58_18, c58_18⟩ (Option.some.inj H7).symm (Env.cv (Env.cvBy (Sl_le rfl) (Env.le_nil _))) (Less.pk rfl (Less.nil _))
    · replace H7 := cF H7 hc
      refine TC.exit ?_; refine TE.then_exit ?_; refine TE.then_exit ?_; refine TE.inBlock_here ?_; exact TE.cutP l_6 ⟨b_4, p_4, c_4⟩ (he7 _ (Option.some.inj H7).symm).symm (Env.cvBy (Sl_le rfl) (Env.le_nil _)) (Less.pk rfl (Less.nil _))
  rintro l_2 ⟨b_0, p_0, c_0⟩ hp
  replace hp := hp.symm
  subst hp
  refine TE.then ?_; refine TC.kp [0] [b_0] ?_; refine TC.seqS ?_; refine TS.s OpY.move rfl ?_; refine TS.s OpY.assign rfl ?_; refine TS.nil ?_; refine TE.then ?_; refine TC.kp [2] [b_0] ?_; refine TC.ret ?_
  obtain rfl := (Option.some.inj H)
  exact TE.retO1 rfl ⟨b_0, p_0, c_0⟩ (Sl_le rfl) (Less.pk rfl (Less.nil _))
def split_Together_l1 (l0 : (List Prefix)) (x_4 : Int) (sorted_6 : (List Prefix)) : Option ((Int × (List Prefix)) ⊕ (List Prefix)) :=
  bif (decide (x_4 < (l0.length : Int))) then (((idx l0 x_4).bind fun x_11 => (key_May x_11).bind fun x_13 => bif x_13 then ((room 32 ((sorted_6.length + ([x_11] : List Prefix).length : Nat) : Int)).bind fun u_15 => (some ((sorted_6 ++ ([x_11] : List Prefix)) : (List Prefix))).bind fun l_16 => some l_16) else (some sorted_6)).bind fun sorted_9 => (addI x_4 (1 : Int)).bind fun x_17 => some (.inl (x_17, sorted_9))) else (some (.inr sorted_6))
def split_Together_l2 (x_18 : (List Prefix)) (x_24 : Int) (told_26 : (List Prefix)) : Option ((Int × (List Prefix)) ⊕ (List Prefix)) :=
  bif (decide (x_24 < (x_18.length : Int))) then (((idx x_18 x_24).bind fun x_31 => (gb (decide ((told_26.length : Int) > (0 : Int))) (subI (told_26.length : Int) (1 : Int))).bind fun x_33 => (gb (decide ((told_26.length : Int) > (0 : Int))) (idx told_26 x_33)).bind fun x_34 => (gb (decide ((told_26.length : Int) > (0 : Int))) (key_Covers x_34 x_31)).bind fun x_35 => bif ((decide ((told_26.length : Int) > (0 : Int))) && x_35) then (some told_26) else ((room 32 ((told_26.length + ([x_31] : List Prefix).length : Nat) : Int)).bind fun u_37 => (split_joined (told_26 ++ ([x_31] : List Prefix))).bind fun x_38 => some x_38)).bind fun told_29 => (addI x_24 (1 : Int)).bind fun x_40 => some (.inl (x_40, told_29))) else (some (.inr told_26))
def split_Together (l0 : (List Prefix)) : Option (List Prefix) :=
  bif (decide ((l0.length : Int) > (256 : Int))) then (some ([] : List Prefix)) else ((loopO (fun s => split_Together_l1 l0 s.1 s.2) ((0 : Int), [])).bind fun sorted_2 => (slices_SortFunc_api_Prefix sorted_2 (⟨split_order⟩ : (F2 Try.prog Prefix Prefix Int))).bind fun x_18 => (lenI x_18.length sorted_2.length).bind fun u_20 => (loopO (fun s => split_Together_l2 x_18 s.1 s.2) ((0 : Int), [])).bind fun told_22 => some told_22)
theorem split_Together_c {A : Nat → Prop} {l0 : (List Prefix)}  {r : (List Prefix)} (w : World) (v0 : Value) (hA : ∀ k, w.heap.size ≤ k → A k)  (h0 : (D (l0 : (List Prefix))).p A w v0) (H : split_Together l0 = some r) :
    Calls Try.prog 13 #[v0] w (Ret A w (D (r : (List Prefix)))) := by
  unfold split_Together at H
  refine enter1 hA Try.func13 rfl Try.ntmps13 rfl h0 ?_; refine TC.seqS ?_; refine TS.s OpY.assign rfl ?_; refine TS.nil ?_; refine TE.then ?_; refine TC.kp [0] [] ?_; refine TC.seq ?_; refine TC.seqS ?_; refine TS.s OpY.move rfl ?_; refine TS.s OpD.len rfl ?_; refine TS.s OpY.gtr rfl ?_; refine TS.nil ?_; refine TE.then ?_; refine TC.kp [0, 12] [] ?_; refine TC.cond (fun hc => ?_) (fun hc => ?_)
  · replace H := cT H hc
    refine TC.seqS ?_; refine TS.s OpY.assign rfl ?_; refine TS.nil ?_; refine TE.then ?_; refine TC.kp [2] [] ?_; refine TC.ret ?_; refine TE.then_ret ?_
    obtain rfl := (Option.some.inj H)
    exact TE.ret1 rfl Cv.le
  · replace H := cF H hc
    refine TC.skip ?_; refine TE.then ?_; refine TC.kp [0] [] ?_; refine TC.seqS ?_; refine TS.s OpY.assign rfl ?_; refine TS.nil ?_; refine TE.then ?_; refine TC.kp [0, 3] [] ?_; refine TC.seq ?_; refine TC.seqS ?_; refine TS.s OpY.move rfl ?_; refine TS.s OpD.len rfl ?_; refine TS.s OpY.move rfl ?_; refine TS.nil ?_; refine TE.then ?_; refine TC.kp [3, 13, 14, 15] [] ?_
    obtain ⟨o_3, H3, H⟩ := bnd H
    refine TC.cutP (fun s : (List Prefix) => o_3 = s) (fun (sorted_2 : (List Prefix)) (⟨b_0, p_0, c_0⟩ : Nat × Prop × Nat) => (Env.set Env.nil 3 (Sl b_0 p_0 0 sorted_2.length c_0))) (fun (sorted_2 : (List Prefix)) (⟨b_0, p_0, c_0⟩ : Nat × Prop × Nat) => [⟨b_0, p_0, (Row (sorted_2 : List Prefix) c_0)⟩]) ?_ ?_
    · skip
      refine TC.block ?_; refine TC.loopP H3 (fun ⟨x_4, sorted_6⟩ (⟨b_4, p_4, c_4⟩ : Nat × Prop × Nat) => (Env.set (Env.set (Env.set (Env.set Env.nil 3 (Sl b_4 p_4 0 sorted_6.length c_4)) 13 (D (l0 : (List Prefix)))) 14 (D ((l0.length : Int) : Int))) 15 (D (x_4 : Int)))) (fun ⟨x_4, sorted_6⟩ (⟨b_4, p_4, c_4⟩ : Nat × Prop × Nat) => [⟨b_4, p_4, (Row (sorted_6 : List Prefix) c_4)⟩]) ⟨0, False, 0⟩ (Env.cv (Env.cv (Env.cv (Env.cvBy NilS.sl0 (Env.le_nil _))))) (Less.nilRow (Less.nil _)) ?_
      rintro ⟨x_4, sorted_6⟩ ⟨b_4, p_4, c_4⟩ x_7 H7 he7
      replace H7 : split_Together_l1 l0 x_4 sorted_6 = some x_7 := H7
      unfold split_Together_l1 at H7
      refine TC.seqS ?_; refine TS.s OpY.lss rfl ?_; refine TS.nil ?_; refine TE.then ?_; refine TC.kp [3, 13, 14, 15, 16] [b_4] ?_; refine TC.seq ?_; refine TC.cond (fun hc => ?_) (fun hc => ?_)
      · replace H7 := cT H7 hc
        refine TC.skip ?_; refine TE.then ?_; refine TC.kp [3, 13, 14, 15] [b_4] ?_; refine TC.seq ?_
        obtain ⟨o_10, H10, H7⟩ := bnd H7
        refine TC.cutP (fun s : (List Prefix) => o_10 = s) (fun (sorted_9 : (List Prefix)) (⟨b_7, p_7, c_7⟩ : Nat × Prop × Nat) => (Env.set (Env.set (Env.set (Env.set Env.nil 3 (Sl b_7 p_7 0 sorted_9.length c_7)) 13 (D (l0 : (List Prefix)))) 14 (D ((l0.length : Int) : Int))) 15 (D (x_4 : Int)))) (fun (sorted_9 : (List Prefix)) (⟨b_7, p_7, c_7⟩ : Nat × Prop × Nat) => [⟨b_7, p_7, (Row (sorted_9 : List Prefix) c_7)⟩]) ?_ ?_
        · skip
          refine TC.block ?_; refine TC.seqS ?_
          obtain ⟨x_11, ex_11, H10⟩ := bnd H10
          refine TS.s (OpD.index ex_11) rfl ?_; refine TS.s OpY.load rfl ?_; refine TS.alloc (α := Prefix) rfl fun b5_11 => ?_; refine TS.un (OpT.storeq (y := (x_11 : Prefix)) Pl.one) ?_; refine TS.nil ?_; refine TE.then ?_; refine TC.kp [3, 5, 13, 14, 15] [b_4, b5_11] ?_; refine TC.seqS ?_; refine TS.s (OpD.ldq Pl.one) rfl ?_
          obtain ⟨x_13, ex_13, H10⟩ := bnd H10
          refine TS.s (OpY.call1 fun w v0 hA h0 => key_May_c w v0 hA (toD h0) ex_13) rfl ?_; refine TS.nil ?_; refine TE.then ?_; refine TC.kp [3, 5, 13, 14, 15, 20] [b_4, b5_11] ?_; refine TC.cond (fun hc => ?_) (fun hc => ?_)
          · replace H10 := cT H10 hc
            refine TC.regionS ?_; refine TS.s OpY.move rfl ?_; refine TS.s (OpD.ldq Pl.one) rfl ?_; refine TS.s (OpY.buildSlice [.tmp 22] rfl rfl (by decide)) rfl ?_
            obtain ⟨u_15, eu_15, H10⟩ := bnd H10
            refine TS.app (ys := ([x_11] : List Prefix)) inferInstance eu_15 rfl rfl rfl fun b24_13 p24_13 c24_13 => ?_; refine TS.s OpY.assign rfl ?_; refine TS.nil ?_; refine TE.kp [3, 13, 14, 15] [b24_13] ?_
            obtain ⟨l_16, el_16, H10⟩ := bnd H10
            refine TE.nmB b24_13 (nm_row el_16) ?_; refine TE.see 3 _ (nm_sl2 el_16 rfl) ?_; refine TE.inBlock_normal ?_; exact TE.cutP l_16 ⟨b24_13, p24_13, c24_13⟩ (Option.some.inj H10).symm (Env.cv (Env.cv (Env.cv (Env.cvBy (Sl_le rfl) (Env.le_nil _))))) (Less.pk rfl (Less.nil _))
          · replace H10 := cF H10 hc
            refine TC.skip ?_; refine TE.inBlock_normal ?_; exact TE.cutP sorted_6 ⟨b_4, p_4, c_4⟩ (Option.some.inj H10).symm (Env.cv (Env.cv (Env.cv (Env.cvBy (Sl_le rfl) (Env.le_nil _))))) (Less.pk rfl (Less.nil _))
        rintro sorted_9 ⟨b_7, p_7, c_7⟩ hp
        replace hp := hp.symm
        subst hp
        refine TE.then ?_; refine TC.kp [3, 13, 14, 15] [b_7] ?_; refine TC.regionS ?_
        obtain ⟨x_17, ex_17, H7⟩ := bnd H7
        refine TS.s (OpD.add ex_17) rfl ?_; refine TS.s OpY.move rfl ?_; refine TS.nil ?_; refine TE.kp [3, 13, 14, 15] [b_7] ?_; exact TE.backP ⟨x_17, sorted_9⟩ ⟨b_7, p_7, c_7⟩ (Option.some.inj H7).symm (Env.cv (Env.cv (Env.cv (Env.cvBy (Sl_le rfl) (Env.le_nil _))))) (Less.pk rfl (Less.nil _))
      · replace H7 := cF H7 hc
        refine TC.exit ?_; refine TE.then_exit ?_; refine TE.then_exit ?_; refine TE.inBlock_here ?_; exact TE.cutP sorted_6 ⟨b_4, p_4, c_4⟩ (he7 _ (Option.some.inj H7).symm).symm (Env.cvBy (Sl_le rfl) (Env.le_nil _)) (Less.pk rfl (Less.nil _))
    rintro sorted_2 ⟨b_0, p_0, c_0⟩ hp
    replace hp := hp.symm
    subst hp
    refine TE.then ?_; refine TC.kp [3] [b_0] ?_; refine TC.seqS ?_; refine TS.s OpY.move rfl ?_
    obtain ⟨x_18, ex_18, H⟩ := bnd H
    refine TS.t (OpT.callO2 [b_0] fun w v0 v1 hA hO hap hks h0 h1 => slices_SortFunc_api_Prefix_o w v0 v1 hA hO hap hks (slD rfl h0) (toD h1) ex_18) rfl fun _ => ?_; dsimp only [List.cons_append, List.nil_append]
    obtain ⟨u_20, eu_20, H⟩ := bnd H
    refine TS.nil ?_; refine TE.then ?_; refine TC.kp [3] [b_0] ?_; refine TC.seqS ?_; refine TS.s OpY.assign rfl ?_; refine TS.nil ?_; refine TE.then ?_; refine TC.kp [3, 6] [b_0] ?_; refine TC.seq ?_; refine TC.seqS ?_; refine TS.s OpY.move rfl ?_; refine TS.s (OpD.lenSv (n := x_18.length) (lenI_eq eu_20)) rfl ?_; refine TS.s OpY.move rfl ?_; refine TS.nil ?_; refine TE.then ?_; refine TC.kp [6, 28, 29, 30] [b_0] ?_
    obtain ⟨o_23, H23, H⟩ := bnd H
    refine TC.cutP (fun s : (List Prefix) => o_23 = s) (fun (told_22 : (List Prefix)) (⟨b_20, p_20, c_20⟩ : Nat × Prop × Nat) => (Env.set Env.nil 6 (Sl b_20 p_20 0 told_22.length c_20))) (fun (told_22 : (List Prefix)) (⟨b_20, p_20, c_20⟩ : Nat × Prop × Nat) => [⟨b_20, p_20, (Row (told_22 : List Prefix) c_20)⟩]) ?_ ?_
    · skip
      refine TC.block ?_; refine TC.loopP H23 (fun ⟨x_24, told_26⟩ (⟨b_24, p_24, c_24⟩ : Nat × Prop × Nat) => (Env.set (Env.set (Env.set (Env.set Env.nil 6 (Sl b_24 p_24 0 told_26.length c_24)) 28 (Sl b_0 p_0 0 x_18.length c_0)) 29 (D ((x_18.length : Int) : Int))) 30 (D (x_24 : Int)))) (fun ⟨x_24, told_26⟩ (⟨b_24, p_24, c_24⟩ : Nat × Prop × Nat) => [⟨b_24, p_24, (Row (told_26 : List Prefix) c_24)⟩, ⟨b_0, p_0, (Row (x_18 : List Prefix) c_0)⟩]) ⟨0, False, 0⟩ (Env.cv (Env.cv (Env.cvBy (Sl_le (lenI_eq eu_20)) (Env.cvBy NilS.sl0 (Env.le_nil _))))) (Less.nilRow (Less.pk rfl (Less.nil _))) ?_
      rintro ⟨x_24, told_26⟩ ⟨b_24, p_24, c_24⟩ x_27 H27 he27
      replace H27 : split_Together_l2 x_18 x_24 told_26 = some x_27 := H27
      unfold split_Together_l2 at H27
      refine TC.seqS ?_; refine TS.s OpY.lss rfl ?_; refine TS.nil ?_; refine TE.then ?_; refine TC.kp [6, 28, 29, 30, 31] [b_24, b_0] ?_; refine TC.seq ?_; refine TC.cond (fun hc => ?_) (fun hc => ?_)
      · replace H27 := cT H27 hc
        refine TC.skip ?_; refine TE.then ?_; refine TC.kp [6, 28, 29, 30] [b_24, b_0] ?_; refine TC.seq ?_
        obtain ⟨o_30, H30, H27⟩ := bnd H27
        refine TC.cutP (fun s : (List Prefix) => o_30 = s) (fun (told_29 : (List Prefix)) (⟨b_27, p_27, c_27⟩ : Nat × Prop × Nat) => (Env.set (Env.set (Env.set (Env.set Env.nil 6 (Sl b_27 p_27 0 told_29.length c_27)) 28 (Sl b_0 p_0 0 x_18.length c_0)) 29 (D ((x_18.length : Int) : Int))) 30 (D (x_24 : Int)))) (fun (told_29 : (List Prefix)) (⟨b_27, p_27, c_27⟩ : Nat × Prop × Nat) => [⟨b_27, p_27, (Row (told_29 : List Prefix) c_27)⟩, ⟨b_0, p_0, (Row (x_18 : List Prefix) c_0)⟩]) ?_ ?_
        · skip
          refine TC.block ?_; refine TC.seqS ?_
          obtain ⟨x_31, ex_31, H30⟩ := bnd H30
          refine TS.s (OpD.indexq (idx_in ex_31 rfl)) rfl ?_; refine TS.s (OpD.ldq (Pl.rowz ex_31)) rfl ?_; refine TS.alloc (α := Prefix) rfl fun b8_31 => ?_; refine TS.un (OpT.storeq (y := (x_31 : Prefix)) Pl.one) ?_; refine TS.nil ?_; refine TE.then ?_; refine TC.kp [6, 8, 28, 29, 30] [b_24, b8_31, b_0] ?_; refine TC.seq ?_; refine TC.seqS ?_; refine TS.s OpY.move rfl ?_; refine TS.s (OpD.lenSv (n := told_26.length) rfl) rfl ?_; refine TS.s OpY.assign rfl ?_; refine TS.nil ?_; refine TE.then ?_; refine TC.kp [6, 8, 9, 28, 29, 30] [b_24, b8_31, b_0] ?_; refine TC.seqD0 mix (by kernel_rfl) ?_; refine TR.s OpY.move rfl ?_; refine TR.s OpY.gtr rfl ?_; refine TR.s OpY.move rfl ?_; refine TR.g 38 rfl (fun hg => OpY.move) rfl ?_; refine TR.g 38 rfl (fun hg => OpY.move) rfl ?_
          obtain ⟨x_33, ex_33, H30⟩ := bnd H30
          refine TR.g 38 rfl (fun hg => (OpD.sub (gb_some ex_33 hg.h))) rfl ?_
          obtain ⟨x_34, ex_34, H30⟩ := bnd H30
          refine TR.g 38 rfl (fun hg => (OpD.indexq (idx_in (gb_some ex_34 hg.h) rfl))) rfl ?_; refine TR.g 38 rfl (fun hg => (OpD.ldq (Pl.rowz (gb_some ex_34 hg.h)))) rfl ?_; refine TR.g 38 rfl (fun hg => (OpD.ldq Pl.one)) rfl ?_
          obtain ⟨x_35, ex_35, H30⟩ := bnd H30
          refine TR.g 38 rfl (fun hg => (OpY.call2 fun w v0 v1 hA h0 h1 => key_Covers_c w v0 v1 hA (toD h0) (toD h1) (gb_some ex_35 hg.h))) rfl ?_; refine TR.s OpY.pickAnd rfl ?_; refine TR.nil ?_; refine TC.kp [6, 8, 28, 29, 30, 46] [b_24, b8_31, b_0] ?_; refine TC.cond (fun hc => ?_) (fun hc => ?_)
          · replace H30 := cT H30 hc
            refine TC.exit ?_; refine TE.then_exit ?_; refine TE.inBlock_here ?_; exact TE.cutP told_26 ⟨b_24, p_24, c_24⟩ (Option.some.inj H30).symm (Env.cv (Env.cv (Env.cvBy (Sl_le rfl) (Env.cvBy (Sl_le rfl) (Env.le_nil _))))) (Less.pk rfl (Less.pk rfl (Less.nil _)))
          · replace H30 := cF H30 hc
            refine TC.skip ?_; refine TE.then ?_; refine TC.kp [6, 8, 28, 29, 30] [b_24, b8_31, b_0] ?_; refine TC.regionS ?_; refine TS.s OpY.move rfl ?_; refine TS.s (OpD.ldq Pl.one) rfl ?_; refine TS.s (OpY.buildSlice [.tmp 48] rfl rfl (by decide)) rfl ?_
            obtain ⟨u_37, eu_37, H30⟩ := bnd H30
            refine TS.app (ys := ([x_31] : List Prefix)) inferInstance eu_37 rfl rfl rfl fun b50_35 p50_35 c50_35 => ?_
            obtain ⟨x_38, ex_38, H30⟩ := bnd H30
            refine TS.t (OpT.callO1 [b50_35] fun w v0 hA hO hap hks h0 => split_joined_o w v0 hA hO hap hks (slD rfl h0) ex_38) rfl fun ⟨b51_38, p51_38, c51_38⟩ => ?_; dsimp only [List.cons_append, List.nil_append]
            refine TS.s OpY.assign rfl ?_; refine TS.nil ?_; refine TE.kp [6, 28, 29, 30] [b51_38, b_0] ?_; refine TE.inBlock_normal ?_; exact TE.cutP x_38 ⟨b51_38, p51_38, c51_38⟩ (Option.some.inj H30).symm (Env.cv (Env.cv (Env.cvBy (Sl_le rfl) (Env.cvBy (Sl_le rfl) (Env.le_nil _))))) (Less.pk rfl (Less.pk rfl (Less.nil _)))
        rintro told_29 ⟨b_27, p_27, c_27⟩ hp
        replace hp := hp.symm
        subst hp
        refine TE.then ?_; refine TC.kp [6, 28, 29, 30] [b_27, b_0] ?_; refine TC.regionS ?_
        obtain ⟨x_40, ex_40, H27⟩ := bnd H27
        refine TS.s (OpD.add ex_40) rfl ?_; refine TS.s OpY.move rfl ?_; refine TS.nil ?_; refine TE.kp [6, 28, 29, 30] [b_27, b_0] ?_; exact TE.backP ⟨x_40, told_29⟩ ⟨b_27, p_27, c_27⟩ (Option.some.inj H27).symm (Env.cv (Env.cv (Env.cvBy (Sl_le rfl) (Env.cvBy (Sl_le rfl) (Env.le_nil _))))) (Less.pk rfl (Less.pk rfl (Less.nil _)))
      · replace H27 := cF H27 hc
        refine TC.exit ?_; refine TE.then_exit ?_; refine TE.then_exit ?_; refine TE.inBlock_here ?_; exact TE.cutP told_26 ⟨b_24, p_24, c_24⟩ (he27 _ (Option.some.inj H27).symm).symm (Env.cvBy (Sl_le rfl) (Env.le_nil _)) (Less.pk rfl (Less.nil _))
    rintro told_22 ⟨b_20, p_20, c_20⟩ hp
    replace hp := hp.symm
    subst hp
    refine TE.then ?_; refine TC.kp [6] [b_20] ?_; refine TC.seqS ?_; refine TS.s OpY.move rfl ?_; refine TS.s OpY.assign rfl ?_; refine TS.nil ?_; refine TE.then ?_; refine TC.kp [2] [b_20] ?_; refine TC.ret ?_; refine TE.pub b_20 (PubE.set 2 (PubC.sv PlS.all rfl) PubE.refl) ?_
    obtain rfl := (Option.some.inj H)
    exact TE.ret1 rfl Cv.le
def split_last_l1 (p0 : Prefix) (n_6 : Int) (k_7 : (Vec UInt8 16)) : Option ((Int × (Vec UInt8 16)) ⊕ (Vec UInt8 16)) :=
  bif (decide (n_6 < p0.Bits)) then ((split_set k_7 n_6).bind fun x_9 => (addI n_6 (1 : Int)).bind fun x_10 => some (.inl (x_10, x_9))) else (some (.inr k_7))
def split_last (p0 : Prefix) : Option (Vec UInt8 16) :=
  (loopO (fun s => split_last_l1 p0 s.1 s.2) (p0.Len, p0.Key)).bind fun k_4 => some k_4
theorem split_last_c {A : Nat → Prop} {p0 : Prefix}  {r : (Vec UInt8 16)} (w : World) (v0 : Value) (hA : ∀ k, w.heap.size ≤ k → A k)  (h0 : (D (p0 : Prefix)).p A w v0) (H : split_last p0 = some r) :
    Calls Try.prog 50 #[v0] w (Ret A w (D (r : (Vec UInt8 16)))) := by
  unfold split_last at H
  refine enter1 hA Try.func50 rfl Try.ntmps50 rfl h0 ?_; refine TC.seqS ?_; refine TS.box rfl fun b1_0 => ?_; refine TS.alloc (α := (Vec UInt8 16)) rfl fun b2_1 => ?_; refine TS.nil ?_; refine TE.then ?_; refine TC.kp [1, 2] [b1_0, b2_1] ?_; refine TC.seqS ?_; refine TS.s OpY.fieldAddr rfl ?_; refine TS.s (OpD.ldq (Pl.fld (off := 2) (α := Prefix) (β := (Vec UInt8 16)) Pl.one)) rfl ?_; refine TS.alloc (α := (Vec UInt8 16)) rfl fun b3_2 => ?_; refine TS.un (OpT.storeq (y := (p0.Key : (Vec UInt8 16))) Pl.one) ?_; refine TS.nil ?_; refine TE.then ?_; refine TC.kp [1, 2, 3] [b1_0, b2_1, b3_2] ?_; refine TC.seq ?_; refine TC.seqS ?_; refine TS.s OpY.fieldAddr rfl ?_; refine TS.s (OpD.ldq (Pl.fld (off := 1) (α := Prefix) (β := Int) Pl.one)) rfl ?_; refine TS.s OpY.assign rfl ?_; refine TS.nil ?_; refine TE.then ?_; refine TC.kp [1, 2, 3, 4] [b1_0, b2_1, b3_2] ?_
  obtain ⟨o_5, H5, H⟩ := bnd H
  refine TC.cutP (fun s : (Vec UInt8 16) => o_5 = s) (fun (k_4 : (Vec UInt8 16)) (_ : Unit) => (Env.set (Env.set Env.nil 2 (Pt b2_1 0)) 3 (Pt b3_2 0))) (fun (k_4 : (Vec UInt8 16)) (_ : Unit) => [⟨b2_1, True, (One (Dat.z : (Vec UInt8 16)))⟩, ⟨b3_2, True, (One (k_4 : (Vec UInt8 16)))⟩]) ?_ ?_
  · skip
    refine TC.block ?_; refine TC.loopP H5 (fun ⟨n_6, k_7⟩ (_ : Unit) => (Env.set (Env.set (Env.set (Env.set Env.nil 1 (Pt b1_0 0)) 2 (Pt b2_1 0)) 3 (Pt b3_2 0)) 4 (D (n_6 : Int)))) (fun ⟨n_6, k_7⟩ (_ : Unit) => [⟨b1_0, True, (One (p0 : Prefix))⟩, ⟨b2_1, True, (One (Dat.z : (Vec UInt8 16)))⟩, ⟨b3_2, True, (One (k_7 : (Vec UInt8 16)))⟩]) () (Env.cv (Env.cv (Env.cv (Env.cv (Env.le_nil _))))) (Less.pk rfl (Less.pk rfl (Less.pk rfl (Less.nil _)))) ?_
    rintro ⟨n_6, k_7⟩ ⟨⟩ x_8 H8 he8
    replace H8 : split_last_l1 p0 n_6 k_7 = some x_8 := H8
    unfold split_last_l1 at H8
    refine TC.seq ?_; refine TC.seqS ?_; refine TS.s OpY.move rfl ?_; refine TS.s OpY.fieldAddr rfl ?_; refine TS.s (OpD.ldq (Pl.fld (off := 0) (α := Prefix) (β := Int) Pl.one)) rfl ?_; refine TS.s OpY.lss rfl ?_; refine TS.nil ?_; refine TE.then ?_; refine TC.kp [1, 2, 3, 4, 12] [b1_0, b2_1, b3_2] ?_; refine TC.cond (fun hc => ?_) (fun hc => ?_)
    · replace H8 := cT H8 hc
      refine TC.skip ?_; refine TE.then ?_; refine TC.kp [1, 2, 3, 4] [b1_0, b2_1, b3_2] ?_; refine TC.seq ?_; refine TC.block ?_; refine TC.regionS ?_; refine TS.s (OpD.ldq Pl.one) rfl ?_; refine TS.s OpY.move rfl ?_
      obtain ⟨x_9, ex_9, H8⟩ := bnd H8
      refine TS.s (OpY.call2 fun w v0 v1 hA h0 h1 => split_set_c w v0 v1 hA (toD h0) (toD h1) ex_9) rfl ?_; refine TS.un (OpT.storeq (y := (x_9 : (Vec UInt8 16))) Pl.one) ?_; refine TS.nil ?_; refine TE.kp [1, 2, 3, 4] [b1_0, b2_1, b3_2] ?_; refine TE.inBlock_normal ?_; refine TE.then ?_; refine TC.kp [1, 2, 3, 4] [b1_0, b2_1, b3_2] ?_; refine TC.regionS ?_; refine TS.s OpY.move rfl ?_
      obtain ⟨x_10, ex_10, H8⟩ := bnd H8
      refine TS.s (OpD.add ex_10) rfl ?_; refine TS.s OpY.assign rfl ?_; refine TS.nil ?_; refine TE.kp [1, 2, 3, 4] [b1_0, b2_1, b3_2] ?_; exact TE.backP ⟨x_10, x_9⟩ () (Option.some.inj H8).symm (Env.cv (Env.cv (Env.cv (Env.cv (Env.le_nil _))))) (Less.pk rfl (Less.pk rfl (Less.pk rfl (Less.nil _))))
    · replace H8 := cF H8 hc
      refine TC.exit ?_; refine TE.then_exit ?_; refine TE.then_exit ?_; refine TE.inBlock_here ?_; exact TE.cutP k_7 () (he8 _ (Option.some.inj H8).symm).symm (Env.cv (Env.cv (Env.le_nil _))) (Less.pk rfl (Less.pk rfl (Less.nil _)))
  rintro k_4 ⟨⟩ hp
  replace hp := hp.symm
  subst hp
  refine TE.then ?_; refine TC.kp [2, 3] [b2_1, b3_2] ?_; refine TC.seqS ?_; refine TS.s (OpD.ldq Pl.one) rfl ?_; refine TS.un (OpT.storeq (y := (k_4 : (Vec UInt8 16))) Pl.one) ?_; refine TS.nil ?_; refine TE.then ?_; refine TC.kp [2] [b2_1] ?_; refine TC.ret ?_
  obtain rfl := (Option.some.inj H)
  exact TE.ret1 rfl Cv.le
def split_within_s (rec_ : (List Prefix) → Prefix → (Vec UInt8 16) → (Vec UInt8 16) → Option (List Prefix)) (l0 : (List Prefix)) (p0x : Prefix) (low0 : (Vec UInt8 16)) (high0 : (Vec UInt8 16)) : Option (List Prefix) :=
  (split_last p0x).bind fun x_4 => (cut 16 0 (16 : Int)).bind fun u_6 => (cut 16 0 (16 : Int)).bind fun u_7 => (bytes_Compare ((x_4.l.drop (Int.toNat 0)).take (((16 : Int) - 0).toNat)) ((low0.l.drop (Int.toNat 0)).take (((16 : Int) - 0).toNat))).bind fun x_8 => (gb (!(decide (x_8 < (0 : Int)))) (cut 16 0 (16 : Int))).bind fun u_9 => (gb (!(decide (x_8 < (0 : Int)))) (cut 16 0 (16 : Int))).bind fun u_10 => (gb (!(decide (x_8 < (0 : Int)))) (bytes_Compare ((p0x.Key.l.drop (Int.toNat 0)).take (((16 : Int) - 0).toNat)) ((high0.l.drop (Int.toNat 0)).take (((16 : Int) - 0).toNat)))).bind fun x_11 => bif ((decide (x_8 < (0 : Int))) || (decide (x_11 > (0 : Int)))) then (some l0) else ((cut 16 0 (16 : Int)).bind fun u_12 => (cut 16 0 (16 : Int)).bind fun u_13 => (bytes_Compare ((p0x.Key.l.drop (Int.toNat 0)).take (((16 : Int) - 0).toNat)) ((low0.l.drop (Int.toNat 0)).take (((16 : Int) - 0).toNat))).bind fun x_14 => (gb (decide (x_14 ≥ (0 : Int))) (cut 16 0 (16 : Int))).bind fun u_15 => (gb (decide (x_14 ≥ (0 : Int))) (cut 16 0 (16 : Int))).bind fun u_16 => (gb (decide (x_14 ≥ (0 : Int))) (bytes_Compare ((x_4.l.drop (Int.toNat 0)).take (((16 : Int) - 0).toNat)) ((high0.l.drop (Int.toNat 0)).take (((16 : Int) - 0).toNat)))).bind fun x_17 => bif ((decide (x_14 ≥ (0 : Int))) && (decide (x_17 ≤ (0 : Int)))) then ((room 32 ((l0.length + ([p0x] : List Prefix).length : Nat) : Int)).bind fun u_19 => (some ((l0 ++ ([p0x] : List Prefix)) : (List Prefix))).bind fun l_20 => some l_20) else ((split_halves p0x).bind fun r_21 => (rec_ l0 r_21.1 low0 high0).bind fun x_24 => (rec_ x_24 r_21.2 low0 high0).bind fun x_26 => some x_26))
def split_within_n : Nat → (List Prefix) → Prefix → (Vec UInt8 16) → (Vec UInt8 16) → Option (List Prefix)
  | 0, _, _, _, _ => none
  | kf + 1, l0, p0x, low0, high0 => split_within_s (split_within_n kf) l0 p0x low0 high0
def split_within (l0 : (List Prefix)) (p0x : Prefix) (low0 : (Vec UInt8 16)) (high0 : (Vec UInt8 16)) : Option (List Prefix) := split_within_n 18446744073709551616 l0 p0x low0 high0
theorem split_within_o_ih (kf : Nat) : ∀ {A : Nat → Prop} {l0 : (List Prefix)} {p0x : Prefix} {low0 : (Vec UInt8 16)} {high0 : (Vec UInt8 16)} {b0 c0 : Nat} {p0 : Prop} {r : (List Prefix)} (w : World) (v0 v1 v2 v3 : Value) (hA : ∀ k, w.heap.size ≤ k → A k) (hO : OwnIn A [⟨b0, p0, Row (l0 : List Prefix) c0⟩]) (hap : Apart [⟨b0, p0, Row (l0 : List Prefix) c0⟩]) (hks : Pks (Pub A [⟨b0, p0, Row (l0 : List Prefix) c0⟩]) [⟨b0, p0, Row (l0 : List Prefix) c0⟩] w) (h0 : (Sl b0 p0 0 l0.length c0).p (Pub A [⟨b0, p0, Row (l0 : List Prefix) c0⟩]) w v0) (h1 : (D (p0x : Prefix)).p (Pub A [⟨b0, p0, Row (l0 : List Prefix) c0⟩]) w v1) (h2 : (D (low0 : (Vec UInt8 16))).p (Pub A [⟨b0, p0, Row (l0 : List Prefix) c0⟩]) w v2) (h3 : (D (high0 : (Vec UInt8 16))).p (Pub A [⟨b0, p0, Row (l0 : List Prefix) c0⟩]) w v3) (H : split_within_n kf l0 p0x low0 high0 = some r),
    Calls Try.prog 42 #[v0, v1, v2, v3] w (RetO A w [⟨b0, p0, Row (l0 : List Prefix) c0⟩] (fun g : Nat × Prop × Nat => Sl g.1 g.2.1 0 (List.length r) g.2.2) fun g => [⟨g.1, g.2.1, Row (r : List Prefix) g.2.2⟩]) := by
  induction kf with
  | zero => intro A l0 p0x low0 high0 b0 c0 p0 r w v0 v1 v2 v3 hA hO hap hks h0 h1 h2 h3 H; exact nomatch (show (none : Option (List Prefix)) = some r from H)
  | succ kf ih =>
    intro A l0 p0x low0 high0 b0 c0 p0 r w v0 v1 v2 v3 hA hO hap hks h0 h1 h2 h3 H
    replace H : split_within_s (split_within_n kf) l0 p0x low0 high0 = some r := H
    unfold split_within_s at H
    refine enterO4 hA hap hks Try.func42 rfl Try.ntmps42 rfl h0 h1 h2 h3 ?_; refine TC.seqS ?_; refine TS.box rfl fun b5_0 => ?_; refine TS.box rfl fun b6_1 => ?_; refine TS.box rfl fun b7_2 => ?_; refine TS.s OpY.assign rfl ?_; refine TS.nil ?_; refine TE.then ?_; refine TC.kp [0, 5, 6, 7] [b0, b5_0, b6_1, b7_2] ?_; refine TC.seqS ?_; refine TS.s (OpD.ldq Pl.one) rfl ?_
    obtain ⟨x_4, ex_4, H⟩ := bnd H
    refine TS.s (OpY.call1 fun w v0 hA h0 => split_last_c w v0 hA (toD h0) ex_4) rfl ?_; refine TS.alloc (α := (Vec UInt8 16)) rfl fun b9_4 => ?_; refine TS.un (OpT.storeq (y := (x_4 : (Vec UInt8 16))) Pl.one) ?_; refine TS.nil ?_; refine TE.then ?_; refine TC.kp [0, 5, 6, 7, 9] [b0, b5_0, b6_1, b7_2, b9_4] ?_; refine TC.seq ?_; refine TC.seqD0 mix (by kernel_rfl) ?_
    obtain ⟨u_6, eu_6, H⟩ := bnd H
    refine TR.s (OpY.sliceAr (cut_some eu_6).1 (cut_some eu_6).2.1 (cut_some eu_6).2.2 (by decide)) rfl ?_
    obtain ⟨u_7, eu_7, H⟩ := bnd H
    refine TR.s (OpY.sliceAr (cut_some eu_7).1 (cut_some eu_7).2.1 (cut_some eu_7).2.2 (by decide)) rfl ?_
    obtain ⟨x_8, ex_8, H⟩ := bnd H
    refine TR.s (OpY.callB2 [b9_4, b6_1] (ArgB.sv (PlS.vec Pl.one (cut_le eu_6) (by decide)) (cut_len eu_6 (Vec.h _)) (by simp)) (ArgB.sv (PlS.vec Pl.one (cut_le eu_7) (by decide)) (cut_len eu_7 (Vec.h _)) (by simp)) fun w v0 v1 hA h0 h1 => bytes_Compare_c w v0 v1 hA (toD h0) (toD h1) ex_8) rfl ?_; refine TR.s OpY.lss rfl ?_; refine TR.s OpY.move rfl ?_; refine TR.g 18 rfl (fun hg => OpY.fieldAddr) rfl ?_
    obtain ⟨u_9, eu_9, H⟩ := bnd H
    refine TR.g 18 rfl (fun hg => (OpY.sliceAr (cut_some (gb_some eu_9 (nF hg.h))).1 (cut_some (gb_some eu_9 (nF hg.h))).2.1 (cut_some (gb_some eu_9 (nF hg.h))).2.2 (by decide))) rfl ?_
    obtain ⟨u_10, eu_10, H⟩ := bnd H
    refine TR.g 18 rfl (fun hg => (OpY.sliceAr (cut_some (gb_some eu_10 (nF hg.h))).1 (cut_some (gb_some eu_10 (nF hg.h))).2.1 (cut_some (gb_some eu_10 (nF hg.h))).2.2 (by decide))) rfl ?_
    obtain ⟨x_11, ex_11, H⟩ := bnd H
    refine TR.g 18 rfl (fun hg => (OpY.callB2 [b5_0, b7_2] (ArgB.sv (PlS.vec (Pl.fld (off := 2) (α := Prefix) (β := (Vec UInt8 16)) Pl.one) (cut_le (gb_some eu_9 (nF hg.h))) (by decide)) (cut_len (gb_some eu_9 (nF hg.h)) (Vec.h _)) (by simp)) (ArgB.sv (PlS.vec Pl.one (cut_le (gb_some eu_10 (nF hg.h))) (by decide)) (cut_len (gb_some eu_10 (nF hg.h)) (Vec.h _)) (by simp)) fun w v0 v1 hA h0 h1 => bytes_Compare_c w v0 v1 hA (toD h0) (toD h1) (gb_some ex_11 (nF hg.h)))) rfl ?_; refine TR.g 18 rfl (fun hg => OpY.gtr) rfl ?_; refine TR.s OpY.pickOr rfl ?_; refine TR.nil ?_; refine TC.kp [0, 5, 6, 7, 9, 24] [b0, b5_0, b6_1, b7_2, b9_4] ?_; refine TC.cond (fun hc => ?_) (fun hc => ?_)
    · replace H := cT H hc
      refine TC.seqS ?_; refine TS.s OpY.move rfl ?_; refine TS.s OpY.assign rfl ?_; refine TS.nil ?_; refine TE.then ?_; refine TC.kp [8] [b0] ?_; refine TC.ret ?_; refine TE.then_ret ?_
      obtain rfl := (Option.some.inj H)
      exact TE.retO1 rfl ⟨b0, p0, c0⟩ (Sl_le rfl) (Less.pk rfl (Less.nil _))
    · replace H := cF H hc
      refine TC.skip ?_; refine TE.then ?_; refine TC.kp [0, 5, 6, 7, 9] [b0, b5_0, b6_1, b7_2, b9_4] ?_; refine TC.seq ?_; refine TC.seqD0 mix (by kernel_rfl) ?_; refine TR.s OpY.fieldAddr rfl ?_
      obtain ⟨u_12, eu_12, H⟩ := bnd H
      refine TR.s (OpY.sliceAr (cut_some eu_12).1 (cut_some eu_12).2.1 (cut_some eu_12).2.2 (by decide)) rfl ?_
      obtain ⟨u_13, eu_13, H⟩ := bnd H
      refine TR.s (OpY.sliceAr (cut_some eu_13).1 (cut_some eu_13).2.1 (cut_some eu_13).2.2 (by decide)) rfl ?_
      obtain ⟨x_14, ex_14, H⟩ := bnd H
      refine TR.s (OpY.callB2 [b5_0, b6_1] (ArgB.sv (PlS.vec (Pl.fld (off := 2) (α := Prefix) (β := (Vec UInt8 16)) Pl.one) (cut_le eu_12) (by decide)) (cut_len eu_12 (Vec.h _)) (by simp)) (ArgB.sv (PlS.vec Pl.one (cut_le eu_13) (by decide)) (cut_len eu_13 (Vec.h _)) (by simp)) fun w v0 v1 hA h0 h1 => bytes_Compare_c w v0 v1 hA (toD h0) (toD h1) ex_14) rfl ?_; refine TR.s OpY.geq rfl ?_; refine TR.s OpY.move rfl ?_
      obtain ⟨u_15, eu_15, H⟩ := bnd H
      refine TR.g 31 rfl (fun hg => (OpY.sliceAr (cut_some (gb_some eu_15 hg.h)).1 (cut_some (gb_some eu_15 hg.h)).2.1 (cut_some (gb_some eu_15 hg.h)).2.2 (by decide))) rfl ?_
      obtain ⟨u_16, eu_16, H⟩ := bnd H
      refine TR.g 31 rfl (fun hg => (OpY.sliceAr (cut_some (gb_some eu_16 hg.h)).1 (cut_some (gb_some eu_16 hg.h)).2.1 (cut_some (gb_some eu_16 hg.h)).2.2 (by decide))) rfl ?_
      obtain ⟨x_17, ex_17, H⟩ := bnd H
      refine TR.g 31 rfl (fun hg => (OpY.callB2 [b9_4, b7_2] (ArgB.sv (PlS.vec Pl.one (cut_le (gb_some eu_15 hg.h)) (by decide)) (cut_len (gb_some eu_15 hg.h) (Vec.h _)) (by simp)) (ArgB.sv (PlS.vec Pl.one (cut_le (gb_some eu_16 hg.h)) (by decide)) (cut_len (gb_some eu_16 hg.h) (Vec.h _)) (by simp)) fun w v0 v1 hA h0 h1 => bytes_Compare_c w v0 v1 hA (toD h0) (toD h1) (gb_some ex_17 hg.h))) rfl ?_; refine TR.g 31 rfl (fun hg => OpY.leq) rfl ?_; refine TR.s OpY.pickAnd rfl ?_; refine TR.nil ?_; refine TC.kp [0, 5, 6, 7, 36] [b0, b5_0, b6_1, b7_2] ?_; refine TC.cond (fun hc => ?_) (fun hc => ?_)
      · replace H := cT H hc
        refine TC.seqS ?_; refine TS.s OpY.move rfl ?_; refine TS.s (OpD.ldq Pl.one) rfl ?_; refine TS.s (OpY.buildSlice [.tmp 38] rfl rfl (by decide)) rfl ?_
        obtain ⟨u_19, eu_19, H⟩ := bnd H
        refine TS.app (ys := ([p0x] : List Prefix)) inferInstance eu_19 rfl rfl rfl fun b40_17 p40_17 c40_17 => ?_; refine TS.s OpY.assign rfl ?_; refine TS.nil ?_; refine TE.then ?_; refine TC.kp [8] [b40_17] ?_
        obtain ⟨l_20, el_20, H⟩ := bnd H
        refine TC.nmB b40_17 (nm_row el_20) ?_; refine TC.see 8 _ (nm_sl2 el_20 rfl) ?_; refine TC.ret ?_; refine TE.then_ret ?_
        obtain rfl := (Option.some.inj H)
        exact TE.retO1 rfl ⟨b40_17, p40_17, c40_17⟩ (Sl_le rfl) (Less.pk rfl (Less.nil _))
      · replace H := cF H hc
        refine TC.skip ?_; refine TE.then ?_; refine TC.kp [0, 5, 6, 7] [b0, b5_0, b6_1, b7_2] ?_; refine TC.seqS ?_; refine TS.s (OpD.ldq Pl.one) rfl ?_
        obtain ⟨r_21, er_21, H⟩ := bnd H
        refine TS.s (OpY.call1 fun w v0 hA h0 => split_halves_c w v0 hA (toD h0) er_21) rfl ?_; refine TS.s OpY.move rfl ?_; refine TS.s (OpY.extract rfl) rfl ?_; refine TS.s (OpY.extract rfl) rfl ?_; refine TS.alloc (α := Prefix) rfl fun b10_21 => ?_; refine TS.alloc (α := Prefix) rfl fun b11_22 => ?_; refine TS.un (OpT.storeq (y := (r_21.1 : Prefix)) Pl.one) ?_; refine TS.un (OpT.storeq (y := (r_21.2 : Prefix)) Pl.one) ?_; refine TS.nil ?_; refine TE.then ?_; refine TC.kp [0, 6, 7, 10, 11] [b0, b6_1, b7_2, b10_21, b11_22] ?_; refine TC.seqD [4, 8, 9] [b0] mix (by kernel_rfl) (by kernel_rfl) ?_; refine TR.s OpY.move rfl ?_; refine TR.s (OpD.ldq Pl.one) rfl ?_; refine TR.s (OpD.ldq Pl.one) rfl ?_; refine TR.s (OpD.ldq Pl.one) rfl ?_
        obtain ⟨x_24, ex_24, H⟩ := bnd H
        refine TR.t (fun g => (OpT.callO4 [b0] fun w v0 v1 v2 v3 hA hO hap hks h0 h1 h2 h3 => ih w v0 v1 v2 v3 hA hO hap hks (slD rfl h0) (toD h1) (toD h2) (toD h3) ex_24)) rfl ?_; refine TR.s (OpD.ldq Pl.one) rfl ?_; refine TR.s (OpD.ldq Pl.one) rfl ?_; refine TR.s (OpD.ldq Pl.one) rfl ?_
        obtain ⟨x_26, ex_26, H⟩ := bnd H
        refine TR.t (fun g => (OpT.callO4 [(g.2.1)] fun w v0 v1 v2 v3 hA hO hap hks h0 h1 h2 h3 => ih w v0 v1 v2 v3 hA hO hap hks (slD rfl h0) (toD h1) (toD h2) (toD h3) ex_26)) rfl ?_; refine TR.t (fun g => OpT.G rfl OpY.assign) rfl ?_; refine TR.nil ?_
        rintro ⟨⟨⟨_, ⟨b50_24, p50_24, c50_24⟩⟩, ⟨b54_26, p54_26, c54_26⟩⟩, _⟩
        dsimp only [Fam.nextS, Fam.nextN, Fam.one, List.cons_append, List.nil_append]
        refine TC.kp [8] [b54_26] ?_; refine TC.ret ?_
        obtain rfl := (Option.some.inj H)
        exact TE.retO1 rfl ⟨b54_26, p54_26, c54_26⟩ (Sl_le rfl) (Less.pk rfl (Less.nil _))
theorem split_within_o {A : Nat → Prop} {l0 : (List Prefix)} {p0x : Prefix} {low0 : (Vec UInt8 16)} {high0 : (Vec UInt8 16)} {b0 c0 : Nat} {p0 : Prop} {r : (List Prefix)} (w : World) (v0 v1 v2 v3 : Value) (hA : ∀ k, w.heap.size ≤ k → A k) (hO : OwnIn A [⟨b0, p0, Row (l0 : List Prefix) c0⟩]) (hap : Apart [⟨b0, p0, Row (l0 : List Prefix) c0⟩]) (hks : Pks (Pub A [⟨b0, p0, Row (l0 : List Prefix) c0⟩]) [⟨b0, p0, Row (l0 : List Prefix) c0⟩] w) (h0 : (Sl b0 p0 0 l0.length c0).p (Pub A [⟨b0, p0, Row (l0 : List Prefix) c0⟩]) w v0) (h1 : (D (p0x : Prefix)).p (Pub A [⟨b0, p0, Row (l0 : List Prefix) c0⟩]) w v1) (h2 : (D (low0 : (Vec UInt8 16))).p (Pub A [⟨b0, p0, Row (l0 : List Prefix) c0⟩]) w v2) (h3 : (D (high0 : (Vec UInt8 16))).p (Pub A [⟨b0, p0, Row (l0 : List Prefix) c0⟩]) w v3) (H : split_within l0 p0x low0 high0 = some r) :
    Calls Try.prog 42 #[v0, v1, v2, v3] w (RetO A w [⟨b0, p0, Row (l0 : List Prefix) c0⟩] (fun g : Nat × Prop × Nat => Sl g.1 g.2.1 0 (List.length r) g.2.2) fun g => [⟨g.1, g.2.1, Row (r : List Prefix) g.2.2⟩]) := split_within_o_ih _ w v0 v1 v2 v3 hA hO hap hks h0 h1 h2 h3 H
def split_Range (bits0 : Int) (first0 : (Vec UInt8 16)) (last0 : (Vec UInt8 16)) : Option ((List Prefix) × Int) :=
  bif ((decide (bits0 ≠ (32 : Int))) && (decide (bits0 ≠ (128 : Int)))) then (some (([] : List Prefix), (1 : Int))) else ((key_Cut first0 bits0).bind fun x_3 => (gb (!(decide (x_3 ≠ first0))) (key_Cut last0 bits0)).bind fun x_4 => (gb (!((decide (x_3 ≠ first0)) || (decide (x_4 ≠ last0)))) (cut 16 0 (16 : Int))).bind fun u_5 => (gb (!((decide (x_3 ≠ first0)) || (decide (x_4 ≠ last0)))) (cut 16 0 (16 : Int))).bind fun u_6 => (gb (!((decide (x_3 ≠ first0)) || (decide (x_4 ≠ last0)))) (bytes_Compare ((first0.l.drop (Int.toNat 0)).take (((16 : Int) - 0).toNat)) ((last0.l.drop (Int.toNat 0)).take (((16 : Int) - 0).toNat)))).bind fun x_7 => bif (((decide (x_3 ≠ first0)) || (decide (x_4 ≠ last0))) || (decide (x_7 > (0 : Int)))) then (some (([] : List Prefix), (1 : Int))) else ((split_within ([] : List Prefix) (⟨bits0, 0, Dat.z⟩ : Prefix) first0 last0).bind fun x_8 => some (x_8, (0 : Int))))
theorem split_Range_c {A : Nat → Prop} {bits0 : Int} {first0 : (Vec UInt8 16)} {last0 : (Vec UInt8 16)}  {r : ((List Prefix) × Int)} (w : World) (v0 v1 v2 : Value) (hA : ∀ k, w.heap.size ≤ k → A k)  (h0 : (D (bits0 : Int)).p A w v0) (h1 : (D (first0 : (Vec UInt8 16))).p A w v1) (h2 : (D (last0 : (Vec UInt8 16))).p A w v2) (H : split_Range bits0 first0 last0 = some r) :
    Calls Try.prog 23 #[v0, v1, v2] w (Ret A w (Tup [D (r.1 : (List Prefix)), D (r.2 : Int)])) := by
  unfold split_Range at H
  refine enter3 hA Try.func23 rfl Try.ntmps23 rfl h0 h1 h2 ?_; refine TC.seqS ?_; refine TS.box rfl fun b4_0 => ?_; refine TS.box rfl fun b5_1 => ?_; refine TS.s OpY.assign rfl ?_; refine TS.s OpY.assign rfl ?_; refine TS.nil ?_; refine TE.then ?_; refine TC.kp [0, 4, 5] [b4_0, b5_1] ?_; refine TC.seq ?_; refine TC.seqS ?_; refine TS.s OpY.move rfl ?_; refine TS.s OpY.neq rfl ?_; refine TS.s OpY.move rfl ?_; refine TS.g 10 rfl (fun hg => OpY.move) rfl ?_; refine TS.g 10 rfl (fun hg => OpY.neq) rfl ?_; refine TS.s OpY.pickAnd rfl ?_; refine TS.nil ?_; refine TE.then ?_; refine TC.kp [0, 4, 5, 13] [b4_0, b5_1] ?_; refine TC.cond (fun hc => ?_) (fun hc => ?_)
  · replace H := cT H hc
    refine TC.seqS ?_; refine TS.s OpY.assign rfl ?_; refine TS.s OpY.assign rfl ?_; refine TS.nil ?_; refine TE.then ?_; refine TC.kp [6, 7] [] ?_; refine TC.ret ?_; refine TE.then_ret ?_
    obtain rfl := (Option.some.inj H)
    exact TE.retN rfl rfl (.cons Cv.le (.cons Cv.le .nil))
  · replace H := cF H hc
    refine TC.skip ?_; refine TE.then ?_; refine TC.kp [0, 4, 5] [b4_0, b5_1] ?_; refine TC.seq ?_; refine TC.seqD0 mix (by kernel_rfl) ?_; refine TR.s (OpD.ldq Pl.one) rfl ?_; refine TR.s OpY.move rfl ?_
    obtain ⟨x_3, ex_3, H⟩ := bnd H
    refine TR.s (OpY.call2 fun w v0 v1 hA h0 h1 => key_Cut_c w v0 v1 hA (toD h0) (toD h1) ex_3) rfl ?_; refine TR.s (OpD.ldq Pl.one) rfl ?_; refine TR.s (OpY.neq_agg EqV_23 (by decide) EqG_23 rfl) rfl ?_; refine TR.s OpY.move rfl ?_; refine TR.g 19 rfl (fun hg => (OpD.ldq Pl.one)) rfl ?_; refine TR.g 19 rfl (fun hg => OpY.move) rfl ?_
    obtain ⟨x_4, ex_4, H⟩ := bnd H
    refine TR.g 19 rfl (fun hg => (OpY.call2 fun w v0 v1 hA h0 h1 => key_Cut_c w v0 v1 hA (toD h0) (toD h1) (gb_some ex_4 (nF hg.h)))) rfl ?_; refine TR.g 19 rfl (fun hg => (OpD.ldq Pl.one)) rfl ?_; refine TR.g 19 rfl (fun hg => (OpY.neq_agg EqV_23 (by decide) EqG_23 rfl)) rfl ?_; refine TR.s OpY.pickOr rfl ?_; refine TR.s OpY.move rfl ?_
    obtain ⟨u_5, eu_5, H⟩ := bnd H
    refine TR.g 26 rfl (fun hg => (OpY.sliceAr (cut_some (gb_some eu_5 (nF hg.h))).1 (cut_some (gb_some eu_5 (nF hg.h))).2.1 (cut_some (gb_some eu_5 (nF hg.h))).2.2 (by decide))) rfl ?_
    obtain ⟨u_6, eu_6, H⟩ := bnd H
    refine TR.g 26 rfl (fun hg => (OpY.sliceAr (cut_some (gb_some eu_6 (nF hg.h))).1 (cut_some (gb_some eu_6 (nF hg.h))).2.1 (cut_some (gb_some eu_6 (nF hg.h))).2.2 (by decide))) rfl ?_
    obtain ⟨x_7, ex_7, H⟩ := bnd H
    refine TR.g 26 rfl (fun hg => (OpY.callB2 [b4_0, b5_1] (ArgB.sv (PlS.vec Pl.one (cut_le (gb_some eu_5 (nF hg.h))) (by decide)) (cut_len (gb_some eu_5 (nF hg.h)) (Vec.h _)) (by simp)) (ArgB.sv (PlS.vec Pl.one (cut_le (gb_some eu_6 (nF hg.h))) (by decide)) (cut_len (gb_some eu_6 (nF hg.h)) (Vec.h _)) (by simp)) fun w v0 v1 hA h0 h1 => bytes_Compare_c w v0 v1 hA (toD h0) (toD h1) (gb_some ex_7 (nF hg.h)))) rfl ?_; refine TR.g 26 rfl (fun hg => OpY.gtr) rfl ?_; refine TR.s OpY.pickOr rfl ?_; refine TR.nil ?_; refine TC.kp [0, 4, 5, 31] [b4_0, b5_1] ?_; refine TC.cond (fun hc => ?_) (fun hc => ?_)
    · replace H := cT H hc
      refine TC.seqS ?_; refine TS.s OpY.assign rfl ?_; refine TS.s OpY.assign rfl ?_; refine TS.nil ?_; refine TE.then ?_; refine TC.kp [6, 7] [] ?_; refine TC.ret ?_; refine TE.then_ret ?_
      obtain rfl := (Option.some.inj H)
      exact TE.retN rfl rfl (.cons Cv.le (.cons Cv.le .nil))
    · replace H := cF H hc
      refine TC.skip ?_; refine TE.then ?_; refine TC.kp [0, 4, 5] [b4_0, b5_1] ?_; refine TC.seqS ?_; refine TS.s OpY.move rfl ?_; refine TS.s (OpY.buildAs (⟨bits0, 0, Dat.z⟩ : Prefix) rfl ⟨_, Try.underlying25, by kernel_rfl⟩ rfl rfl) rfl ?_; refine TS.s (OpD.ldq Pl.one) rfl ?_; refine TS.s (OpD.ldq Pl.one) rfl ?_; refine TS.nilE 0 Prefix ?_
      obtain ⟨x_8, ex_8, H⟩ := bnd H
      refine TS.t (OpT.callO4 [0] fun w v0 v1 v2 v3 hA hO hap hks h0 h1 h2 h3 => split_within_o w v0 v1 v2 v3 hA hO hap hks (slD rfl (NilS.sl0 _ _ _ h0)) (toD h1) (toD h2) (toD h3) ex_8) rfl fun ⟨b36_8, p36_8, c36_8⟩ => ?_; dsimp only [List.cons_append, List.nil_append]
      refine TS.s OpY.assign rfl ?_; refine TS.s OpY.assign rfl ?_; refine TS.nil ?_; refine TE.then ?_; refine TC.kp [6, 7] [b36_8] ?_; refine TC.ret ?_; refine TE.pub b36_8 (PubE.set 6 (PubC.sv PlS.all rfl) PubE.refl) ?_
      obtain rfl := (Option.some.inj H)
      exact TE.retN rfl rfl (.cons Cv.le (.cons Cv.le .nil))
def bywayref17_Same_l1 (a0 : (List Prefix)) (b0 : (List Prefix)) (i_2 : Int) : Option (Int ⊕ (Unit ⊕ Bool)) :=
  bif (decide (i_2 < (a0.length : Int))) then ((idx a0 i_2).bind fun x_4 => (idx b0 i_2).bind fun x_5 => bif (decide (x_4 ≠ x_5)) then (some (.inr (.inr false))) else ((addI i_2 (1 : Int)).bind fun x_7 => some (.inl x_7))) else (some (.inr (.inl ())))
def bywayref17_Same (a0 : (List Prefix)) (b0 : (List Prefix)) : Option Bool :=
  bif (decide ((a0.length : Int) ≠ (b0.length : Int))) then (some false) else ((loopO (fun s => bywayref17_Same_l1 a0 b0 s) (0 : Int)).bind fun o_1 => elS o_1 (fun _ => some true) (fun q => some q))
theorem bywayref17_Same_c {A : Nat → Prop} {a0 : (List Prefix)} {b0 : (List Prefix)}  {r : Bool} (w : World) (v0 v1 : Value) (hA : ∀ k, w.heap.size ≤ k → A k)  (h0 : (D (a0 : (List Prefix))).p A w v0) (h1 : (D (b0 : (List Prefix))).p A w v1) (H : bywayref17_Same a0 b0 = some r) :
    Calls Try.prog 12 #[v0, v1] w (Ret A w (D (r : Bool))) := by
  unfold bywayref17_Same at H
  refine enter2 hA Try.func12 rfl Try.ntmps12 rfl h0 h1 ?_; refine TC.seqS ?_; refine TS.s OpY.assign rfl ?_; refine TS.nil ?_; refine TE.then ?_; refine TC.kp [0, 1] [] ?_; refine TC.seq ?_; refine TC.seqS ?_; refine TS.s OpY.move rfl ?_; refine TS.s OpD.len rfl ?_; refine TS.s OpY.move rfl ?_; refine TS.s OpD.len rfl ?_; refine TS.s OpY.neq rfl ?_; refine TS.nil ?_; refine TE.then ?_; refine TC.kp [0, 1, 10] [] ?_; refine TC.cond (fun hc => ?_) (fun hc => ?_)
  · replace H := cT H hc
    refine TC.seqS ?_; refine TS.s OpY.assign rfl ?_; refine TS.nil ?_; refine TE.then ?_; refine TC.kp [4] [] ?_; refine TC.ret ?_; refine TE.then_ret ?_
    obtain rfl := (Option.some.inj H)
    exact TE.ret1 rfl Cv.le
  · replace H := cF H hc
    refine TC.skip ?_; refine TE.then ?_; refine TC.kp [0, 1] [] ?_; refine TC.seq ?_; refine TC.seqS ?_; refine TS.s OpY.assign rfl ?_; refine TS.nil ?_; refine TE.then ?_; refine TC.kp [0, 1, 5] [] ?_
    obtain ⟨o_1, H1, H⟩ := bnd H
    refine TC.cutP (fun s : Unit => o_1 = .inl s) (fun (_ : Unit) (_ : Unit) => Env.nil) (fun (_ : Unit) (_ : Unit) => []) ?_ ?_
    · skip
      refine TC.block ?_; refine TC.loopP H1 (fun (i_2 : Int) (_ : Unit) => (Env.set (Env.set (Env.set Env.nil 0 (D (a0 : (List Prefix)))) 1 (D (b0 : (List Prefix)))) 5 (D (i_2 : Int)))) (fun (i_2 : Int) (_ : Unit) => []) () (Env.cv (Env.cv (Env.cv (Env.le_nil _)))) (Less.nil _) ?_
      rintro i_2 ⟨⟩ x_3 H3 he3
      replace H3 : bywayref17_Same_l1 a0 b0 i_2 = some x_3 := H3
      unfold bywayref17_Same_l1 at H3
      refine TC.seq ?_; refine TC.seqS ?_; refine TS.s OpY.move rfl ?_; refine TS.s OpY.move rfl ?_; refine TS.s OpD.len rfl ?_; refine TS.s OpY.lss rfl ?_; refine TS.nil ?_; refine TE.then ?_; refine TC.kp [0, 1, 5, 14] [] ?_; refine TC.cond (fun hc => ?_) (fun hc => ?_)
      · replace H3 := cT H3 hc
        refine TC.skip ?_; refine TE.then ?_; refine TC.kp [0, 1, 5] [] ?_; refine TC.seq ?_; refine TC.block ?_; refine TC.seqD0 mix (by kernel_rfl) ?_; refine TR.s OpY.move rfl ?_; refine TR.s OpY.move rfl ?_
        obtain ⟨x_4, ex_4, H3⟩ := bnd H3
        refine TR.s (OpD.index ex_4) rfl ?_; refine TR.s OpY.load rfl ?_; refine TR.s OpY.move rfl ?_; refine TR.s OpY.move rfl ?_
        obtain ⟨x_5, ex_5, H3⟩ := bnd H3
        refine TR.s (OpD.index ex_5) rfl ?_; refine TR.s OpY.load rfl ?_; refine TR.s (OpY.neq_agg EqV_25 (by decide) EqG_25 rfl) rfl ?_; refine TR.nil ?_; refine TC.kp [0, 1, 5, 25] [] ?_; refine TC.cond (fun hc => ?_) (fun hc => ?_)
        · replace H3 := cT H3 hc
          refine TC.seqS ?_; refine TS.s OpY.assign rfl ?_; refine TS.nil ?_; refine TE.then ?_; refine TC.kp [4] [] ?_; refine TC.ret ?_; refine TE.inBlock_ret ?_; refine TE.then_ret ?_; refine TE.then_ret ?_; refine TE.inBlock_ret ?_; refine TE.cut_ret ?_
          have R5 := elS_r (he3 _ (Option.some.inj H3).symm) H
          refine TE.then_ret ?_
          obtain rfl := (Option.some.inj R5)
          exact TE.ret1 rfl Cv.le
        · replace H3 := cF H3 hc
          refine TC.skip ?_; refine TE.inBlock_normal ?_; refine TE.then ?_; refine TC.kp [0, 1, 5] [] ?_; refine TC.regionS ?_; refine TS.s OpY.move rfl ?_
          obtain ⟨x_7, ex_7, H3⟩ := bnd H3
          refine TS.s (OpD.add ex_7) rfl ?_; refine TS.s OpY.assign rfl ?_; refine TS.nil ?_; refine TE.kp [0, 1, 5] [] ?_; exact TE.backP x_7 () (Option.some.inj H3).symm (Env.cv (Env.cv (Env.cv (Env.le_nil _)))) (Less.nil _)
      · replace H3 := cF H3 hc
        refine TC.exit ?_; refine TE.then_exit ?_; refine TE.then_exit ?_; refine TE.inBlock_here ?_; exact TE.cutP () () (he3 _ (Option.some.inj H3).symm).symm (Env.le_nil _) (Less.nil _)
    rintro ⟨⟩ ⟨⟩ hp
    replace H := elS_l hp H
    refine TE.then ?_; refine TC.kp [] [] ?_; refine TC.seqS ?_; refine TS.s OpY.assign rfl ?_; refine TS.nil ?_; refine TE.then ?_; refine TC.kp [4] [] ?_; refine TC.ret ?_
    obtain rfl := (Option.some.inj H)
    exact TE.ret1 rfl Cv.le
end Go.Proofs.Ytpknphecmahkaaa.Tr
namespace Go.Proofs.Ytpknphecmahkaaa.Tr
open Go
set_option maxRecDepth 100000
theorem addbit (v : Vec UInt8 16) {w r : Nat} (hw : w < 16) (hr : r < 8) (h : kv v % 2 ^ (128 - (8 * w + r)) = 0) : ((v.l[w]'(by rw [v.h]; exact hw)).toNat % 2 ^ (8 - r) = 0) ∧ ∀ b : UInt8, b.toNat = (v.l[w]'(by rw [v.h]; exact hw)).toNat + 2 ^ (7 - r) → kv (v.set w b) = kv v + 2 ^ (127 - (8 * w + r)) := by
  obtain ⟨p1, p2⟩ := kv_part v hw
  rw [pow_part hw (by omega), p1] at h
  have hM : 0 < 256 ^ (15 - w) := Nat.pos_of_neZero _
  have hs : 256 = 2 ^ (8 - r) * 2 ^ r := by rw [← Nat.pow_add, show 8 - r + r = 8 by omega]
  have e2 : 2 ^ (127 - (8 * w + r)) = 2 ^ (7 - r) * 256 ^ (15 - w) := by rw [p256, ← Nat.pow_add]; congr 1; omega
  have hk := kv_setb v hw
  generalize 256 ^ (15 - w) = M at *
  generalize (v.l[w]'(by rw [v.h]; exact hw)).toNat = x at *
  generalize kvl (v.l.take w) = A at *
  generalize kvl (v.l.drop (w + 1)) = q at *
  have hd := Nat.dvd_of_mod_eq_zero h
  have h1 : q = 0 := by
    have h2 : M ∣ (A * 256 + x) * M + q := Nat.dvd_trans ⟨2 ^ (8 - r), Nat.mul_comm ..⟩ hd
    have h3 : M ∣ q := (Nat.dvd_add_right ⟨A * 256 + x, Nat.mul_comm ..⟩).1 h2
    exact Nat.eq_zero_of_dvd_of_lt h3 p2
  subst h1
  rw [Nat.add_zero] at hd
  have h4 : 2 ^ (8 - r) ∣ A * 256 + x := Nat.dvd_of_mul_dvd_mul_right hM hd
  have h5 : 2 ^ (8 - r) ∣ x := (Nat.dvd_add_right ⟨A * 2 ^ r, by rw [hs]; rw [Nat.mul_comm, Nat.mul_assoc, Nat.mul_comm (2 ^ r)]⟩).1 h4
  refine ⟨Nat.mod_eq_zero_of_dvd h5, fun b hb => ?_⟩
  rw [hk, hb, p1, e2, ← Nat.add_assoc, Nat.add_mul, Nat.add_zero, Nat.add_zero]
theorem kv_room {a n : Nat} (ha : a < 2 ^ 128) (h : a % 2 ^ (128 - n) = 0) (hn : n < 128) : a + 2 ^ (127 - n) < 2 ^ 128 := by
  have e : 2 ^ (128 - n) = 2 ^ (127 - n) * 2 := by rw [← Nat.pow_succ]; congr 1; omega
  have e2 : 2 ^ 128 = 2 ^ (128 - n) * 2 ^ n := by rw [← Nat.pow_add]; congr 1; omega
  obtain ⟨m, rfl⟩ := Nat.dvd_of_mod_eq_zero h
  rw [e2] at ha ⊢
  have hm : m < 2 ^ n := Nat.lt_of_mul_lt_mul_left ha
  have : 2 ^ (128 - n) * (m + 1) ≤ 2 ^ (128 - n) * 2 ^ n := Nat.mul_le_mul_left _ hm
  rw [Nat.mul_add, Nat.mul_one] at this
  have : 0 < 2 ^ (127 - n) := Nat.pos_of_neZero _
  omega
def setK (v : Vec UInt8 16) (n : Nat) : Vec UInt8 16 := mk (kv v + 2 ^ (127 - n))
theorem kv_setK {v : Vec UInt8 16} {n : Nat} (hn : n < 128) (h : kv v % 2 ^ (128 - n) = 0) : kv (setK v n) = kv v + 2 ^ (127 - n) := kv_mk (kv_room (kv_lt v) h hn)
theorem split_set_eq {v : Vec UInt8 16} {n : Nat} (hn : n < 128) (h : kv v % 2 ^ (128 - n) = 0) : split_set v (n : Int) = some (setK v n) := by
  have hk := kv_setK hn h
  generalize setK v n = K at hk ⊢
  obtain ⟨w, r, rfl, hr⟩ : ∃ w r, n = 8 * w + r ∧ r < 8 := ⟨n / 8, n % 8, by omega, by omega⟩
  have hw : w < 16 := by omega
  have hl : w < v.l.length := by rw [v.h]; exact hw
  have q : quoI ((8 * w + r : Nat) : Int) 8 = some (w : Int) := by rw [quoI_ok (by omega) (by omega)]; congr 1; omega
  have q2 : remI ((8 * w + r : Nat) : Int) 8 = some (r : Int) := by rw [remI_ok (by omega) (by omega)]; congr 1; omega
  have hcnt : cnt (r : Int) = some r := by unfold cnt; rw [if_pos (by omega), Int.toNat_natCast]
  unfold split_set
  rw [q, bind_s, idx_nat hl, bind_s, q2, bind_s, hcnt, bind_s, bind_s, bind_s, Int.toNat_natCast]
  refine congrArg some (kv_inj ?_)
  obtain ⟨a1, a2⟩ := addbit v hw hr h
  rw [hk, a2 _ (byte_or' hr a1)]
def loP (p : Prefix) : Prefix := ⟨p.Bits, p.Len + 1, p.Key⟩
def hiP (p : Prefix) : Prefix := ⟨p.Bits, p.Len + 1, setK p.Key p.Len.toNat⟩
theorem halves_eq {p : Prefix} (h : PM p) (hl : p.Len < p.Bits) : split_halves p = some (loP p, hiP p) := by
  obtain ⟨l1, l2, l3, l4⟩ := h.len
  have e := split_set_eq (v := p.Key) (n := p.Len.toNat) (by omega) h.2.2.2
  rw [l3] at e
  unfold split_halves
  rw [addI_ok (by omega) (by omega), bind_s, bind_s, bind_s, e, bind_s, bind_s]; rfl
def whP (p : Prefix) : Prefix := ⟨p.Bits, p.Len - 1, cutK p.Key (p.Len - 1)⟩
theorem whole_eq {p : Prefix} (h : -9223372036854775807 ≤ p.Len ∧ p.Len ≤ 9223372036854775807) : split_whole p = some (whP p) := by
  unfold split_whole
  rw [subI_ok (by omega) (by omega), bind_s, bind_s, key_Cut_eq, bind_s, bind_s]; rfl
end Go.Proofs.Ytpknphecmahkaaa.Tr
namespace Go.Proofs.Ytpknphecmahkaaa.Tr
open Go
set_option maxRecDepth 100000
theorem cutK_mod (v : Vec UInt8 16) (n : Nat) : kv (cutK v n) % 2 ^ (128 - n) = 0 := by rw [kv_cut, Int.toNat_natCast]; exact Nat.mul_mod_left ..
theorem ref_Same_eq (a b : List Prefix) (ha : a.length ≤ 1000000000) : bywayref17_Same a b = some (decide (a = b)) := by
  unfold bywayref17_Same
  by_cases hl : a.length = b.length
  · rw [cond_false (by simp [hl])]
    rcases loopO_find (f := fun s => bywayref17_Same_l1 a b s) (fun i => (i : Int)) a.length (fun i => decide (a[i]? ≠ b[i]?)) (fun _ => .inr false) (y := .inl ()) (by omega) (fun i hi hp => by
        have hx : a[i] = b[i]'(by omega) := by
          have := of_decide_eq_false hp
          rw [Decidable.not_not, List.getElem?_eq_getElem hi, List.getElem?_eq_getElem (show i < b.length by omega)] at this
          exact Option.some.inj this
        unfold bywayref17_Same_l1
        rw [lt_t hi, cond_t, idx_nat hi, bind_s, idx_nat (show i < b.length by omega), bind_s, cond_false (decide_eq_false (fun h => h hx)), addI_1 (by omega), bind_s]) (fun i hi hp => by
        have hx : a[i] ≠ b[i]'(by omega) := fun h => by
          have := of_decide_eq_true hp
          rw [List.getElem?_eq_getElem hi, List.getElem?_eq_getElem (show i < b.length by omega), h] at this
          exact this rfl
        unfold bywayref17_Same_l1
        rw [lt_t hi, cond_t, idx_nat hi, bind_s, idx_nat (show i < b.length by omega), bind_s, cond_true (decide_eq_true hx)]) (by
        unfold bywayref17_Same_l1
        rw [lt_f, cond_f]) (s := (0 : Int)) rfl with ⟨i, hi, hp, -, e⟩ | ⟨hall, e⟩
    · rw [e, bind_s, elS_inr]
      have : a ≠ b := fun h => by subst h; exact absurd rfl (of_decide_eq_true hp)
      rw [decide_eq_false this]
    · rw [e, bind_s, elS_inl]
      have : a = b := List.ext_getElem? fun j => by
        rcases Nat.lt_or_ge j a.length with h1 | h1
        · exact Decidable.not_not.1 (of_decide_eq_false (hall j h1))
        · rw [List.getElem?_eq_none h1, List.getElem?_eq_none (by omega)]
      rw [decide_eq_true this]
  · rw [cond_true (by simp; omega)]
    have : a ≠ b := fun h => hl (by rw [h])
    rw [decide_eq_false this]
end Go.Proofs.Ytpknphecmahkaaa.Tr
namespace Go.Proofs.Ytpknphecmahkaaa.Tr
open Go
set_option maxRecDepth 100000
def pa (p : Prefix) : Nat := kv p.Key
def ps (p : Prefix) : Nat := 2 ^ (128 - p.Len.toNat)
theorem ps_pos (p : Prefix) : 0 < ps p := by unfold ps; exact Nat.pos_of_neZero _
theorem PM.dvd {p : Prefix} (h : PM p) : ps p ∣ pa p := Nat.dvd_of_mod_eq_zero h.2.2.2
def Inn (p : Prefix) (k : Nat) : Prop := pa p ≤ k ∧ k < pa p + ps p
theorem div_in {a s k : Nat} (hs : 0 < s) (hd : s ∣ a) : a / s = k / s ↔ a ≤ k ∧ k < a + s := by
  obtain ⟨m, rfl⟩ := hd
  rw [Nat.mul_div_cancel_left _ hs]
  constructor
  · intro h
    have h1 := Nat.div_add_mod k s
    have h2 := Nat.mod_lt k hs
    rw [← h] at h1
    omega
  · intro h
    have : k / s = m := by
      rw [Nat.div_eq_iff hs]
      have : m * s = s * m := Nat.mul_comm ..
      omega
    exact this.symm
theorem agree_in {p : Prefix} (h : PM p) (k : Nat) : agree (pa p) k p.Len.toNat ↔ Inn p k := div_in (ps_pos p) h.dvd
theorem PC.trans {p q r : Prefix} (h : PC p q) (g : PC q r) : PC p r := by
  obtain ⟨h1, h2, h3, h4, h5⟩ := h
  obtain ⟨g1, g2, g3, g4, g5⟩ := g
  have l := h1.len
  have l2 := h2.len
  exact ⟨h1, g2, h3.trans g3, Int.le_trans h4 g4, Eq.trans h5 (g5.le (by omega) (by omega))⟩
theorem PC.antisymm {p q : Prefix} (h : PC p q) (g : PC q p) : p = q := by
  obtain ⟨h1, h2, h3, h4, h5⟩ := h
  obtain ⟨g1, g2, g3, g4, g5⟩ := g
  have e : p.Len = q.Len := by omega
  have hk : kv p.Key = kv q.Key := by
    have a1 := (agree_in h1 (pa q)).1 h5
    have a2 := (agree_in h2 (pa p)).1 g5
    unfold Inn at a1 a2
    unfold pa at a1 a2
    omega
  have hk2 := kv_inj hk
  clear hk h4 h5 g3 g4 g5 h1 h2 g1 g2
  cases p; cases q
  dsimp only at h3 e hk2
  subst h3 e hk2
  rfl
theorem PC.inn {p q : Prefix} (h : PC p q) {k : Nat} (hk : Inn q k) : Inn p k := by
  obtain ⟨h1, h2, h3, h4, h5⟩ := h
  have := h1.len
  have := h2.len
  exact (agree_in h1 k).1 (Eq.trans h5 (((agree_in h2 k).2 hk).le (by omega) (by omega)))
theorem inn_lo (p : Prefix) : Inn p (pa p) := ⟨Nat.le_refl _, by have := ps_pos p; omega⟩
theorem PC.sub {p q : Prefix} (h : PC p q) : pa p ≤ pa q ∧ pa q + Tr.ps q ≤ pa p + Tr.ps p := by
  have h1 := (h.inn (inn_lo q)).1
  have h2 := (h.inn (k := pa q + Tr.ps q - 1) ⟨by have := ps_pos q; omega, by have := ps_pos q; omega⟩).2
  have := ps_pos q
  exact ⟨h1, by omega⟩
theorem PC.of_sub {p q : Prefix} (h1 : PM p) (h2 : PM q) (h3 : p.Bits = q.Bits) (h4 : p.Len ≤ q.Len) (h : Inn p (pa q)) : PC p q := ⟨h1, h2, h3, h4, (agree_in h1 _).2 h⟩
theorem laminar {p q : Prefix} (h1 : PM p) (h2 : PM q) (h3 : p.Bits = q.Bits) : PC p q ∨ PC q p ∨ pa p + ps p ≤ pa q ∨ pa q + ps q ≤ pa p := by
  have key : ∀ {p q : Prefix}, PM p → PM q → p.Bits = q.Bits → p.Len ≤ q.Len → PC p q ∨ pa p + ps p ≤ pa q ∨ pa q + ps q ≤ pa p := by
    intro p q h1 h2 h3 h4
    by_cases hi : Inn p (pa q)
    · exact .inl (PC.of_sub h1 h2 h3 h4 hi)
    · right
      unfold Inn at hi
      rcases Nat.lt_or_ge (pa q) (pa p) with h5 | h5
      · right
        have hd : ps q ∣ ps p := Nat.pow_dvd_pow 2 (by have := h1.len; have := h2.len; omega)
        obtain ⟨a, ha⟩ := h2.dvd
        obtain ⟨b, hb⟩ := Nat.dvd_trans hd h1.dvd
        rw [ha, hb] at h5 ⊢
        have := Nat.mul_le_mul_left (ps q) (Nat.lt_of_mul_lt_mul_left h5)
        rw [Nat.mul_succ] at this; exact this
      · left; omega
  by_cases h4 : p.Len ≤ q.Len
  · rcases key h1 h2 h3 h4 with h | h | h
    · exact .inl h
    · exact .inr (.inr (.inl h))
    · exact .inr (.inr (.inr h))
  · rcases key h2 h1 h3.symm (by omega) with h | h | h
    · exact .inr (.inl h)
    · exact .inr (.inr (.inr h))
    · exact .inr (.inr (.inl h))
theorem lo_PM {p : Prefix} (h : PM p) (hl : p.Len < p.Bits) : PM (loP p) := by
  obtain ⟨h1, h2, h3, h4⟩ := h
  exact ⟨h1, by unfold loP; dsimp only; omega, by unfold loP; dsimp only; omega, mod_le h4 (by unfold loP; dsimp only; omega)⟩
theorem ps_half {p : Prefix} (h : PM p) (hl : p.Len < p.Bits) : ps p = 2 * ps (loP p) ∧ ps (hiP p) = ps (loP p) ∧ pa (loP p) = pa p ∧ pa (hiP p) = pa p + ps (loP p) := by
  have hl2 := h.len
  have e : (p.Len + 1).toNat = p.Len.toNat + 1 := by have := h.2.1; omega
  refine ⟨?_, rfl, rfl, ?_⟩
  · unfold ps loP; dsimp only; rw [← Nat.pow_succ', e]; congr 1; omega
  · show kv (setK p.Key p.Len.toNat) = _
    rw [kv_setK (by omega) h.2.2.2]
    unfold ps loP pa; dsimp only
    rw [e]
    congr 2
    omega
theorem hi_PM {p : Prefix} (h : PM p) (hl : p.Len < p.Bits) : PM (hiP p) := by
  obtain ⟨e1, e2, e3, e4⟩ := ps_half h hl
  obtain ⟨h1, h2, h3, h4⟩ := h
  refine ⟨h1, by unfold hiP; dsimp only; omega, by unfold hiP; dsimp only; omega, ?_⟩
  refine Nat.mod_eq_zero_of_dvd ?_
  show ps (hiP p) ∣ pa (hiP p)
  rw [e4, e2]
  refine Nat.dvd_add (Nat.dvd_trans ?_ (Nat.dvd_of_mod_eq_zero h4)) (Nat.dvd_refl _)
  show ps (loP p) ∣ ps p
  rw [e1]; exact ⟨2, Nat.mul_comm ..⟩
theorem lo_PC {p : Prefix} (h : PM p) (hl : p.Len < p.Bits) : PC p (loP p) := PC.of_sub h (lo_PM h hl) rfl (by unfold loP; dsimp only; omega) (inn_lo p)
theorem hi_PC {p : Prefix} (h : PM p) (hl : p.Len < p.Bits) : PC p (hiP p) := by
  obtain ⟨e1, e2, e3, e4⟩ := ps_half h hl
  refine PC.of_sub h (hi_PM h hl) rfl (by unfold hiP; dsimp only; omega) ?_; unfold Inn
  have := ps_pos (loP p)
  omega
theorem half_inn {p : Prefix} (h : PM p) (hl : p.Len < p.Bits) (k : Nat) : Inn p k ↔ Inn (loP p) k ∨ Inn (hiP p) k := by
  obtain ⟨e1, e2, e3, e4⟩ := ps_half h hl
  unfold Inn
  omega
theorem wh_half {p : Prefix} (h : PM p) (hl : p.Len < p.Bits) : whP (loP p) = p ∧ whP (hiP p) = p := by
  obtain ⟨e1, e2, e3, e4⟩ := ps_half h hl
  have hp : cutK p.Key p.Len = p.Key := cut_same.2 h.2.2.2
  have hk : cutK (hiP p).Key p.Len = p.Key := by
    refine kv_inj ?_; rw [kv_cut]
    have h1 := (agree_in h (pa (hiP p))).2 ((hi_PC h hl).inn (inn_lo _))
    unfold agree at h1
    show pa (hiP p) / _ * _ = pa p
    rw [← h1]
    exact Nat.div_mul_cancel h.dvd
  refine ⟨?_, ?_⟩
  · unfold whP loP
    dsimp only
    rw [Int.add_sub_cancel, hp]
  · unfold whP
    show (⟨p.Bits, p.Len + 1 - 1, cutK (hiP p).Key (p.Len + 1 - 1)⟩ : Prefix) = p
    rw [Int.add_sub_cancel, hk]
theorem wh_PM {p : Prefix} (h : PM p) (hl : 0 < p.Len) : PM (whP p) ∧ (whP p).Len < (whP p).Bits ∧ (p = loP (whP p) ∨ p = hiP (whP p)) := by
  obtain ⟨h1, h2, h3, h4⟩ := id h
  have hl2 := h.len
  have hw : PM (whP p) := ⟨h1, by unfold whP; dsimp only; omega, by unfold whP; dsimp only; omega, by
    have := cutK_mod p.Key (p.Len - 1).toNat
    have e : (((p.Len - 1).toNat : Nat) : Int) = p.Len - 1 := by omega
    rw [e] at this; exact this⟩
  have hlt : (whP p).Len < (whP p).Bits := by unfold whP; dsimp only; omega
  refine ⟨hw, hlt, ?_⟩
  obtain ⟨e1, e2, e3, e4⟩ := ps_half hw hlt
  have hin : Inn (whP p) (pa p) := (agree_in hw _).1 (by
    unfold agree
    show kv (cutK p.Key (p.Len - 1)) / _ = _
    rw [kv_cut]
    exact Nat.mul_div_cancel _ (Nat.pos_of_neZero _))
  have hps : ps (loP (whP p)) = ps p := by unfold ps loP whP; dsimp only; rw [Int.sub_add_cancel]
  rw [half_inn hw hlt] at hin
  rcases hin with hin | hin
  · left
    have c1 : PC (loP (whP p)) p := PC.of_sub (lo_PM hw hlt) h rfl (by unfold loP whP; dsimp only; omega) hin
    have c2 : PC p (loP (whP p)) := ⟨h, lo_PM hw hlt, rfl, by unfold loP whP; dsimp only; omega, by
      have := c1.2.2.2.2
      unfold agree at this ⊢
      have e : (loP (whP p)).Len.toNat = p.Len.toNat := by unfold loP whP; dsimp only; omega
      rw [e] at this; exact this.symm⟩
    exact (c1.antisymm c2).symm
  · right
    have c1 : PC (hiP (whP p)) p := PC.of_sub (hi_PM hw hlt) h rfl (by unfold hiP whP; dsimp only; omega) hin
    have c2 : PC p (hiP (whP p)) := ⟨h, hi_PM hw hlt, rfl, by unfold hiP whP; dsimp only; omega, by
      have := c1.2.2.2.2
      unfold agree at this ⊢
      have e : (hiP (whP p)).Len.toNat = p.Len.toNat := by unfold hiP whP; dsimp only; omega
      rw [e] at this; exact this.symm⟩
    exact (c1.antisymm c2).symm
def HV (a b : Prefix) : Prop := a.Bits = b.Bits ∧ a.Len = b.Len ∧ 0 < a.Len ∧ a ≠ b ∧ whP a = whP b
theorem lo_ne_hi {p : Prefix} (h : PM p) (hl : p.Len < p.Bits) : loP p ≠ hiP p := fun e => by
  obtain ⟨e1, e2, e3, e4⟩ := ps_half h hl
  rw [← e] at e4
  have := ps_pos (loP p)
  omega
theorem HV.of {p : Prefix} (h : PM p) (hl : p.Len < p.Bits) : HV (loP p) (hiP p) := by
  obtain ⟨w1, w2⟩ := wh_half h hl
  exact ⟨rfl, rfl, by have := h.2.1; unfold loP; dsimp only; omega, lo_ne_hi h hl, w1.trans w2.symm⟩
theorem HV.cases {a b : Prefix} (ha : PM a) (hb : PM b) (h : HV a b) : ∃ p, PM p ∧ p.Len < p.Bits ∧ whP a = p ∧ (a = loP p ∧ b = hiP p ∨ a = hiP p ∧ b = loP p) := by
  obtain ⟨h1, h2, h3, h4, h5⟩ := h
  obtain ⟨w1, w2, w3⟩ := wh_PM ha h3
  obtain ⟨v1, v2, v3⟩ := wh_PM hb (by omega)
  rw [← h5] at v3
  refine ⟨whP a, w1, w2, rfl, ?_⟩
  rcases w3 with w3 | w3 <;> rcases v3 with v3 | v3
  · exact absurd (w3.trans v3.symm) h4
  · exact .inl ⟨w3, v3⟩
  · exact .inr ⟨w3, v3⟩
  · exact absurd (w3.trans v3.symm) h4
def Cov (l : List Prefix) (b : Int) (k : Nat) : Prop := ∃ p ∈ l, PM p ∧ p.Bits = b ∧ Inn p k
structure Norm (l : List Prefix) : Prop where
  pm : ∀ p ∈ l, PM p
  cv : ∀ p ∈ l, ∀ q ∈ l, PC p q → p = q
  hv : ∀ p ∈ l, ∀ q ∈ l, ¬ HV p q
theorem Norm.max {l : List Prefix} (hn : Norm l) : ∀ (n : Nat) {r : Prefix}, PM r → r.Bits - r.Len = (n : Int) → (∀ k, Inn r k → Cov l r.Bits k) → ∃ p ∈ l, PC p r := by
  intro n
  induction n with
  | zero =>
    intro r hr hb hc
    obtain ⟨p, hp, h1, h2, h3⟩ := hc _ (inn_lo r)
    refine ⟨p, hp, PC.of_sub h1 hr h2 ?_ h3⟩
    have := h1.2.2.1
    omega
  | succ n ih =>
    intro r hr hb hc
    have hl : r.Len < r.Bits := by omega
    obtain ⟨p, hp, h1⟩ := ih (lo_PM hr hl) (by unfold loP; dsimp only; omega) fun k hk => hc k ((half_inn hr hl k).2 (.inl hk))
    obtain ⟨q, hq, h2⟩ := ih (hi_PM hr hl) (by unfold hiP; dsimp only; omega) fun k hk => hc k ((half_inn hr hl k).2 (.inr hk))
    by_cases c1 : p.Len ≤ r.Len
    · exact ⟨p, hp, PC.of_sub h1.1 hr h1.2.2.1 c1 (h1.inn (inn_lo (loP r)))⟩
    · by_cases c2 : q.Len ≤ r.Len
      · rcases laminar h2.1 hr h2.2.2.1 with h | h | h | h
        · exact ⟨q, hq, h⟩
        · exact ⟨q, hq, PC.of_sub h2.1 hr h2.2.2.1 c2 (by
            have e : q.Len = r.Len := by have := h.2.2.2.1; omega
            have h5 := h.2.2.2.2
            refine (agree_in h2.1 _).1 ?_; unfold agree at h5 ⊢
            rw [e]; exact h5.symm)⟩
        · have := (h2.inn (inn_lo (hiP r))).2
          have := ((hi_PC hr hl).inn (inn_lo (hiP r))).1
          omega
        · have := (h2.inn (inn_lo (hiP r))).1
          have := ((hi_PC hr hl).inn (inn_lo (hiP r))).2
          omega
      · exfalso
        have e1 : p = loP r := by
          have hle := h1.2.2.2.1
          have e : p.Len = (loP r).Len := by have : (loP r).Len = r.Len + 1 := rfl; omega
          refine h1.antisymm ⟨h1.2.1, h1.1, h1.2.2.1.symm, by omega, ?_⟩
          have h5 := h1.2.2.2.2
          unfold agree at h5 ⊢
          rw [← e]; exact h5.symm
        have e2 : q = hiP r := by
          have hle := h2.2.2.2.1
          have e : q.Len = (hiP r).Len := by have : (hiP r).Len = r.Len + 1 := rfl; omega
          refine h2.antisymm ⟨h2.2.1, h2.1, h2.2.2.1.symm, by omega, ?_⟩
          have h5 := h2.2.2.2.2
          unfold agree at h5 ⊢
          rw [← e]; exact h5.symm
        subst e1 e2
        exact hn.hv _ hp _ hq (HV.of hr hl)
theorem Norm.same {l m : List Prefix} (hl : Norm l) (hm : Norm m) (h : ∀ b k, Cov l b k ↔ Cov m b k) (p : Prefix) (hp : p ∈ l) : p ∈ m := by
  have h1 := hl.pm p hp
  obtain ⟨q, hq, h2⟩ := hm.max (p.Bits - p.Len).toNat h1 (by have := h1.2.2.1; omega) fun k hk => (h _ _).1 ⟨p, hp, h1, rfl, hk⟩
  have h3 := hm.pm q hq
  obtain ⟨r, hr, h4⟩ := hl.max (q.Bits - q.Len).toNat h3 (by have := h3.2.2.1; omega) fun k hk => (h _ _).2 ⟨q, hq, h3, rfl, hk⟩
  have e := hl.cv r hr p hp (h4.trans h2)
  subst e
  rw [← h2.antisymm h4]; exact hq
theorem strict_same {α : Type} {lt : α → α → Prop} (irr : ∀ x, ¬ lt x x) (asym : ∀ x y, lt x y → ¬ lt y x) : ∀ {l m : List α}, l.Pairwise lt → m.Pairwise lt → (∀ x, x ∈ l ↔ x ∈ m) → l = m
  | [], [], _, _, _ => rfl
  | [], y :: m, _, _, h => absurd ((h y).2 (List.mem_cons_self ..)) (by simp)
  | x :: l, [], _, _, h => absurd ((h x).1 (List.mem_cons_self ..)) (by simp)
  | x :: l, y :: m, h1, h2, h => by
    rw [List.pairwise_cons] at h1 h2
    have e : x = y := by
      rcases List.mem_cons.1 ((h x).1 (List.mem_cons_self ..)) with e | hx
      · exact e
      · rcases List.mem_cons.1 ((h y).2 (List.mem_cons_self ..)) with e | hy
        · exact e.symm
        · exact absurd (h2.1 x hx) (asym _ _ (h1.1 y hy))
    subst e
    congr 1
    refine strict_same irr asym h1.2 h2.2 fun z => ⟨fun hz => ?_, fun hz => ?_⟩
    · rcases List.mem_cons.1 ((h z).1 (List.mem_cons_of_mem _ hz)) with rfl | h3
      · exact absurd (h1.1 _ hz) (irr _)
      · exact h3
    · rcases List.mem_cons.1 ((h z).2 (List.mem_cons_of_mem _ hz)) with rfl | h3
      · exact absurd (h2.1 _ hz) (irr _)
      · exact h3
theorem PL.irr (p : Prefix) : ¬ PL p p := fun h => by obtain ⟨-, -, h⟩ := h; omega
theorem PL.asym (p q : Prefix) (h : PL p q) : ¬ PL q p := fun g => by obtain ⟨-, -, h⟩ := h; obtain ⟨-, -, g⟩ := g; omega
theorem Norm.uniq {l m : List Prefix} (hl : Norm l) (hm : Norm m) (sl : l.Pairwise PL) (sm : m.Pairwise PL) (h : ∀ b k, Cov l b k ↔ Cov m b k) : l = m :=
  strict_same PL.irr PL.asym sl sm fun p => ⟨hl.same hm h p, hm.same hl (fun b k => (h b k).symm) p⟩
end Go.Proofs.Ytpknphecmahkaaa.Tr
namespace Go.Proofs.Ytpknphecmahkaaa.Tr
open Go
set_option maxRecDepth 100000
def Bef (p q : Prefix) : Prop := p.Bits < q.Bits ∨ p.Bits = q.Bits ∧ pa p + ps p ≤ pa q
theorem Bef.trans {p q r : Prefix} (h : Bef p q) (g : Bef q r) : Bef p r := by
  unfold Bef at *
  have := ps_pos q
  omega
theorem Bef.PL {p q : Prefix} (h : Bef p q) (hp : PM p) (hq : PM q) : Tr.PL p q := by
  refine ⟨hp, hq, ?_⟩
  unfold Bef at h
  have := ps_pos p
  unfold pa at h
  omega
theorem Bef.nPC {p q : Prefix} (h : Bef p q) : ¬ PC p q ∧ ¬ PC q p := by
  unfold Bef at h
  have h1 := ps_pos p
  have h2 := ps_pos q
  constructor
  · intro c
    have := c.sub; have := c.2.2.1
    omega
  · intro c
    have := c.sub; have := c.2.2.1
    omega
theorem Bef.inn {p q : Prefix} (h : Bef p q) {k : Nat} (hb : p.Bits = q.Bits) (h1 : Inn p k) (h2 : Inn q k) : False := by
  unfold Bef Inn at *; omega
theorem bef_pick {l : List Prefix} (h : l.Pairwise Bef) {p q : Prefix} (hp : p ∈ l) (hq : q ∈ l) : p = q ∨ Bef p q ∨ Bef q p := by
  induction l with
  | nil => cases hp
  | cons x l ih =>
    rw [List.pairwise_cons] at h
    rcases List.mem_cons.1 hp with e1 | hp1 <;> rcases List.mem_cons.1 hq with e2 | hq1
    · exact .inl (e1.trans e2.symm)
    · rw [e1]; exact .inr (.inl (h.1 _ hq1))
    · rw [e2]; exact .inr (.inr (h.1 _ hp1))
    · exact ih h.2 hp1 hq1
theorem bef_norm {l : List Prefix} (h : l.Pairwise Bef) (hp : ∀ p ∈ l, PM p) (hv : ∀ p ∈ l, ∀ q ∈ l, ¬ HV p q) : Norm l where
  pm := hp
  cv p h1 q h2 c := by
    rcases bef_pick h h1 h2 with e | e | e
    · exact e
    · exact absurd c e.nPC.1
    · exact absurd c e.nPC.2
  hv := hv
theorem HV.symm {a b : Prefix} (h : HV a b) : HV b a := ⟨h.1.symm, h.2.1.symm, by have := h.2.1; have := h.2.2.1; omega, fun e => h.2.2.2.1 e.symm, h.2.2.2.2.symm⟩
theorem HV.next {a b : Prefix} (ha : PM a) (hb : PM b) (h : HV a b) (g : Bef a b) : pa a + ps a = pa b ∧ PM (whP a) ∧ pa (whP a) = pa a ∧ (whP a).Bits = a.Bits ∧ (∀ k, Inn (whP a) k ↔ Inn a k ∨ Inn b k) ∧ pa (whP a) + ps (whP a) = pa b + ps b := by
  obtain ⟨p, h1, h2, h3, h4⟩ := h.cases ha hb
  obtain ⟨e1, e2, e3, e4⟩ := ps_half h1 h2
  have hh := half_inn h1 h2
  have hs := ps_pos (loP p)
  rcases h4 with ⟨rfl, rfl⟩ | ⟨rfl, rfl⟩
  · rw [h3]
    exact ⟨by omega, h1, e3.symm, rfl, hh, by omega⟩
  · exfalso
    unfold Bef at g
    have : (hiP p).Bits = (loP p).Bits := rfl
    omega
theorem Cov.app {l m : List Prefix} {b : Int} {k : Nat} : Cov (l ++ m) b k ↔ Cov l b k ∨ Cov m b k := by
  unfold Cov
  constructor
  · rintro ⟨p, hp, h⟩
    rcases List.mem_append.1 hp with hp | hp
    · exact .inl ⟨p, hp, h⟩
    · exact .inr ⟨p, hp, h⟩
  · rintro (⟨p, hp, h⟩ | ⟨p, hp, h⟩)
    · exact ⟨p, List.mem_append_left _ hp, h⟩
    · exact ⟨p, List.mem_append_right _ hp, h⟩
theorem Cov.one {p : Prefix} {b : Int} {k : Nat} : Cov [p] b k ↔ PM p ∧ p.Bits = b ∧ Inn p k := by
  unfold Cov; simp
theorem joined_get {m0 : List Prefix} {x0 : Prefix} (hl : (m0 ++ [x0]).length ≤ 1000000) (hp : ∀ p ∈ m0 ++ [x0], PM p) (hb : (m0 ++ [x0]).Pairwise Bef) (hv : ∀ p ∈ m0, ∀ q ∈ m0, ¬ HV p q) :
    Gets (split_joined (m0 ++ [x0])) (fun r => Norm r ∧ r.Pairwise Bef ∧ r.length ≤ (m0 ++ [x0]).length ∧ (∀ b k, Cov r b k ↔ Cov (m0 ++ [x0]) b k) ∧ ∀ t ∈ r, ∃ y ∈ m0 ++ [x0], y.Bits = t.Bits ∧ pa y = pa t) := by
  unfold split_joined
  refine Gets.b (P := fun r => Norm r ∧ r.Pairwise Bef ∧ r.length ≤ (m0 ++ [x0]).length ∧ (∀ b k, Cov r b k ↔ Cov (m0 ++ [x0]) b k) ∧ ∀ t ∈ r, ∃ y ∈ m0 ++ [x0], y.Bits = t.Bits ∧ pa y = pa t) (Gets.loop (fun s => s.1 = (s.2.length : Int) ∧ ∃ m x, s.2 = m ++ [x] ∧ (∀ p ∈ s.2, PM p) ∧ s.2.Pairwise Bef ∧ (∀ p ∈ m, ∀ q ∈ m, ¬ HV p q) ∧ s.2.length ≤ (m0 ++ [x0]).length ∧ (∀ b k, Cov s.2 b k ↔ Cov (m0 ++ [x0]) b k) ∧ ∀ t ∈ s.2, ∃ y ∈ m0 ++ [x0], y.Bits = t.Bits ∧ pa y = pa t) (fun s => s.2.length) ?_ ⟨rfl, m0, x0, rfl, hp, hb, hv, Nat.le_refl _, fun _ _ => Iff.rfl, fun t ht => ⟨t, ht, rfl, rfl⟩⟩ (by dsimp only; omega)) (fun v hv => .s hv)
  rintro ⟨n, l⟩ ⟨e1, m, x, e2, h1, h2, h3, h4, h5, h6⟩
  dsimp only at e1 e2 h1 h2 h4 h5 h6 ⊢
  subst e1
  unfold split_joined_l1
  -- nothing ahead of the last
  rcases List.eq_nil_or_concat m with rfl | ⟨m', a, rfl⟩
  · subst e2
    rw [cond_false (decide_eq_false (by simp))]
    refine Gets.r ⟨bef_norm h2 h1 fun p hp q hq h => ?_, h2, h4, h5, h6⟩
    rw [List.nil_append] at hp hq
    rw [List.mem_singleton.1 hp, List.mem_singleton.1 hq] at h
    exact h.2.2.2.1 rfl
  · rw [List.concat_eq_append] at *
    have hlen : l.length = m'.length + 2 := by rw [e2]; simp
    have ia : idx l ((l.length : Int) - 2) = some a := by
      rw [show (l.length : Int) - 2 = (m'.length : Int) by omega, idx_nat (by omega)]
      simp [e2]
    have ib : idx l ((l.length : Int) - 1) = some x := by
      rw [show (l.length : Int) - 1 = ((m'.length + 1 : Nat) : Int) by omega, idx_nat (by omega)]
      simp [e2]
    have ha : PM a := h1 a (by rw [e2]; simp)
    have hx : PM x := h1 x (by rw [e2]; simp)
    have hax : Bef a x := by
      rw [e2, List.append_assoc, List.pairwise_append] at h2
      have := h2.2.1
      simp at this; exact this
    have la := ha.len
    have lx := hx.len
    rw [cond_true (decide_eq_true (by omega)), subI_ok (by omega) (by omega), bind_s, ia, bind_s, subI_ok (by omega) (by omega), bind_s, ib, bind_s, gb_of2 (whole_eq (by omega)), bind_s, gb_of2 (whole_eq (by omega)), bind_s]
    by_cases hh : HV a x
    · have hc : ((((decide (a.Bits ≠ x.Bits)) || (decide (a.Len ≠ x.Len))) || (decide (a.Len = (0 : Int)))) || (decide (a = x))) = false := by
        obtain ⟨g1, g2, g3, g4, g5⟩ := hh
        simp only [Bool.or_eq_false_iff, decide_eq_false_iff_not]
        exact ⟨⟨⟨by simp [g1], by simp [g2]⟩, by omega⟩, g4⟩
      rw [hc, Bool.not_false, cond_t, cond_t, cond_false (by simpa using hh.2.2.2.2)]
      have hcut : cut l.length 0 ((l.length : Int) - 2) = some () := cut_ok (by omega) (by omega) (by omega)
      have htk : l.take (Int.toNat ((l.length : Int) - 2)) = m' := by
        rw [show Int.toNat ((l.length : Int) - 2) = m'.length by omega, e2]; simp
      rw [bind_s, hcut, bind_s, whole_eq (by omega), bind_s, room_ok (by omega) (by simp only [List.length_singleton]; omega) (by simp only [List.length_singleton]; omega), bind_s, bind_s, htk]
      obtain ⟨n1, n2, n3, n4, n5, n6⟩ := hh.next ha hx hax
      refine Gets.l ⟨rfl, m', whP a, rfl, ?_, ?_, fun p hp q hq => h3 p (by simp [hp]) q (by simp [hq]), by dsimp only; simp at *; omega, fun b k => ?_, fun t ht => ?_⟩ (by dsimp only; simp; omega)
      · intro p hp
        rcases List.mem_append.1 hp with hp | hp
        · exact h1 p (by rw [e2]; simp [hp])
        · rw [List.mem_singleton.1 hp]; exact n2
      · rw [e2, List.append_assoc, List.pairwise_append] at h2
        rw [List.pairwise_append]
        refine ⟨h2.1, List.pairwise_singleton .., fun p hp q hq => ?_⟩
        rw [List.mem_singleton.1 hq]
        have := h2.2.2 p hp a (by simp)
        unfold Bef at this ⊢
        rw [n3, n4]; exact this
      · rw [← h5, e2, List.append_assoc, Cov.app, Cov.app, Cov.one]
        have : Cov ([a] ++ [x]) b k ↔ PM (whP a) ∧ (whP a).Bits = b ∧ Inn (whP a) k := by
          rw [Cov.app, Cov.one, Cov.one, n5, n4]
          have hbx : a.Bits = x.Bits := hh.1
          rw [← hbx]
          constructor
          · rintro (⟨_, g2, g3⟩ | ⟨_, g2, g3⟩)
            · exact ⟨n2, g2, .inl g3⟩
            · exact ⟨n2, g2, .inr g3⟩
          · rintro ⟨_, g2, g3 | g3⟩
            · exact .inl ⟨ha, g2, g3⟩
            · exact .inr ⟨hx, g2, g3⟩
        rw [this]
      · rcases List.mem_append.1 ht with ht | ht
        · exact h6 t (by rw [e2]; simp [ht])
        · rw [List.mem_singleton.1 ht]
          obtain ⟨y, y1, y2, y3⟩ := h6 a (by rw [e2]; simp)
          exact ⟨y, y1, by rw [n4]; exact y2, by rw [n3]; exact y3⟩
    · have hc : (((((decide (a.Bits ≠ x.Bits)) || (decide (a.Len ≠ x.Len))) || (decide (a.Len = (0 : Int)))) || (decide (a = x))) || (decide ((bif !((((decide (a.Bits ≠ x.Bits)) || (decide (a.Len ≠ x.Len))) || (decide (a.Len = (0 : Int)))) || (decide (a = x))) then whP a else default) ≠ (bif !((((decide (a.Bits ≠ x.Bits)) || (decide (a.Len ≠ x.Len))) || (decide (a.Len = (0 : Int)))) || (decide (a = x))) then whP x else default)))) = true := by
        cases hq : ((((decide (a.Bits ≠ x.Bits)) || (decide (a.Len ≠ x.Len))) || (decide (a.Len = (0 : Int)))) || (decide (a = x))) with
        | true => rfl
        | false =>
          rw [Bool.false_or, Bool.not_false, cond_t, cond_t, decide_eq_true_eq]
          simp only [Bool.or_eq_false_iff, decide_eq_false_iff_not, ne_eq, Decidable.not_not] at hq
          exact fun e => hh ⟨hq.1.1.1, hq.1.1.2, by have := ha.2.1; omega, hq.2, e⟩
      rw [hc, cond_t]
      refine Gets.r ⟨bef_norm h2 h1 fun p hp q hq h => ?_, h2, h4, h5, h6⟩
      -- only neighbours may be halves of one
      have key : ∀ p ∈ l, ¬ HV p x := fun p hp h => by
        rw [e2] at hp
        rcases List.mem_append.1 hp with hp | hp
        · rcases List.mem_append.1 hp with hp | hp
          · have b1 : Bef p a := by
              rw [e2, List.append_assoc, List.pairwise_append] at h2
              exact h2.2.2 p hp a (by simp)
            have hpm := h1 p (by rw [e2]; simp [hp])
            have n1 := (h.next hpm hx (b1.trans hax)).1
            have b2 := h.1
            unfold Bef at b1 hax
            have := ps_pos a
            omega
          · rw [List.mem_singleton.1 hp] at h; exact hh h
        · rw [List.mem_singleton.1 hp] at h; exact h.2.2.2.1 rfl
      by_cases hqx : q = x
      · subst hqx; exact key p hp h
      · by_cases hpx : p = x
        · subst hpx; exact key q hq h.symm
        · rw [e2] at hp hq
          have hp := (List.mem_append.1 hp).resolve_right fun h => hpx (List.mem_singleton.1 h)
          have hq := (List.mem_append.1 hq).resolve_right fun h => hqx (List.mem_singleton.1 h)
          exact h3 p hp q hq h
theorem told_get {s : List Prefix} (hl : s.length ≤ 100000) (hp : ∀ p ∈ s, PM p) (hs : s.Pairwise fun a b => ¬ PL b a) :
    Gets (loopO (fun t => split_Together_l2 s t.1 t.2) ((0 : Int), [])) (fun r => Norm r ∧ r.Pairwise Bef ∧ r.length ≤ s.length ∧ ∀ b k, Cov r b k ↔ Cov s b k) := by
  refine Gets.loop (fun t => ∃ i : Nat, t.1 = (i : Int) ∧ i ≤ s.length ∧ Norm t.2 ∧ t.2.Pairwise Bef ∧ t.2.length ≤ i ∧ (∀ b k, Cov t.2 b k ↔ Cov (s.take i) b k) ∧ ∀ e ∈ t.2, ∃ y ∈ s.take i, y.Bits = e.Bits ∧ pa y = pa e) (fun t => s.length - t.1.toNat) ?_ ⟨0, rfl, Nat.zero_le _, ⟨by simp, by simp, by simp⟩, List.Pairwise.nil, Nat.le_refl _, fun b k => by rw [List.take_zero], by simp⟩ (by dsimp only; omega)
  rintro ⟨n, t⟩ ⟨i, e1, hi, hn, hb, htl, hc, hst⟩
  dsimp only at e1 hn hb htl hc hst ⊢
  subst e1
  unfold split_Together_l2
  rcases Nat.lt_or_ge i s.length with hlt | hge
  · have hx : PM s[i] := hp _ (List.getElem_mem hlt)
    have hle : ∀ y ∈ s.take i, ¬ PL s[i] y := by
      intro y hy
      obtain ⟨j, hj, rfl⟩ := List.getElem_of_mem hy
      rw [List.getElem_take]
      have hji : j < i := by simp at hj; omega
      exact List.pairwise_iff_getElem.1 hs j i (by omega) hlt hji
    rw [lt_t hlt, cond_t, idx_nat hlt, bind_s]
    have hcs : ∀ b k, Cov (s.take (i + 1)) b k ↔ Cov (s.take i) b k ∨ Cov [s[i]] b k := fun b k => by rw [List.take_succ_eq_append_getElem hlt, Cov.app]
    have hmem : ∀ y ∈ s.take i, y ∈ s.take (i + 1) := fun y hy => by rw [List.take_succ_eq_append_getElem hlt]; exact List.mem_append_left _ hy
    generalize hxx : s[i] = x at *
    -- putting x behind
    have put : (∀ e ∈ t, Bef e x) → Gets (((room 32 ((t.length + ([x] : List Prefix).length : Nat) : Int)).bind fun u_37 => (split_joined (t ++ ([x] : List Prefix))).bind fun x_38 => some x_38).bind fun told_29 => (addI (i : Int) (1 : Int)).bind fun x_40 => (some (.inl (x_40, told_29)) : Option ((Int × List Prefix) ⊕ List Prefix))) (fun z => (∃ s' : Int × List Prefix, z = .inl s' ∧ (∃ i : Nat, s'.1 = (i : Int) ∧ i ≤ s.length ∧ Norm s'.2 ∧ s'.2.Pairwise Bef ∧ s'.2.length ≤ i ∧ (∀ b k, Cov s'.2 b k ↔ Cov (s.take i) b k) ∧ ∀ e ∈ s'.2, ∃ y ∈ s.take i, y.Bits = e.Bits ∧ pa y = pa e) ∧ s.length - s'.1.toNat < s.length - (i : Int).toNat) ∨ ∃ e : List Prefix, z = .inr e ∧ (Norm e ∧ e.Pairwise Bef ∧ e.length ≤ s.length ∧ ∀ b k, Cov e b k ↔ Cov s b k)) := by
      intro hbef
      rw [room_ok (by omega) (by simp only [List.length_singleton]; omega) (by simp only [List.length_singleton]; omega), bind_s]
      refine Gets.b (P := fun r => Norm r ∧ r.Pairwise Bef ∧ r.length ≤ (t ++ [x]).length ∧ (∀ b k, Cov r b k ↔ Cov (t ++ [x]) b k) ∧ ∀ e ∈ r, ∃ y ∈ t ++ [x], y.Bits = e.Bits ∧ pa y = pa e) (Gets.b (joined_get (by simp; omega) (fun p hp => ?_) ?_ hn.hv) (fun v hv => .s hv)) (fun r hr => ?_)
      · rcases List.mem_append.1 hp with hp | hp
        · exact hn.pm p hp
        · rw [List.mem_singleton.1 hp]; exact hx
      · rw [List.pairwise_append]
        exact ⟨hb, List.pairwise_singleton .., fun e he q hq => by rw [List.mem_singleton.1 hq]; exact hbef e he⟩
      · obtain ⟨r1, r2, r3, r4, r5⟩ := hr
        rw [addI_1 (by omega), bind_s]
        refine Gets.l ⟨i + 1, rfl, hlt, r1, r2, by dsimp only; simp at r3; omega, fun b k => ?_, fun e he => ?_⟩ (by dsimp only; omega)
        · rw [r4, Cov.app, hc, hcs]
        · obtain ⟨y, y1, y2, y3⟩ := r5 e he
          rcases List.mem_append.1 y1 with y1 | y1
          · obtain ⟨z, z1, z2, z3⟩ := hst y y1
            exact ⟨z, hmem z z1, z2.trans y2, z3.trans y3⟩
          · rw [List.mem_singleton.1 y1] at y2 y3
            exact ⟨x, by rw [List.take_succ_eq_append_getElem hlt, hxx]; simp, y2, y3⟩
    rcases List.eq_nil_or_concat t with rfl | ⟨t', e, rfl⟩
    · rw [show decide ((([] : List Prefix).length : Int) > (0 : Int)) = false by decide, gb_false, bind_s, gb_false, bind_s, gb_false, bind_s, Bool.false_and, cond_f]
      exact put (by simp)
    · rw [List.concat_eq_append] at *
      have hie : idx (t' ++ [e]) (((t' ++ [e]).length : Int) - 1) = some e := by
        rw [show ((t' ++ [e]).length : Int) - 1 = (t'.length : Int) by simp, idx_nat (by simp)]; try simp
      rw [decide_eq_true (show ((t' ++ [e]).length : Int) > 0 by simp), gb_true, subI_ok (by omega) (by omega), bind_s, gb_true, hie, bind_s, gb_true, key_Covers_eq, bind_s, Bool.true_and]
      have he : e ∈ t' ++ [e] := by simp
      by_cases hpc : PC e x
      · rw [decide_eq_true hpc, cond_t, bind_s, addI_1 (by omega), bind_s]
        refine Gets.l ⟨i + 1, rfl, hlt, hn, hb, by dsimp only; omega, fun b k => ?_, fun e' he' => ?_⟩ (by dsimp only; omega)
        · rw [hcs, hc]
          constructor
          · exact .inl
          · rintro (h | h)
            · exact h
            · rw [Cov.one] at h
              rw [← hc]
              exact ⟨e, he, hpc.1, hpc.2.2.1.trans h.2.1, hpc.inn h.2.2⟩
        · obtain ⟨y, y1, y2⟩ := hst e' he'
          exact ⟨y, hmem y y1, y2⟩
      · rw [decide_eq_false hpc, cond_f]
        refine put ?_
        have hex : Bef e x := by
          obtain ⟨y, y1, y2, y3⟩ := hst e he
          have hyp : PM y := hp y (List.mem_of_mem_take y1)
          have hnl := hle y y1
          have hlex : ¬ (x.Bits < y.Bits ∨ x.Bits = y.Bits ∧ (kv x.Key < kv y.Key ∨ kv x.Key = kv y.Key ∧ x.Len < y.Len)) := fun h => hnl ⟨hx, hyp, h⟩
          have hpe := hn.pm e he
          by_cases hbits : e.Bits = x.Bits
          · rcases laminar hpe hx hbits with h | h | h | h
            · exact absurd h hpc
            · exfalso
              have h8 := h.sub
              have hyx : pa y ≤ pa x := by unfold pa; omega
              have hxe : pa x = pa e := by omega
              have hxy : pa x = pa y := by omega
              have hyl : y.Len ≤ x.Len := by unfold pa at hxy; omega
              -- y is covered
              obtain ⟨e', he', h9⟩ := hn.max (y.Bits - y.Len).toNat hyp (by have := hyp.2.2.1; omega) fun k hk => (hc _ _).2 ⟨y, y1, hyp, rfl, hk⟩
              have h10 : Inn e' (pa e) := by have := h9.inn (inn_lo y); rw [y3] at this; exact this
              have h11 : e' = e := by
                rcases bef_pick hb he' he with h | h | h
                · exact h
                · exact (h.inn (by rw [h9.2.2.1, y2]) h10 (inn_lo e)).elim
                · exact (h.inn (by rw [h9.2.2.1, y2]) (inn_lo e) h10).elim
              subst h11
              have h12 := h9.2.2.2.1
              have h13 := h.2.2.2.1
              refine hpc (PC.of_sub hpe hx hbits (by omega) ?_)
              rw [hxe]; exact inn_lo _
            · exact .inr ⟨hbits, h⟩
            · exfalso
              have := ps_pos x
              unfold pa at *
              omega
          · left; omega
        intro e' he'
        rcases List.mem_append.1 he' with h | h
        · have := (List.pairwise_append.1 hb).2.2 e' h e (by simp)
          exact this.trans hex
        · rw [List.mem_singleton.1 h]; exact hex
  · obtain rfl : i = s.length := by omega
    rw [lt_f, cond_f]
    rw [List.take_length] at hc
    exact Gets.r ⟨hn, hb, htl, hc⟩
theorem together_get (hsort : ∀ l : List Prefix, l.length ≤ 1000 → (∀ p ∈ l, PM p) → Gets (slices_SortFunc_api_Prefix l (⟨split_order⟩ : F2 Try.prog Prefix Prefix Int)) (fun m => m.Perm l ∧ m.Pairwise fun a b => ¬ PL b a)) {l : List Prefix} (hl : l.length ≤ 256) :
    Gets (split_Together l) (fun r => Norm r ∧ r.Pairwise PL ∧ r.length ≤ l.length ∧ ∀ b k, Cov r b k ↔ Cov l b k) := by
  unfold split_Together
  rw [cond_false (decide_eq_false (by omega))]
  have hflt : loopO (fun s => split_Together_l1 l s.1 s.2) ((0 : Int), []) = some (l.filter fun p => decide (PM p)) := by
    refine loopO_iter (fun i => ((i : Int), (l.take i).filter fun p => decide (PM p))) l.length (by omega) (fun i hi => ?_) ?_ rfl
    · unfold split_Together_l1
      dsimp only
      have hfl : ((l.take i).filter fun p => decide (PM p)).length ≤ 256 := Nat.le_trans (List.length_filter_le ..) (by rw [List.length_take]; omega)
      rw [lt_t hi, cond_t, idx_nat hi, bind_s, key_May_eq, bind_s, List.take_succ_eq_append_getElem hi, List.filter_append]
      by_cases h : PM l[i]
      · rw [decide_eq_true h, cond_t, room_ok (by omega) (by simp only [List.length_singleton]; omega) (by simp only [List.length_singleton]; omega), bind_s, bind_s, bind_s, addI_1 (by omega), bind_s]
        simp [h]
      · rw [decide_eq_false h, cond_f, bind_s, addI_1 (by omega), bind_s]
        simp [h]
    · unfold split_Together_l1
      dsimp only
      rw [lt_f, cond_f, List.take_length]
  rw [hflt, bind_s]
  have hfl : (l.filter fun p => decide (PM p)).length ≤ l.length := List.length_filter_le ..
  refine Gets.b (hsort _ (by omega) (fun p hp => by simpa using (List.mem_filter.1 hp).2)) (fun s hs => ?_)
  have hsl := hs.1.length_eq
  rw [lenI_ok hsl, bind_s]
  refine Gets.b (told_get (s := s) (by omega) (fun p hp => by simpa using (List.mem_filter.1 (hs.1.mem_iff.1 hp)).2) hs.2) (fun r hr => .s ?_)
  obtain ⟨r1, r2, r3, r4⟩ := hr
  refine ⟨r1, ?_, by omega, fun b k => ?_⟩
  · exact r2.imp_of_mem fun ha hb h => h.PL (r1.pm _ ha) (r1.pm _ hb)
  · rw [r4]
    unfold Cov
    constructor
    · rintro ⟨p, hp, h⟩; exact ⟨p, (List.mem_filter.1 (hs.1.mem_iff.1 hp)).1, h⟩
    · rintro ⟨p, hp, h⟩; exact ⟨p, hs.1.mem_iff.2 (List.mem_filter.2 ⟨hp, by simpa using h.1⟩), h⟩
end Go.Proofs.Ytpknphecmahkaaa.Tr
namespace Go.Proofs.Ytpknphecmahkaaa.Tr
open Go
section
variable {α : Type} [Inhabited α]
def nth (l : List α) (k : Int) : α := (l[k.toNat]?).getD default
theorem idx_nth {l : List α} {k : Int} (h0 : 0 ≤ k) (h : k < l.length) : idx l k = some (nth l k) := by
  have h2 : k.toNat < l.length := by omega
  unfold idx nth
  rw [if_pos h0, List.getElem?_eq_getElem h2]; rfl
theorem nth_get {l : List α} {k : Nat} (h : k < l.length) : nth l (k : Int) = l[k] := by
  unfold nth
  rw [Int.toNat_natCast, List.getElem?_eq_getElem h]; rfl
theorem nth_set {l : List α} {p k : Int} {v : α} (h0 : 0 ≤ p) (h : p < l.length) (hk : 0 ≤ k) : nth (l.set p.toNat v) k = if k = p then v else nth l k := by
  unfold nth
  rw [List.getElem?_set]
  by_cases e : k = p
  · subst e
    rw [if_pos rfl, if_pos rfl, if_pos (by omega)]; rfl
  · rw [if_neg e, if_neg (by omega)]
def sw (l : List α) (p q : Int) : List α := (l.set q.toNat (nth l p)).set p.toNat (nth l q)
theorem sw_len {l : List α} {p q : Int} : (sw l p q).length = l.length := by simp [sw]
theorem nth_sw {l : List α} {p q k : Int} (hp : 0 ≤ p) (hp2 : p < l.length) (hq : 0 ≤ q) (hq2 : q < l.length) (hk : 0 ≤ k) : nth (sw l p q) k = if k = p then nth l q else if k = q then nth l p else nth l k := by
  unfold sw
  rw [nth_set hp (by simp; omega) hk, nth_set hq hq2 hk]
theorem sw_perm {l : List α} {p q : Int} (hp : 0 ≤ p) (hp2 : p < l.length) (hq : 0 ≤ q) (hq2 : q < l.length) : (sw l p q).Perm l := by
  have h1 : nth l p = l[p.toNat]'(by omega) := by unfold nth; rw [List.getElem?_eq_getElem (by omega)]; rfl
  have h2 : nth l q = l[q.toNat]'(by omega) := by unfold nth; rw [List.getElem?_eq_getElem (by omega)]; rfl
  unfold sw
  rw [h1, h2]
  exact List.set_set_perm (by omega) (by omega)
structure Same (l l' : List α) (a b : Int) : Prop where
  len : l'.length = l.length
  perm : l'.Perm l
  out : ∀ k, 0 ≤ k → (k < a ∨ b ≤ k) → nth l' k = nth l k
  src : ∀ k, a ≤ k → k < b → ∃ j, a ≤ j ∧ j < b ∧ nth l' k = nth l j
theorem Same.rf {l : List α} {a b : Int} : Same l l a b := ⟨rfl, .refl _, fun _ _ _ => rfl, fun k h1 h2 => ⟨k, h1, h2, rfl⟩⟩
theorem Same.tr {l l' l'' : List α} {a b : Int} (h : Same l l' a b) (g : Same l' l'' a b) : Same l l'' a b :=
  ⟨g.len.trans h.len, g.perm.trans h.perm, fun k h1 h2 => (g.out k h1 h2).trans (h.out k h1 h2), fun k h1 h2 =>
    let ⟨j, h3, h4, e⟩ := g.src k h1 h2
    let ⟨i, h5, h6, e2⟩ := h.src j h3 h4
    ⟨i, h5, h6, e.trans e2⟩⟩
theorem Same.up {l l' : List α} {a b c d : Int} (h : Same l l' a b) (h0 : 0 ≤ c) (h1 : c ≤ a) (h2 : b ≤ d) : Same l l' c d :=
  ⟨h.len, h.perm, fun k h3 h4 => h.out k h3 (by omega), fun k h3 h4 => by
    by_cases e : a ≤ k ∧ k < b
    · obtain ⟨j, h5, h6, h7⟩ := h.src k e.1 e.2
      exact ⟨j, by omega, by omega, h7⟩
    · exact ⟨k, h3, h4, h.out k (by omega) (by omega)⟩⟩
theorem Same.sw {l : List α} {a b p q : Int} (h0 : 0 ≤ a) (hb : b ≤ l.length) (hp : a ≤ p) (hp2 : p < b) (hq : a ≤ q) (hq2 : q < b) : Same l (sw l p q) a b :=
  ⟨sw_len, sw_perm (by omega) (by omega) (by omega) (by omega), fun k h1 h2 => by
    rw [nth_sw (by omega) (by omega) (by omega) (by omega) h1, if_neg (by omega), if_neg (by omega)], fun k h1 h2 => by
    rw [nth_sw (by omega) (by omega) (by omega) (by omega) (by omega)]
    split
    · exact ⟨q, hq, hq2, rfl⟩
    · split
      · exact ⟨p, hp, hp2, rfl⟩
      · exact ⟨k, h1, h2, rfl⟩⟩
structure Weak (lt : α → α → Bool) : Prop where
  asym : ∀ x y, lt x y = true → lt y x = false
  tr : ∀ x y z, lt y x = false → lt z y = false → lt z x = false
omit [Inhabited α] in
theorem Weak.rf {lt : α → α → Bool} (h : Weak lt) (x : α) : lt x x = false := by
  cases e : lt x x with
  | false => rfl
  | true => rw [← e, h.asym x x e]
def Srt (lt : α → α → Bool) (l : List α) (a b : Int) : Prop := ∀ p q, a ≤ p → p < q → q < b → lt (nth l q) (nth l p) = false
theorem Srt.same {lt : α → α → Bool} {l l' : List α} {a b c d : Int} (h : Srt lt l a b) (g : Same l l' c d) (h0 : 0 ≤ a) (hd : b ≤ c ∨ d ≤ a) : Srt lt l' a b := fun p q h1 h2 h3 => by
  rw [g.out p (by omega) (by omega), g.out q (by omega) (by omega)]; exact h p q h1 h2 h3
variable {lt : α → α → Bool} (W : Weak lt)
include W
def But (lt : α → α → Bool) (l : List α) (a i j : Int) : Prop := ∀ p q, a ≤ p → p < q → q ≤ i → q ≠ j → lt (nth l q) (nth l p) = false
theorem But.done {l : List α} {a i j : Int} (h : But lt l a i j) (hj : a ≤ j) (hij : j ≤ i) (he : j ≤ a ∨ lt (nth l j) (nth l (j - 1)) = false) : Srt lt l a (i + 1) := fun p q h1 h2 h3 => by
  by_cases e : q = j
  · subst e
    rcases he with he | he
    · omega
    · by_cases e2 : p = q - 1
      · subst e2; exact he
      · exact W.tr _ _ _ (h p (q - 1) h1 (by omega) (by omega) (by omega)) he
  · exact h p q h1 h2 (by omega) e
theorem But.step {l : List α} {a i j : Int} (h : But lt l a i j) (h0 : 0 ≤ a) (hl : i < l.length) (hj : a < j) (hij : j ≤ i) (he : lt (nth l j) (nth l (j - 1)) = true) : But lt (sw l (j - 1) j) a i (j - 1) := fun p q h1 h2 h3 h4 => by
  have hs : ∀ k, 0 ≤ k → nth (sw l (j - 1) j) k = if k = j - 1 then nth l j else if k = j then nth l (j - 1) else nth l k := fun k hk => nth_sw (by omega) (by omega) (by omega) (by omega) hk
  rw [hs q (by omega), hs p (by omega), if_neg h4]
  by_cases e : q = j
  · rw [if_pos e]
    by_cases e2 : p = j - 1
    · rw [if_pos e2]; exact W.asym _ _ he
    · rw [if_neg e2, if_neg (by omega)]; exact h p (j - 1) h1 (by omega) (by omega) (by omega)
  · rw [if_neg e]
    by_cases e2 : p = j - 1
    · rw [if_pos e2]; exact h j q (by omega) (by omega) h3 e
    · rw [if_neg e2]
      by_cases e3 : p = j
      · rw [if_pos e3]; exact h (j - 1) q (by omega) (by omega) h3 e
      · rw [if_neg e3]; exact h p q h1 h2 h3 e
omit W in
theorem But.of {l : List α} {a i : Int} (h : Srt lt l a i) : But lt l a i i := fun p q h1 h2 h3 h4 => h p q h1 h2 (by omega)
def Hp (lt : α → α → Bool) (l : List α) (f lo n : Int) : Prop := ∀ k c, lo ≤ k → (c = 2 * k + 1 ∨ c = 2 * k + 2) → c < n → lt (nth l (f + k)) (nth l (f + c)) = false
def HpBut (lt : α → α → Bool) (l : List α) (f lo n r : Int) : Prop := (∀ k c, lo ≤ k → k ≠ r → (c = 2 * k + 1 ∨ c = 2 * k + 2) → c < n → lt (nth l (f + k)) (nth l (f + c)) = false) ∧ ∀ k c, lo ≤ k → (r = 2 * k + 1 ∨ r = 2 * k + 2) → (c = 2 * r + 1 ∨ c = 2 * r + 2) → c < n → lt (nth l (f + k)) (nth l (f + c)) = false
omit W in
theorem HpBut.done {l : List α} {f lo n r : Int} (h : HpBut lt l f lo n r) (g : ∀ c, (c = 2 * r + 1 ∨ c = 2 * r + 2) → c < n → lt (nth l (f + r)) (nth l (f + c)) = false) : Hp lt l f lo n := fun k c h1 h2 h3 => by
  by_cases e : k = r
  · subst e; exact g c h2 h3
  · exact h.1 k c h1 e h2 h3
theorem HpBut.step {l : List α} {f lo n r c : Int} (h : HpBut lt l f lo n r) (h0 : 0 ≤ f) (hlo : 0 ≤ lo) (hr : lo ≤ r) (hn : f + n ≤ l.length) (hc : c = 2 * r + 1 ∨ c = 2 * r + 2) (hcn : c < n) (ho : ∀ d, (d = 2 * r + 1 ∨ d = 2 * r + 2) → d < n → lt (nth l (f + c)) (nth l (f + d)) = false) (he : lt (nth l (f + r)) (nth l (f + c)) = true) : HpBut lt (sw l (f + c) (f + r)) f lo n c := by
  have hs : ∀ k, 0 ≤ k → nth (sw l (f + c) (f + r)) (f + k) = if k = c then nth l (f + r) else if k = r then nth l (f + c) else nth l (f + k) := fun k hk => by
    rw [nth_sw (by omega) (by omega) (by omega) (by omega) (by omega)]
    by_cases e : k = c
    · rw [if_pos e, if_pos (by omega)]
    · rw [if_neg e, if_neg (by omega)]
      by_cases e : k = r
      · rw [if_pos e, if_pos (by omega)]
      · rw [if_neg e, if_neg (by omega)]
  refine ⟨fun k d h1 h2 h3 h4 => ?_, fun k d h1 h2 h3 h4 => ?_⟩
  · rw [hs k (by omega), hs d (by omega), if_neg h2]
    by_cases e : k = r
    · rw [if_pos e]
      subst e
      by_cases e2 : d = c
      · rw [if_pos e2]; exact W.asym _ _ he
      · rw [if_neg e2, if_neg (by omega)]; exact ho d h3 h4
    · rw [if_neg e, if_neg (by omega)]
      by_cases e2 : d = r
      · rw [if_pos e2]; subst e2; exact h.2 k c h1 h3 hc hcn
      · rw [if_neg e2]; exact h.1 k d h1 e h3 h4
  · rw [hs k (by omega), hs d (by omega), if_neg (by omega), if_pos (by omega), if_neg (by omega), if_neg (by omega)]
    exact h.1 c d (by omega) (by omega) h3 h4
theorem Hp.top {l : List α} {f n : Int} (h : Hp lt l f 0 n) : ∀ (m : Nat) (k : Int), k.toNat ≤ m → 0 ≤ k → k < n → lt (nth l f) (nth l (f + k)) = false := by
  intro m
  induction m with
  | zero => intro k h1 h2 h3
            have : k = 0 := by omega
            subst this; rw [Int.add_zero]; exact W.rf _
  | succ m ih =>
    intro k h1 h2 h3
    by_cases e : k = 0
    · subst e; rw [Int.add_zero]; exact W.rf _
    · exact W.tr _ _ _ (h ((k - 1) / 2) k (by omega) (by omega) h3) (ih ((k - 1) / 2) (by omega) (by omega) (by omega))
end
end Go.Proofs.Ytpknphecmahkaaa.Tr
namespace Go.Proofs.Ytpknphecmahkaaa.Tr
open Go
set_option maxHeartbeats 1000000
def cmpP : F2 Try.prog Prefix Prefix Int := ⟨split_order⟩
def ltL (x y : Prefix) : Bool := decide (x.Bits < y.Bits ∨ x.Bits = y.Bits ∧ (kv x.Key < kv y.Key ∨ kv x.Key = kv y.Key ∧ x.Len < y.Len))
def lexI (x y : Prefix) : Int := if ltL x y then -1 else if ltL y x then 1 else 0
theorem weakP : Weak ltL := ⟨fun x y h => by
  unfold ltL at *
  have := of_decide_eq_true h
  exact decide_eq_false (by omega), fun x y z h1 h2 => by
  unfold ltL at *
  have h1 := of_decide_eq_false h1
  have h2 := of_decide_eq_false h2
  exact decide_eq_false (by omega)⟩
def AllPM (l : List Prefix) : Prop := ∀ x ∈ l, PM x
theorem AllPM.nth {l : List Prefix} (h : AllPM l) {p : Int} (h0 : 0 ≤ p) (h1 : p < l.length) : PM (nth l p) := by
  have h2 : p.toNat < l.length := by omega
  unfold Tr.nth
  rw [List.getElem?_eq_getElem h2]
  exact h _ (List.getElem_mem h2)
theorem AllPM.perm {l m : List Prefix} (h : AllPM l) (p : m.Perm l) : AllPM m := fun x hx => h x (p.mem_iff.1 hx)
theorem AllPM.same {l m : List Prefix} {a b : Int} (h : AllPM l) (p : Same l m a b) : AllPM m := h.perm p.perm
theorem AllPM.sw {l : List Prefix} {p q : Int} (h : AllPM l) (hp : 0 ≤ p) (hp2 : p < l.length) (hq : 0 ≤ q) (hq2 : q < l.length) : AllPM (sw l p q) := h.perm (sw_perm hp hp2 hq hq2)
theorem order_of {x y : Prefix} (hx : PM x) (hy : PM y) : cmpP.f x y = some (lexI x y) := by
  show split_order x y = _
  unfold split_order lexI
  have h1 : decide (PL x y) = ltL x y := by unfold ltL; rw [decide_eq_decide]; exact ⟨fun h => h.2.2, fun h => ⟨hx, hy, h⟩⟩
  have h2 : decide (PL y x) = ltL y x := by unfold ltL; rw [decide_eq_decide]; exact ⟨fun h => h.2.2, fun h => ⟨hy, hx, h⟩⟩
  rw [key_Less_eq, bind_s, key_Less_eq, h1, h2]
  cases ltL x y
  · rw [cond_f, bind_s]
    cases ltL y x
    · rw [cond_f]; rfl
    · rw [cond_t]; rfl
  · rw [cond_t]; rfl
theorem lessP {l : List Prefix} {p q : Int} (h : AllPM l) (hp : 0 ≤ p) (hp2 : p < l.length) (hq : 0 ≤ q) (hq2 : q < l.length) : cmpP.f (nth l p) (nth l q) = some (lexI (nth l p) (nth l q)) := order_of (h.nth hp hp2) (h.nth hq hq2)
theorem lex_lt (x y : Prefix) : decide (lexI x y < 0) = ltL x y := by
  unfold lexI
  cases ltL x y
  · rw [if_neg (by decide)]
    cases ltL y x
    · rw [if_neg (by decide)]; rfl
    · rw [if_pos rfl]; rfl
  · rw [if_pos rfl]; rfl
theorem dt_ {p : Prop} [Decidable p] (h : p) : decide p = true := decide_eq_true h
theorem df_ {p : Prop} [Decidable p] (h : ¬ p) : decide p = false := decide_eq_false h
theorem sw_fold {α : Type} [Inhabited α] {l : List α} {p q : Int} : (l.set (Int.toNat q) (nth l p)).set (Int.toNat p) (nth l q) = sw l p q := Eq.trans rfl rfl
theorem ins_get {l : List Prefix} {a b : Int} (hA : AllPM l) (h0 : 0 ≤ a) (hab : a ≤ b) (hb : b ≤ l.length) (hl : (l.length : Int) ≤ 281474976710656) : Gets (slices_insertionSortCmpFunc_api_Prefix l a b cmpP) (fun l' => Same l l' a b ∧ Srt ltL l' a b) := by
  unfold slices_insertionSortCmpFunc_api_Prefix; (simp (disch := first | omega | assumption | (simp only [List.length_set, sw_len]; omega)) only [idx_nth, addI_ok, subI_ok, mulI_ok, quoI_ok, bind_s, gb_true, gb_false, cond_t, cond_f, dt_, df_, Bool.true_and, Bool.false_and, Bool.not_true, Bool.not_false, el2, el3, el4, elS_inl, elS_inr, lessP, lex_lt, sw_fold, lenI_ok])
  refine Gets.b (Gets.loop (I := fun s => a < s.1 ∧ (s.1 ≤ b ∨ s.1 = a + 1) ∧ Same l s.2 a b ∧ Srt ltL s.2 a s.1) (μ := fun s => (b - s.1).toNat) (fun s hs => ?_) ⟨by dsimp only; omega, .inr rfl, .rf, fun p q h1 h2 h3 => by dsimp only at h3; omega⟩ (by dsimp only; omega)) (fun v hv => .s hv)
  obtain ⟨i, d⟩ := s
  obtain ⟨h1, h2, h3, h4⟩ := hs
  dsimp only at *
  have hL := h3.len
  have hAd := AllPM.same (by first | assumption | exact AllPM.sw (by assumption) (by omega) (by omega) (by omega) (by omega)) h3
  unfold slices_insertionSortCmpFunc_api_Prefix_l1
  refine Gets.c (fun e => ?_) (fun e => ?_)
  · have e := of_decide_eq_true e
    refine Gets.b (Gets.loop (I := fun s => a ≤ s.1 ∧ s.1 ≤ i ∧ Same l s.2 a b ∧ But ltL s.2 a i s.1) (μ := fun s => s.1.toNat) (R := fun d' => Same l d' a b ∧ Srt ltL d' a (i + 1)) (fun s hs => ?_) ⟨by dsimp only; omega, by dsimp only; omega, h3, But.of h4⟩ (by dsimp only; omega)) (fun d' hd' => ?_)
    · obtain ⟨j, d⟩ := s
      obtain ⟨h5, h6, h7, h8⟩ := hs
      dsimp only at *
      have hL := h7.len
      have hAd := AllPM.same (by first | assumption | exact AllPM.sw (by assumption) (by omega) (by omega) (by omega) (by omega)) h7
      unfold slices_insertionSortCmpFunc_api_Prefix_l2
      by_cases hj : a < j
      · (simp (disch := first | omega | assumption | (simp only [List.length_set, sw_len]; omega)) only [idx_nth, addI_ok, subI_ok, mulI_ok, quoI_ok, bind_s, gb_true, gb_false, cond_t, cond_f, dt_, df_, Bool.true_and, Bool.false_and, Bool.not_true, Bool.not_false, el2, el3, el4, elS_inl, elS_inr, lessP, lex_lt, sw_fold, lenI_ok])
        refine Gets.c (fun e => ?_) (fun e => ?_)
        · exact .l ⟨by dsimp only; omega, by dsimp only; omega, h7.tr (.sw h0 (by omega) (by omega) (by omega) (by omega) (by omega)), But.step weakP h8 h0 (by omega) hj h6 e⟩ (by dsimp only; omega)
        · exact .r ⟨h7, But.done weakP h8 h5 h6 (.inr e)⟩
      · (simp (disch := first | omega | assumption | (simp only [List.length_set, sw_len]; omega)) only [idx_nth, addI_ok, subI_ok, mulI_ok, quoI_ok, bind_s, gb_true, gb_false, cond_t, cond_f, dt_, df_, Bool.true_and, Bool.false_and, Bool.not_true, Bool.not_false, el2, el3, el4, elS_inl, elS_inr, lessP, lex_lt, sw_fold, lenI_ok])
        exact .r ⟨h7, But.done weakP h8 h5 h6 (.inl (by omega))⟩
    · (simp (disch := first | omega | assumption | (simp only [List.length_set, sw_len]; omega)) only [idx_nth, addI_ok, subI_ok, mulI_ok, quoI_ok, bind_s, gb_true, gb_false, cond_t, cond_f, dt_, df_, Bool.true_and, Bool.false_and, Bool.not_true, Bool.not_false, el2, el3, el4, elS_inl, elS_inr, lessP, lex_lt, sw_fold, lenI_ok])
      exact .l ⟨by dsimp only; omega, by dsimp only; omega, hd'.1, hd'.2⟩ (by dsimp only; omega)
  · have e := of_decide_eq_false e
    exact .r ⟨h3, fun p q g1 g2 g3 => h4 p q g1 g2 (by omega)⟩
theorem sift_get {l : List Prefix} {lo hi f : Int} (hA : AllPM l) (h0 : 0 ≤ lo) (hf : 0 ≤ f) (hlo : lo ≤ l.length) (hfn : f + hi ≤ l.length) (hl : (l.length : Int) ≤ 281474976710656) (hB : HpBut ltL l f lo hi lo) : Gets (slices_siftDownCmpFunc_api_Prefix l lo hi f cmpP) (fun l' => Same l l' f (f + hi) ∧ Hp ltL l' f lo hi) := by
  unfold slices_siftDownCmpFunc_api_Prefix
  refine Gets.b (Gets.loop (I := fun s => lo ≤ s.1 ∧ s.1 ≤ (l.length : Int) ∧ Same l s.2 f (f + hi) ∧ HpBut ltL s.2 f lo hi s.1) (μ := fun (s : Int × List Prefix) => ((l.length : Int) - s.1).toNat) (R := Sum.elim (fun l' => Same l l' f (f + hi) ∧ Hp ltL l' f lo hi) (fun l' => Same l l' f (f + hi) ∧ Hp ltL l' f lo hi)) (fun s hs => ?_) ⟨by dsimp only; omega, by dsimp only; omega, .rf, hB⟩ (by dsimp only; omega)) (fun v hv => ?_)
  · obtain ⟨r, d⟩ := s
    obtain ⟨h1, h2, h3, h4⟩ := hs
    dsimp only at *
    have hL := h3.len
    have hAd := AllPM.same (by first | assumption | exact AllPM.sw (by assumption) (by omega) (by omega) (by omega) (by omega)) h3
    unfold slices_siftDownCmpFunc_api_Prefix_l1
    by_cases c : 2 * r + 1 ≥ hi
    · (simp (disch := first | omega | assumption | (simp only [List.length_set, sw_len]; omega)) only [idx_nth, addI_ok, subI_ok, mulI_ok, quoI_ok, bind_s, gb_true, gb_false, cond_t, cond_f, dt_, df_, Bool.true_and, Bool.false_and, Bool.not_true, Bool.not_false, el2, el3, el4, elS_inl, elS_inr, lessP, lex_lt, sw_fold, lenI_ok])
      exact .r (show _ ∧ _ from ⟨h3, h4.done (fun c hc hcn => by omega)⟩)
    · simp (disch := omega) only [addI_ok, mulI_ok, bind_s, df_, cond_f]
      refine Gets.b (P := fun c => (c = 2 * r + 1 ∨ c = 2 * r + 2) ∧ c < hi ∧ ∀ d', (d' = 2 * r + 1 ∨ d' = 2 * r + 2) → d' < hi → ltL (nth d (f + c)) (nth d (f + d')) = false) ?_ (fun c hc => ?_)
      · by_cases c2 : 2 * r + 2 < hi
        · (simp (disch := first | omega | assumption | (simp only [List.length_set, sw_len]; omega)) only [idx_nth, addI_ok, subI_ok, mulI_ok, quoI_ok, bind_s, gb_true, gb_false, cond_t, cond_f, dt_, df_, Bool.true_and, Bool.false_and, Bool.not_true, Bool.not_false, el2, el3, el4, elS_inl, elS_inr, lessP, lex_lt, sw_fold, lenI_ok])
          have e1 : f + (2 * r + 1) + 1 = f + (2 * r + 2) := by omega
          have e2 : 2 * r + 1 + 1 = 2 * r + 2 := by omega
          rw [e1, e2]
          refine Gets.c (fun e => ?_) (fun e => ?_)
          · refine .s ⟨.inr rfl, c2, fun d' g1 g2 => ?_⟩
            rcases g1 with rfl | rfl
            · exact weakP.asym _ _ e
            · exact weakP.rf _
          · refine .s ⟨.inl rfl, by omega, fun d' g1 g2 => ?_⟩
            rcases g1 with rfl | rfl
            · exact weakP.rf _
            · exact e
        · (simp (disch := first | omega | assumption | (simp only [List.length_set, sw_len]; omega)) only [idx_nth, addI_ok, subI_ok, mulI_ok, quoI_ok, bind_s, gb_true, gb_false, cond_t, cond_f, dt_, df_, Bool.true_and, Bool.false_and, Bool.not_true, Bool.not_false, el2, el3, el4, elS_inl, elS_inr, lessP, lex_lt, sw_fold, lenI_ok])
          refine .s ⟨.inl rfl, by omega, fun d' g1 g2 => ?_⟩
          have : d' = 2 * r + 1 := by omega
          subst this
          exact weakP.rf _
      · obtain ⟨c1, c2, c3⟩ := hc
        (simp (disch := first | omega | assumption | (simp only [List.length_set, sw_len]; omega)) only [idx_nth, addI_ok, subI_ok, mulI_ok, quoI_ok, bind_s, gb_true, gb_false, cond_t, cond_f, dt_, df_, Bool.true_and, Bool.false_and, Bool.not_true, Bool.not_false, el2, el3, el4, elS_inl, elS_inr, lessP, lex_lt, sw_fold, lenI_ok])
        refine Gets.c (fun e => ?_) (fun e => ?_)
        · refine .r (show _ ∧ _ from ⟨h3, h4.done (fun c' hc' hcn => ?_)⟩)
          have e : ltL (nth d (f + r)) (nth d (f + c)) = false := by simpa using e
          exact weakP.tr _ _ _ (c3 c' hc' hcn) e
        · have e : ltL (nth d (f + r)) (nth d (f + c)) = true := by simpa using e
          exact .l ⟨by dsimp only; omega, by dsimp only; omega, h3.tr (.sw hf (by omega) (by omega) (by omega) (by omega) (by omega)), h4.step weakP hf h0 h1 (by omega) c1 c2 c3 e⟩ (by dsimp only; omega)
  · rcases v with v | v
    · exact .elSl (.s hv)
    · exact .elSr (.s hv)
theorem heap_get {l : List Prefix} {a b : Int} (hA : AllPM l) (h0 : 0 ≤ a) (hab : a < b) (hb : b ≤ l.length) (hl : (l.length : Int) ≤ 281474976710656) : Gets (slices_heapSortCmpFunc_api_Prefix l a b cmpP) (fun l' => Same l l' a b ∧ Srt ltL l' a b) := by
  unfold slices_heapSortCmpFunc_api_Prefix; (simp (disch := first | omega | assumption | (simp only [List.length_set, sw_len]; omega)) only [idx_nth, addI_ok, subI_ok, mulI_ok, quoI_ok, bind_s, gb_true, gb_false, cond_t, cond_f, dt_, df_, Bool.true_and, Bool.false_and, Bool.not_true, Bool.not_false, el2, el3, el4, elS_inl, elS_inr, lessP, lex_lt, sw_fold, lenI_ok])
  refine Gets.b (Gets.loop (I := fun s => -1 ≤ s.1 ∧ s.1 ≤ (b - a - 1) / 2 ∧ Same l s.2 a b ∧ Hp ltL s.2 a (s.1 + 1) (b - a)) (μ := fun s => (s.1 + 1).toNat) (R := fun d => Same l d a b ∧ Hp ltL d a 0 (b - a)) (fun s hs => ?_) ⟨by dsimp only; omega, by dsimp only; omega, .rf, fun k c h1 h2 h3 => by dsimp only at h1; omega⟩ (by dsimp only; omega)) (fun d hd => ?_)
  · obtain ⟨i, d⟩ := s
    obtain ⟨h1, h2, h3, h4⟩ := hs
    dsimp only at *
    have hL := h3.len
    have hAd := AllPM.same (by first | assumption | exact AllPM.sw (by assumption) (by omega) (by omega) (by omega) (by omega)) h3
    unfold slices_heapSortCmpFunc_api_Prefix_l1
    by_cases c : i ≥ 0
    · (simp (disch := first | omega | assumption | (simp only [List.length_set, sw_len]; omega)) only [idx_nth, addI_ok, subI_ok, mulI_ok, quoI_ok, bind_s, gb_true, gb_false, cond_t, cond_f, dt_, df_, Bool.true_and, Bool.false_and, Bool.not_true, Bool.not_false, el2, el3, el4, elS_inl, elS_inr, lessP, lex_lt, sw_fold, lenI_ok])
      refine Gets.b (sift_get (by first | assumption | exact AllPM.sw (by assumption) (by omega) (by omega) (by omega) (by omega)) c h0 (by omega) (by omega) (by omega) ⟨fun k c h5 h6 h7 h8 => h4 k c (by omega) h7 h8, fun k c h5 h6 h7 h8 => by omega⟩) (fun d' hd' => ?_)
      obtain ⟨g1, g2⟩ := hd'
      have hL := g1.len
      have hAd := AllPM.same (by first | assumption | exact AllPM.sw (by assumption) (by omega) (by omega) (by omega) (by omega)) g1
      (simp (disch := first | omega | assumption | (simp only [List.length_set, sw_len]; omega)) only [idx_nth, addI_ok, subI_ok, mulI_ok, quoI_ok, bind_s, gb_true, gb_false, cond_t, cond_f, dt_, df_, Bool.true_and, Bool.false_and, Bool.not_true, Bool.not_false, el2, el3, el4, elS_inl, elS_inr, lessP, lex_lt, sw_fold, lenI_ok])
      exact .l ⟨by dsimp only; omega, by dsimp only; omega, h3.tr (g1.up h0 (by omega) (by omega)), by dsimp only; rw [show i - 1 + 1 = i by omega]; exact g2⟩ (by dsimp only; omega)
    · (simp (disch := first | omega | assumption | (simp only [List.length_set, sw_len]; omega)) only [idx_nth, addI_ok, subI_ok, mulI_ok, quoI_ok, bind_s, gb_true, gb_false, cond_t, cond_f, dt_, df_, Bool.true_and, Bool.false_and, Bool.not_true, Bool.not_false, el2, el3, el4, elS_inl, elS_inr, lessP, lex_lt, sw_fold, lenI_ok])
      exact .r ⟨h3, fun k c g1 g2 g3 => h4 k c (by omega) g2 g3⟩
  · obtain ⟨hS, hH⟩ := hd
    refine Gets.b (Gets.loop (I := fun s => -1 ≤ s.1 ∧ s.1 ≤ b - a - 1 ∧ Same l s.2 a b ∧ Hp ltL s.2 a 0 (s.1 + 1) ∧ ∀ p q, a ≤ p → p < q → q < b → a + s.1 < q → ltL (nth s.2 q) (nth s.2 p) = false) (μ := fun s => (s.1 + 1).toNat) (R := fun d => Same l d a b ∧ Srt ltL d a b) (fun s hs => ?_) ⟨by dsimp only; omega, by dsimp only; omega, hS, by dsimp only; rw [show b - a - 1 + 1 = b - a by omega]; exact hH, fun p q g1 g2 g3 g4 => by dsimp only at g4; omega⟩ (by dsimp only; omega)) (fun d hd => .s hd)
    obtain ⟨i, d⟩ := s
    obtain ⟨h1, h2, h3, h4, h5⟩ := hs
    dsimp only at *
    have hL := h3.len
    have hAd := AllPM.same (by first | assumption | exact AllPM.sw (by assumption) (by omega) (by omega) (by omega) (by omega)) h3
    unfold slices_heapSortCmpFunc_api_Prefix_l2
    by_cases c : i ≥ 0
    · (simp (disch := first | omega | assumption | (simp only [List.length_set, sw_len]; omega)) only [idx_nth, addI_ok, subI_ok, mulI_ok, quoI_ok, bind_s, gb_true, gb_false, cond_t, cond_f, dt_, df_, Bool.true_and, Bool.false_and, Bool.not_true, Bool.not_false, el2, el3, el4, elS_inl, elS_inr, lessP, lex_lt, sw_fold, lenI_ok])
      have hs : ∀ k, 0 ≤ k → nth (sw d (a + i) a) k = if k = a + i then nth d a else if k = a then nth d (a + i) else nth d k := fun k hk => nth_sw (by omega) (by omega) (by omega) (by omega) hk
      have hW : Same d (sw d (a + i) a) a (a + (i + 1)) := .sw h0 (by omega) (by omega) (by omega) (by omega) (by omega)
      refine Gets.b (sift_get (by first | assumption | exact AllPM.sw (by assumption) (by omega) (by omega) (by omega) (by omega)) (by omega) h0 (by omega) (by rw [sw_len]; omega) (by rw [sw_len]; omega) ⟨fun k c g1 g2 g3 g4 => ?_, fun k c g1 g2 g3 g4 => by omega⟩) (fun d' hd' => ?_)
      · rw [hs _ (by omega), hs _ (by omega), if_neg (by omega), if_neg (by omega), if_neg (by omega), if_neg (by omega)]
        exact h4 k c g1 g3 (by omega)
      · obtain ⟨g1, g2⟩ := hd'
        have hL2 := g1.len
        have hAd := AllPM.same (by first | assumption | exact AllPM.sw (by assumption) (by omega) (by omega) (by omega) (by omega)) g1
        rw [sw_len] at hL2
        (simp (disch := first | omega | assumption | (simp only [List.length_set, sw_len]; omega)) only [idx_nth, addI_ok, subI_ok, mulI_ok, quoI_ok, bind_s, gb_true, gb_false, cond_t, cond_f, dt_, df_, Bool.true_and, Bool.false_and, Bool.not_true, Bool.not_false, el2, el3, el4, elS_inl, elS_inr, lessP, lex_lt, sw_fold, lenI_ok])
        have hD : Same d d' a (a + (i + 1)) := hW.tr (g1.up h0 (by omega) (by omega))
        refine .l ⟨by dsimp only; omega, by dsimp only; omega, h3.tr (hD.up h0 (by omega) (by omega)), by dsimp only; rw [show i - 1 + 1 = i by omega]; exact g2, fun p q k1 k2 k3 k4 => ?_⟩ (by dsimp only; omega)
        dsimp only at *
        by_cases e : q = a + i
        · have e2 : nth d' q = nth d a := by rw [g1.out q (by omega) (by omega), hs q (by omega), if_pos e]
          obtain ⟨j, j1, j2, j3⟩ := hD.src p k1 (by omega)
          rw [e2, j3]
          have := h4.top weakP (j - a).toNat (j - a) (Nat.le_refl _) (by omega) (by omega)
          rw [show a + (j - a) = j by omega] at this
          exact this
        · rw [hD.out q (by omega) (by omega)]
          by_cases e3 : p < a + (i + 1)
          · obtain ⟨j, j1, j2, j3⟩ := hD.src p k1 e3
            rw [j3]; exact h5 j q j1 (by omega) k3 (by omega)
          · rw [hD.out p (by omega) (by omega)]; exact h5 p q k1 k2 k3 (by omega)
    · (simp (disch := first | omega | assumption | (simp only [List.length_set, sw_len]; omega)) only [idx_nth, addI_ok, subI_ok, mulI_ok, quoI_ok, bind_s, gb_true, gb_false, cond_t, cond_f, dt_, df_, Bool.true_and, Bool.false_and, Bool.not_true, Bool.not_false, el2, el3, el4, elS_inl, elS_inr, lessP, lex_lt, sw_fold, lenI_ok])
      exact .r ⟨h3, fun p q g1 g2 g3 => h5 p q g1 g2 g3 (by omega)⟩
theorem rev_get {l : List Prefix} {a b : Int} (hA : AllPM l) (h0 : 0 ≤ a) (hab : a ≤ b) (hb : b ≤ l.length) (hl : (l.length : Int) ≤ 281474976710656) : Gets (slices_reverseRangeCmpFunc_api_Prefix l a b cmpP) (fun l' => Same l l' a b) := by
  unfold slices_reverseRangeCmpFunc_api_Prefix; (simp (disch := first | omega | assumption | (simp only [List.length_set, sw_len]; omega)) only [idx_nth, addI_ok, subI_ok, mulI_ok, quoI_ok, bind_s, gb_true, gb_false, cond_t, cond_f, dt_, df_, Bool.true_and, Bool.false_and, Bool.not_true, Bool.not_false, el2, el3, el4, elS_inl, elS_inr, lessP, lex_lt, sw_fold, lenI_ok])
  refine Gets.b (Gets.loop (I := fun s => a ≤ s.1 ∧ s.2.1 < b ∧ s.1 ≤ s.2.1 + 2 ∧ Same l s.2.2 a b) (μ := fun s => (b - s.1).toNat) (R := fun d => Same l d a b) (fun s hs => ?_) ⟨by dsimp only; omega, by dsimp only; omega, by dsimp only; omega, .rf⟩ (by dsimp only; omega)) (fun d hd => .s hd)
  obtain ⟨i, j, d⟩ := s
  obtain ⟨h1, h2, h3, h4⟩ := hs
  dsimp only at *
  have hL := h4.len
  have hAd := AllPM.same (by first | assumption | exact AllPM.sw (by assumption) (by omega) (by omega) (by omega) (by omega)) h4
  unfold slices_reverseRangeCmpFunc_api_Prefix_l1
  by_cases c : i < j
  · (simp (disch := first | omega | assumption | (simp only [List.length_set, sw_len]; omega)) only [idx_nth, addI_ok, subI_ok, mulI_ok, quoI_ok, bind_s, gb_true, gb_false, cond_t, cond_f, dt_, df_, Bool.true_and, Bool.false_and, Bool.not_true, Bool.not_false, el2, el3, el4, elS_inl, elS_inr, lessP, lex_lt, sw_fold, lenI_ok])
    exact .l ⟨by dsimp only; omega, by dsimp only; omega, by dsimp only; omega, h4.tr (.sw h0 (by omega) (by omega) (by omega) (by omega) (by omega))⟩ (by dsimp only; omega)
  · (simp (disch := first | omega | assumption | (simp only [List.length_set, sw_len]; omega)) only [idx_nth, addI_ok, subI_ok, mulI_ok, quoI_ok, bind_s, gb_true, gb_false, cond_t, cond_f, dt_, df_, Bool.true_and, Bool.false_and, Bool.not_true, Bool.not_false, el2, el3, el4, elS_inl, elS_inr, lessP, lex_lt, sw_fold, lenI_ok])
    exact .r h4
end Go.Proofs.Ytpknphecmahkaaa.Tr
namespace Go.Proofs.Ytpknphecmahkaaa.Tr
open Go
set_option maxHeartbeats 1000000
theorem shr_n (n : UInt64) (s : Int) : (shr64 n s).toNat = n.toNat / 2 ^ s.toNat := by
  have h := n.toNat_lt
  have h2 : n.toNat / 2 ^ s.toNat ≤ n.toNat := Nat.div_le_self _ _
  unfold shr64
  rw [UInt64.toNat_ofNat']
  exact Nat.mod_eq_of_lt (by omega)
theorem half_le {m x k n : Nat} (h : 2 ^ m * x ≤ n) : 2 ^ (m + k) * (x / 2 ^ k) ≤ n := by
  rw [Nat.pow_add, Nat.mul_assoc]
  exact Nat.le_trans (Nat.mul_le_mul_left _ (Nat.mul_div_le x (2 ^ k))) h
set_option maxRecDepth 100000 in
theorem tab8 : ∀ v : Fin 256, (math_bits_Len64_t1.getD v.val 0).toNat ≤ 8 ∧ (1 ≤ v.val → 2 ^ (math_bits_Len64_t1.getD v.val 0).toNat ≤ 2 * v.val) := by decide +kernel
theorem tab8l : math_bits_Len64_t1.length = 256 := by decide +kernel
theorem len_get (n : UInt64) : Gets (math_bits_Len n) (fun k => 0 ≤ k ∧ k ≤ 64 ∧ (1 ≤ n.toNat → 2 ^ k.toNat ≤ 2 * n.toNat)) := by
  unfold math_bits_Len
  rw [cond_f]
  refine Gets.b ?_ (fun v hv => .s hv)
  unfold math_bits_Len64
  have hn := n.toNat_lt
  refine Gets.b (P := fun o => ∃ m : Nat, o.2 = (m : Int) ∧ m ≤ 32 ∧ (1 ≤ n.toNat → 1 ≤ o.1.toNat) ∧ o.1.toNat < 4294967296 ∧ 2 ^ m * o.1.toNat ≤ n.toNat) ?_ (fun o ho => ?_)
  · refine Gets.c (fun e => ?_) (fun e => ?_)
    · have e := of_decide_eq_true e
      rw [UInt64.le_iff_toNat_le] at e
      have e : 4294967296 ≤ n.toNat := e
      have hs : (shr64 n ((UInt64.ofNat 32).toNat : Int)).toNat = n.toNat / 4294967296 := shr_n _ _
      refine .s ⟨32, rfl, by omega, fun _ => ?_, ?_, ?_⟩
      · rw [hs]; omega
      · rw [hs]; omega
      · rw [hs]; have := Nat.mul_div_le n.toNat 4294967296; simpa using this
    · have e := of_decide_eq_false e
      rw [UInt64.le_iff_toNat_le] at e
      have e : ¬ 4294967296 ≤ n.toNat := e
      exact .s ⟨0, rfl, by omega, fun h => h, by dsimp only; omega, by simp⟩
  obtain ⟨x, n2⟩ := o
  obtain ⟨m, h1, h2, h3, h4, h5⟩ := ho
  dsimp only at *
  subst h1
  simp only [el2]
  refine Gets.b (P := fun o => ∃ m : Nat, o.2 = (m : Int) ∧ m ≤ 48 ∧ (1 ≤ n.toNat → 1 ≤ o.1.toNat) ∧ o.1.toNat < 65536 ∧ 2 ^ m * o.1.toNat ≤ n.toNat) ?_ (fun o ho => ?_)
  · refine Gets.c (fun e => ?_) (fun e => ?_)
    · have e := of_decide_eq_true e
      rw [UInt64.le_iff_toNat_le] at e
      have e : 65536 ≤ x.toNat := e
      have hs : (shr64 x ((UInt64.ofNat 16).toNat : Int)).toNat = x.toNat / 2 ^ 16 := shr_n _ _
      (simp (disch := first | omega | assumption | (simp only [List.length_set, sw_len]; omega)) only [idx_nth, addI_ok, subI_ok, mulI_ok, quoI_ok, bind_s, gb_true, gb_false, cond_t, cond_f, dt_, df_, Bool.true_and, Bool.false_and, Bool.not_true, Bool.not_false, el2, el3, el4, elS_inl, elS_inr, lessP, lex_lt, sw_fold, lenI_ok])
      refine .s ⟨m + 16, rfl, by omega, fun _ => ?_, ?_, ?_⟩
      · rw [hs]; omega
      · rw [hs]; omega
      · rw [hs]; exact half_le h5
    · have e := of_decide_eq_false e
      rw [UInt64.le_iff_toNat_le] at e
      have e : ¬ 65536 ≤ x.toNat := e
      exact .s ⟨m, rfl, by omega, h3, by dsimp only; omega, h5⟩
  clear h2 h3 h4 h5
  obtain ⟨x, n2⟩ := o
  obtain ⟨m, h1, h2, h3, h4, h5⟩ := ho
  dsimp only at *
  subst h1
  refine Gets.b (P := fun o => ∃ m : Nat, o.2 = (m : Int) ∧ m ≤ 56 ∧ (1 ≤ n.toNat → 1 ≤ o.1.toNat) ∧ o.1.toNat < 256 ∧ 2 ^ m * o.1.toNat ≤ n.toNat) ?_ (fun o ho => ?_)
  · refine Gets.c (fun e => ?_) (fun e => ?_)
    · have e := of_decide_eq_true e
      rw [UInt64.le_iff_toNat_le] at e
      have e : 256 ≤ x.toNat := e
      have hs : (shr64 x ((UInt64.ofNat 8).toNat : Int)).toNat = x.toNat / 2 ^ 8 := shr_n _ _
      (simp (disch := first | omega | assumption | (simp only [List.length_set, sw_len]; omega)) only [idx_nth, addI_ok, subI_ok, mulI_ok, quoI_ok, bind_s, gb_true, gb_false, cond_t, cond_f, dt_, df_, Bool.true_and, Bool.false_and, Bool.not_true, Bool.not_false, el2, el3, el4, elS_inl, elS_inr, lessP, lex_lt, sw_fold, lenI_ok])
      refine .s ⟨m + 8, rfl, by omega, fun _ => ?_, ?_, ?_⟩
      · rw [hs]; omega
      · rw [hs]; omega
      · rw [hs]; exact half_le h5
    · have e := of_decide_eq_false e
      rw [UInt64.le_iff_toNat_le] at e
      have e : ¬ 256 ≤ x.toNat := e
      exact .s ⟨m, rfl, by omega, h3, by dsimp only; omega, h5⟩
  clear h2 h3 h4 h5
  obtain ⟨x, n2⟩ := o
  obtain ⟨m, h1, h2, h3, h4, h5⟩ := ho
  dsimp only at *
  subst h1
  have hx : (x.toUInt8).toNat = x.toNat := by rw [UInt64.toNat_toUInt8]; omega
  obtain ⟨t1, t2⟩ := tab8 ⟨x.toNat, h4⟩
  dsimp only at t1 t2
  rw [hx]
  refine Gets.b (Gets.idx (by omega) (by rw [tab8l]; omega)) (fun u hu => ?_)
  rw [Int.toNat_natCast] at hu
  rw [List.getD_eq_getElem?_getD, hu] at t1 t2
  change u.toNat ≤ 8 at t1
  change 1 ≤ x.toNat → 2 ^ u.toNat ≤ 2 * x.toNat at t2
  (simp (disch := first | omega | assumption | (simp only [List.length_set, sw_len]; omega)) only [idx_nth, addI_ok, subI_ok, mulI_ok, quoI_ok, bind_s, gb_true, gb_false, cond_t, cond_f, dt_, df_, Bool.true_and, Bool.false_and, Bool.not_true, Bool.not_false, el2, el3, el4, elS_inl, elS_inr, lessP, lex_lt, sw_fold, lenI_ok])
  refine .s ⟨by omega, by omega, fun h => ?_⟩
  rw [show ((m : Int) + (u.toNat : Int)).toNat = m + u.toNat by omega, Nat.pow_add]
  have t3 := Nat.mul_le_mul_left (2 ^ m) (t2 (h3 h))
  have t4 : 2 ^ m * (2 * x.toNat) = 2 * (2 ^ m * x.toNat) := by rw [Nat.mul_left_comm]
  omega
theorem pow_get {n : Int} (h1 : 1 ≤ n) (h2 : n ≤ 281474976710656) : Gets (slices_nextPowerOfTwo n) (fun x => 1 ≤ x.toNat ∧ (x.toNat : Int) ≤ 2 * n) := by
  unfold slices_nextPowerOfTwo
  have hn : (UInt64.ofInt n).toNat = n.toNat := by
    obtain ⟨k, rfl⟩ : ∃ k : Nat, n = (k : Int) := ⟨n.toNat, by omega⟩
    unfold UInt64.ofInt
    rw [UInt64.toNat_ofNat']
    omega
  refine Gets.b (len_get _) (fun k hk => ?_)
  obtain ⟨k1, k2, k3⟩ := hk
  rw [hn] at k3
  have k3 := k3 (by omega)
  refine Gets.b (x := cnt k) (P := fun _ => True) ⟨k.toNat, if_pos k1, trivial⟩ (fun _ _ => ?_)
  have e : (shl64 (UInt64.ofNat 1) k).toNat = 2 ^ k.toNat := by
    unfold shl64
    rw [UInt64.toNat_ofNat', show (UInt64.ofNat 1).toNat = 1 from rfl, Nat.one_mul]
    exact Nat.mod_eq_of_lt (by omega)
  refine .s ⟨?_, ?_⟩
  · rw [e]; exact Nat.one_le_two_pow
  · rw [e]; omega
theorem brk_get {l : List Prefix} {a b : Int} (hA : AllPM l) (h0 : 0 ≤ a) (hab : a ≤ b) (hb : b ≤ l.length) (hl : (l.length : Int) ≤ 281474976710656) : Gets (slices_breakPatternsCmpFunc_api_Prefix l a b cmpP) (fun l' => Same l l' a b) := by
  unfold slices_breakPatternsCmpFunc_api_Prefix
  by_cases c : b - a ≥ 8
  · (simp (disch := first | omega | assumption | (simp only [List.length_set, sw_len]; omega)) only [idx_nth, addI_ok, subI_ok, mulI_ok, quoI_ok, bind_s, gb_true, gb_false, cond_t, cond_f, dt_, df_, Bool.true_and, Bool.false_and, Bool.not_true, Bool.not_false, el2, el3, el4, elS_inl, elS_inr, lessP, lex_lt, sw_fold, lenI_ok])
    refine Gets.b (pow_get (by omega) (by omega)) (fun x hx => ?_)
    refine Gets.b (Gets.loop (I := fun s => a + (b - a) / 4 * 2 - 1 ≤ s.1 ∧ s.1 ≤ a + (b - a) / 4 * 2 + 2 ∧ Same l s.2.1 a b) (μ := fun s => (b + 8 - s.1).toNat) (R := fun d => Same l d a b) (fun s hs => ?_) ⟨by dsimp only; omega, by dsimp only; omega, .rf⟩ (by dsimp only; omega)) (fun d hd => .s hd)
    obtain ⟨i, d, r⟩ := s
    obtain ⟨h1, h2, h3⟩ := hs
    dsimp only at *
    have hL := h3.len
    have hAd := AllPM.same (by first | assumption | exact AllPM.sw (by assumption) (by omega) (by omega) (by omega) (by omega)) h3
    unfold slices_breakPatternsCmpFunc_api_Prefix_l1
    by_cases c2 : i ≤ a + (b - a) / 4 * 2 + 1
    · (simp (disch := first | omega | assumption | (simp only [List.length_set, sw_len]; omega)) only [idx_nth, addI_ok, subI_ok, mulI_ok, quoI_ok, bind_s, gb_true, gb_false, cond_t, cond_f, dt_, df_, Bool.true_and, Bool.false_and, Bool.not_true, Bool.not_false, el2, el3, el4, elS_inl, elS_inr, lessP, lex_lt, sw_fold, lenI_ok])
      refine Gets.b (P := fun _ => True) (by unfold slices_xorshift_Next; simp only [bind_s]; exact .s trivial) (fun r _ => ?_)
      have hm : (r.1 &&& (x - UInt64.ofNat 1)).toNat < x.toNat := by
        have e1 : (x - UInt64.ofNat 1).toNat = x.toNat - 1 := UInt64.toNat_sub_of_le _ _ (by rw [UInt64.le_iff_toNat_le]; exact hx.1)
        rw [UInt64.toNat_and, e1]
        have := @Nat.and_le_right r.1.toNat (x.toNat - 1)
        omega
      revert hm
      generalize (r.1 &&& (x - UInt64.ofNat 1)).toNat = m
      intro hm
      simp (disch := omega) only [ok64_ok, bind_s]
      refine Gets.b (P := fun o => 0 ≤ o ∧ o < b - a) ?_ (fun o ho => ?_)
      · refine Gets.c (fun e => ?_) (fun e => ?_)
        · have e := of_decide_eq_true e
          (simp (disch := first | omega | assumption | (simp only [List.length_set, sw_len]; omega)) only [idx_nth, addI_ok, subI_ok, mulI_ok, quoI_ok, bind_s, gb_true, gb_false, cond_t, cond_f, dt_, df_, Bool.true_and, Bool.false_and, Bool.not_true, Bool.not_false, el2, el3, el4, elS_inl, elS_inr, lessP, lex_lt, sw_fold, lenI_ok]); exact .s (by omega)
        · have e := of_decide_eq_false e
          exact .s (by omega)
      · (simp (disch := first | omega | assumption | (simp only [List.length_set, sw_len]; omega)) only [idx_nth, addI_ok, subI_ok, mulI_ok, quoI_ok, bind_s, gb_true, gb_false, cond_t, cond_f, dt_, df_, Bool.true_and, Bool.false_and, Bool.not_true, Bool.not_false, el2, el3, el4, elS_inl, elS_inr, lessP, lex_lt, sw_fold, lenI_ok])
        exact .l ⟨by dsimp only; omega, by dsimp only; omega, h3.tr (.sw h0 (by omega) (by omega) (by omega) (by omega) (by omega))⟩ (by dsimp only; omega)
    · (simp (disch := first | omega | assumption | (simp only [List.length_set, sw_len]; omega)) only [idx_nth, addI_ok, subI_ok, mulI_ok, quoI_ok, bind_s, gb_true, gb_false, cond_t, cond_f, dt_, df_, Bool.true_and, Bool.false_and, Bool.not_true, Bool.not_false, el2, el3, el4, elS_inl, elS_inr, lessP, lex_lt, sw_fold, lenI_ok])
      exact .r h3
  · (simp (disch := first | omega | assumption | (simp only [List.length_set, sw_len]; omega)) only [idx_nth, addI_ok, subI_ok, mulI_ok, quoI_ok, bind_s, gb_true, gb_false, cond_t, cond_f, dt_, df_, Bool.true_and, Bool.false_and, Bool.not_true, Bool.not_false, el2, el3, el4, elS_inl, elS_inr, lessP, lex_lt, sw_fold, lenI_ok])
    exact .s .rf
theorem ord2_get {l : List Prefix} {a b s : Int} (hA : AllPM l) (ha : 0 ≤ a) (ha2 : a < l.length) (hb : 0 ≤ b) (hb2 : b < l.length) (hs : 0 ≤ s) (hs2 : s ≤ 100) : Gets (slices_order2CmpFunc_api_Prefix l a b s cmpP) (fun r => (r.1 = a ∨ r.1 = b) ∧ (r.2.1 = a ∨ r.2.1 = b) ∧ s ≤ r.2.2 ∧ r.2.2 ≤ s + 1) := by
  unfold slices_order2CmpFunc_api_Prefix
  (simp (disch := first | omega | assumption | (simp only [List.length_set, sw_len]; omega)) only [idx_nth, addI_ok, subI_ok, mulI_ok, quoI_ok, bind_s, gb_true, gb_false, cond_t, cond_f, dt_, df_, Bool.true_and, Bool.false_and, Bool.not_true, Bool.not_false, el2, el3, el4, elS_inl, elS_inr, lessP, lex_lt, sw_fold, lenI_ok])
  refine Gets.c (fun e => ?_) (fun e => ?_)
  · exact .s ⟨.inr rfl, .inl rfl, by dsimp only; omega, by dsimp only; omega⟩
  · exact .s ⟨.inl rfl, .inr rfl, by dsimp only; omega, by dsimp only; omega⟩
theorem med_get {l : List Prefix} {a b c s : Int} (hA : AllPM l) (ha : 0 ≤ a) (ha2 : a < l.length) (hb : 0 ≤ b) (hb2 : b < l.length) (hc : 0 ≤ c) (hc2 : c < l.length) (hs : 0 ≤ s) (hs2 : s ≤ 90) : Gets (slices_medianCmpFunc_api_Prefix l a b c s cmpP) (fun r => (r.1 = a ∨ r.1 = b ∨ r.1 = c) ∧ s ≤ r.2 ∧ r.2 ≤ s + 3) := by
  unfold slices_medianCmpFunc_api_Prefix
  refine Gets.b (ord2_get (by first | assumption | exact AllPM.sw (by assumption) (by omega) (by omega) (by omega) (by omega)) ha ha2 hb hb2 hs (by omega)) (fun x hx => ?_)
  refine Gets.b (ord2_get (by first | assumption | exact AllPM.sw (by assumption) (by omega) (by omega) (by omega) (by omega)) (by omega) (by omega) hc hc2 (by omega) (by omega)) (fun y hy => ?_)
  refine Gets.b (ord2_get (by first | assumption | exact AllPM.sw (by assumption) (by omega) (by omega) (by omega) (by omega)) (by omega) (by omega) (by omega) (by omega) (by omega) (by omega)) (fun z hz => ?_)
  exact .s ⟨by dsimp only; omega, by dsimp only; omega, by dsimp only; omega⟩
theorem adj_get {l : List Prefix} {a s : Int} (hA : AllPM l) (ha : 1 ≤ a) (ha2 : a + 1 < l.length) (hl : (l.length : Int) ≤ 281474976710656) (hs : 0 ≤ s) (hs2 : s ≤ 90) : Gets (slices_medianAdjacentCmpFunc_api_Prefix l a s cmpP) (fun r => a - 1 ≤ r.1 ∧ r.1 ≤ a + 1 ∧ s ≤ r.2 ∧ r.2 ≤ s + 3) := by
  unfold slices_medianAdjacentCmpFunc_api_Prefix
  (simp (disch := first | omega | assumption | (simp only [List.length_set, sw_len]; omega)) only [idx_nth, addI_ok, subI_ok, mulI_ok, quoI_ok, bind_s, gb_true, gb_false, cond_t, cond_f, dt_, df_, Bool.true_and, Bool.false_and, Bool.not_true, Bool.not_false, el2, el3, el4, elS_inl, elS_inr, lessP, lex_lt, sw_fold, lenI_ok])
  refine Gets.b (med_get (by first | assumption | exact AllPM.sw (by assumption) (by omega) (by omega) (by omega) (by omega)) (by omega) (by omega) (by omega) (by omega) (by omega) (by omega) hs hs2) (fun x hx => ?_)
  exact .s ⟨by dsimp only; omega, by dsimp only; omega, by dsimp only; omega, by dsimp only; omega⟩
theorem piv_get {l : List Prefix} {a b : Int} (hA : AllPM l) (h0 : 0 ≤ a) (hab : a + 8 ≤ b) (hb : b ≤ l.length) (hl : (l.length : Int) ≤ 281474976710656) : Gets (slices_choosePivotCmpFunc_api_Prefix l a b cmpP) (fun r => a ≤ r.1 ∧ r.1 < b) := by
  unfold slices_choosePivotCmpFunc_api_Prefix
  simp (disch := omega) only [subI_ok, quoI_ok, mulI_ok, addI_ok, bind_s, dt_, cond_t]
  refine Gets.b (P := fun o => a ≤ o.1 ∧ o.1 < b) ?_ (fun o ho => ?_)
  · refine Gets.b (P := fun o => a ≤ o.1 ∧ o.1 < b ∧ a ≤ o.2.1 ∧ o.2.1 < b ∧ a ≤ o.2.2.1 ∧ o.2.2.1 < b ∧ 0 ≤ o.2.2.2 ∧ o.2.2.2 ≤ 9) ?_ (fun o ho => ?_)
    · refine Gets.c (fun e => ?_) (fun e => ?_)
      · have e := of_decide_eq_true e
        refine Gets.b (adj_get (by first | assumption | exact AllPM.sw (by assumption) (by omega) (by omega) (by omega) (by omega)) (by omega) (by omega) hl (Int.le_refl 0) (by decide)) (fun x hx => ?_)
        have hx : _ ∧ _ ∧ 0 ≤ x.2 ∧ x.2 ≤ 0 + 3 := hx
        refine Gets.b (adj_get (by first | assumption | exact AllPM.sw (by assumption) (by omega) (by omega) (by omega) (by omega)) (by omega) (by omega) hl (by omega) (by omega)) (fun y hy => ?_)
        refine Gets.b (adj_get (by first | assumption | exact AllPM.sw (by assumption) (by omega) (by omega) (by omega) (by omega)) (by omega) (by omega) hl (by omega) (by omega)) (fun z hz => ?_)
        exact .s ⟨by dsimp only; omega, by dsimp only; omega, by dsimp only; omega, by dsimp only; omega, by dsimp only; omega, by dsimp only; omega, by dsimp only; omega, by dsimp only; omega⟩
      · exact .s ⟨by dsimp only; omega, by dsimp only; omega, by dsimp only; omega, by dsimp only; omega, by dsimp only; omega, by dsimp only; omega, Int.le_refl 0, by show (0 : Int) ≤ 9; decide⟩
    · obtain ⟨i, j, k, s⟩ := o
      dsimp only at ho
      simp only [el4]
      refine Gets.b (med_get (by first | assumption | exact AllPM.sw (by assumption) (by omega) (by omega) (by omega) (by omega)) (by omega) (by omega) (by omega) (by omega) (by omega) (by omega) (by omega) (by omega)) (fun x hx => ?_)
      exact .s ⟨by dsimp only; omega, by dsimp only; omega⟩
  · obtain ⟨j, s⟩ := o
    simp only [el2]
    refine Gets.c (fun e => .s ho) (fun e => ?_)
    exact Gets.c (fun e => .s ho) (fun e => .s ho)
end Go.Proofs.Ytpknphecmahkaaa.Tr
namespace Go.Proofs.Ytpknphecmahkaaa.Tr
open Go
set_option maxHeartbeats 1000000
theorem part_get {l : List Prefix} {a b : Int} (hA : AllPM l) (h0 : 0 ≤ a) (hab : a < b) (hb : b ≤ l.length) (hl : (l.length : Int) ≤ 281474976710656) (pre : ∀ k, 0 < a → a ≤ k → k < b → ltL (nth l k) (nth l (a - 1)) = false) : Gets (slices_partialInsertionSortCmpFunc_api_Prefix l a b cmpP) (fun r => Same l r.2 a b ∧ (r.1 = true → Srt ltL r.2 a b)) := by
  unfold slices_partialInsertionSortCmpFunc_api_Prefix; (simp (disch := first | omega | assumption | (simp only [List.length_set, sw_len]; omega)) only [idx_nth, addI_ok, subI_ok, mulI_ok, quoI_ok, bind_s, gb_true, gb_false, cond_t, cond_f, dt_, df_, Bool.true_and, Bool.false_and, Bool.not_true, Bool.not_false, el2, el3, el4, elS_inl, elS_inr, lessP, lex_lt, sw_fold, lenI_ok])
  refine Gets.b (Gets.loop (I := fun s => a < s.1 ∧ s.1 ≤ b ∧ 0 ≤ s.2.1 ∧ s.2.1 ≤ 5 ∧ Same l s.2.2 a b ∧ Srt ltL s.2.2 a s.1) (μ := fun s => (5 - s.2.1).toNat) (R := Sum.elim (fun d => Same l d a b) (fun r => Same l r.2 a b ∧ (r.1 = true → Srt ltL r.2 a b))) (fun s hs => ?_) ⟨by dsimp only; omega, by dsimp only; omega, by dsimp only; omega, by dsimp only; omega, .rf, fun p q h1 h2 h3 => by dsimp only at h3; omega⟩ (by dsimp only; omega)) (fun v hv => ?_)
  · obtain ⟨i, j, d⟩ := s
    obtain ⟨h1, h2, h3, h4, h5, h6⟩ := hs
    dsimp only at *
    have hL := h5.len
    have hAd := AllPM.same (by first | assumption | exact AllPM.sw (by assumption) (by omega) (by omega) (by omega) (by omega)) h5
    unfold slices_partialInsertionSortCmpFunc_api_Prefix_l1
    refine Gets.c (fun e => ?_) (fun e => .r (show Same l d a b from h5))
    have e := of_decide_eq_true e
    refine Gets.b (P := Sum.elim (fun s => a < s.1 ∧ s.1 ≤ b ∧ Same l s.2 a b ∧ Srt ltL s.2 a s.1) (fun r => Same l r.2 a b ∧ (r.1 = true → Srt ltL r.2 a b))) ?_ (fun o ho => ?_)
    · refine Gets.b (Gets.loop (I := fun i' => a < i' ∧ i' ≤ b ∧ Srt ltL d a i') (μ := fun i' => (b - i').toNat) (R := fun i' => a < i' ∧ i' ≤ b ∧ Srt ltL d a i') (fun i' hi => ?_) ⟨h1, h2, h6⟩ (by omega)) (fun i hi => ?_)
      · obtain ⟨g1, g2, g3⟩ := hi
        unfold slices_partialInsertionSortCmpFunc_api_Prefix_l2
        by_cases c : i' < b
        · (simp (disch := first | omega | assumption | (simp only [List.length_set, sw_len]; omega)) only [idx_nth, addI_ok, subI_ok, mulI_ok, quoI_ok, bind_s, gb_true, gb_false, cond_t, cond_f, dt_, df_, Bool.true_and, Bool.false_and, Bool.not_true, Bool.not_false, el2, el3, el4, elS_inl, elS_inr, lessP, lex_lt, sw_fold, lenI_ok])
          refine Gets.c (fun e => ?_) (fun e => ?_)
          · have e : ltL (nth d i') (nth d (i' - 1)) = false := by simpa using e
            exact .l ⟨by omega, by omega, But.done weakP (But.of g3) (by omega) (Int.le_refl _) (.inr e)⟩ (by omega)
          · exact .r ⟨g1, g2, g3⟩
        · (simp (disch := first | omega | assumption | (simp only [List.length_set, sw_len]; omega)) only [idx_nth, addI_ok, subI_ok, mulI_ok, quoI_ok, bind_s, gb_true, gb_false, cond_t, cond_f, dt_, df_, Bool.true_and, Bool.false_and, Bool.not_true, Bool.not_false, el2, el3, el4, elS_inl, elS_inr, lessP, lex_lt, sw_fold, lenI_ok])
          exact .r ⟨g1, g2, g3⟩
      obtain ⟨g1, g2, g3⟩ := hi
      refine Gets.c (fun e => ?_) (fun e => ?_)
      · have e := of_decide_eq_true e
        subst e
        exact .s (show _ ∧ _ from ⟨h5, fun _ => g3⟩)
      have e := of_decide_eq_false e
      simp (disch := omega) only [subI_ok, bind_s]
      refine Gets.c (fun e => .s (show _ ∧ _ from ⟨h5, fun h => by cases h⟩)) (fun e50 => ?_)
      (simp (disch := first | omega | assumption | (simp only [List.length_set, sw_len]; omega)) only [idx_nth, addI_ok, subI_ok, mulI_ok, quoI_ok, bind_s, gb_true, gb_false, cond_t, cond_f, dt_, df_, Bool.true_and, Bool.false_and, Bool.not_true, Bool.not_false, el2, el3, el4, elS_inl, elS_inr, lessP, lex_lt, sw_fold, lenI_ok])
      have hW : Same d (sw d (i - 1) i) (i - 1) (i + 1) := .sw (by omega) (by omega) (by omega) (by omega) (by omega) (by omega)
      have hW2 : Same l (sw d (i - 1) i) a b := h5.tr (hW.up h0 (by omega) (by omega))
      have hL2 := hW2.len
      have hAd := AllPM.same (by first | assumption | exact AllPM.sw (by assumption) (by omega) (by omega) (by omega) (by omega)) hW2
      revert hW hW2 hL2
      generalize sw d (i - 1) i = d2
      intro hW hW2 hL2
      refine Gets.b (P := fun d3 => Same l d3 a b ∧ Srt ltL d3 a i) ?_ (fun d3 hd3 => ?_)
      · refine Gets.c (fun e2 => ?_) (fun e2 => ?_)
        · have e2 := of_decide_eq_true e2
          have hB : But ltL d2 a (i - 1) (i - 1) := But.of (fun p q k1 k2 k3 => by
            rw [hW.out p (by omega) (by omega), hW.out q (by omega) (by omega)]; exact g3 p q k1 k2 (by omega))
          refine Gets.loop (I := fun s => a ≤ s.1 ∧ s.1 ≤ i - 1 ∧ Same l s.2 a b ∧ But ltL s.2 a (i - 1) s.1) (μ := fun s => s.1.toNat) (fun s hs => ?_) ⟨by dsimp only; omega, by dsimp only; omega, hW2, hB⟩ (by dsimp only; omega)
          obtain ⟨j2, d4⟩ := s
          obtain ⟨k1, k2, k3, k4⟩ := hs
          dsimp only at *
          have hL4 := k3.len
          have hAd := AllPM.same (by first | assumption | exact AllPM.sw (by assumption) (by omega) (by omega) (by omega) (by omega)) k3
          unfold slices_partialInsertionSortCmpFunc_api_Prefix_l3
          have fin : (j2 ≤ a ∨ ltL (nth d4 j2) (nth d4 (j2 - 1)) = false) → Srt ltL d4 a i := fun h => by
            have := k4.done weakP k1 k2 h
            rwa [show i - 1 + 1 = i by omega] at this
          by_cases c : j2 ≥ 1
          · (simp (disch := first | omega | assumption | (simp only [List.length_set, sw_len]; omega)) only [idx_nth, addI_ok, subI_ok, mulI_ok, quoI_ok, bind_s, gb_true, gb_false, cond_t, cond_f, dt_, df_, Bool.true_and, Bool.false_and, Bool.not_true, Bool.not_false, el2, el3, el4, elS_inl, elS_inr, lessP, lex_lt, sw_fold, lenI_ok])
            refine Gets.c (fun e => ?_) (fun e => ?_)
            · have e : ltL (nth d4 j2) (nth d4 (j2 - 1)) = false := by simpa using e
              exact .r ⟨k3, fin (.inr e)⟩
            · have e : ltL (nth d4 j2) (nth d4 (j2 - 1)) = true := by simpa using e
              have hj : a < j2 := by
                by_cases hj : a < j2
                · exact hj
                · have : j2 = a := by omega
                  subst this
                  obtain ⟨m, m1, m2, m3⟩ := k3.src j2 (Int.le_refl _) hab
                  rw [m3, k3.out (j2 - 1) (by omega) (by omega), pre m (by omega) m1 m2] at e
                  cases e
              exact .l ⟨by dsimp only; omega, by dsimp only; omega, k3.tr (.sw h0 (by omega) (by omega) (by omega) (by omega) (by omega)), k4.step weakP h0 (by omega) hj k2 e⟩ (by dsimp only; omega)
          · (simp (disch := first | omega | assumption | (simp only [List.length_set, sw_len]; omega)) only [idx_nth, addI_ok, subI_ok, mulI_ok, quoI_ok, bind_s, gb_true, gb_false, cond_t, cond_f, dt_, df_, Bool.true_and, Bool.false_and, Bool.not_true, Bool.not_false, el2, el3, el4, elS_inl, elS_inr, lessP, lex_lt, sw_fold, lenI_ok])
            exact .r ⟨k3, fin (.inl (by omega))⟩
        · have e2 := of_decide_eq_false e2
          exact .s ⟨hW2, fun p q k1 k2 k3 => by omega⟩
      obtain ⟨m1, m2⟩ := hd3
      refine Gets.c (fun e2 => ?_) (fun e2 => .s (show _ ∧ _ from ⟨g1, g2, m1, m2⟩))
      have e2 := of_decide_eq_true e2
      refine Gets.b (Gets.loop (I := fun s => i < s.1 ∧ s.1 ≤ b ∧ Same l s.2 a b ∧ Srt ltL s.2 a i) (μ := fun s => (b - s.1).toNat) (R := fun d => Same l d a b ∧ Srt ltL d a i) (fun s hs => ?_) ⟨by dsimp only; omega, by dsimp only; omega, m1, m2⟩ (by dsimp only; omega)) (fun d hd => .s (show _ ∧ _ from ⟨g1, g2, hd.1, hd.2⟩))
      obtain ⟨j2, d4⟩ := s
      obtain ⟨k1, k2, k3, k4⟩ := hs
      dsimp only at *
      have hL4 := k3.len
      have hAd := AllPM.same (by first | assumption | exact AllPM.sw (by assumption) (by omega) (by omega) (by omega) (by omega)) k3
      unfold slices_partialInsertionSortCmpFunc_api_Prefix_l4
      by_cases c : j2 < b
      · (simp (disch := first | omega | assumption | (simp only [List.length_set, sw_len]; omega)) only [idx_nth, addI_ok, subI_ok, mulI_ok, quoI_ok, bind_s, gb_true, gb_false, cond_t, cond_f, dt_, df_, Bool.true_and, Bool.false_and, Bool.not_true, Bool.not_false, el2, el3, el4, elS_inl, elS_inr, lessP, lex_lt, sw_fold, lenI_ok])
        refine Gets.c (fun e => .r ⟨k3, k4⟩) (fun e => ?_)
        have hV : Same d4 (sw d4 (j2 - 1) j2) i b := .sw (by omega) (by omega) (by omega) (by omega) (by omega) (by omega)
        exact .l ⟨by dsimp only; omega, by dsimp only; omega, k3.tr (hV.up h0 (by omega) (by omega)), k4.same hV h0 (.inl (Int.le_refl _))⟩ (by dsimp only; omega)
      · (simp (disch := first | omega | assumption | (simp only [List.length_set, sw_len]; omega)) only [idx_nth, addI_ok, subI_ok, mulI_ok, quoI_ok, bind_s, gb_true, gb_false, cond_t, cond_f, dt_, df_, Bool.true_and, Bool.false_and, Bool.not_true, Bool.not_false, el2, el3, el4, elS_inl, elS_inr, lessP, lex_lt, sw_fold, lenI_ok])
        exact .r ⟨k3, k4⟩
    · rcases o with ⟨i', d'⟩ | r
      · rw [elS_inl]; simp only [el2]
        obtain ⟨g1, g2, g3, g4⟩ := ho
        (simp (disch := first | omega | assumption | (simp only [List.length_set, sw_len]; omega)) only [idx_nth, addI_ok, subI_ok, mulI_ok, quoI_ok, bind_s, gb_true, gb_false, cond_t, cond_f, dt_, df_, Bool.true_and, Bool.false_and, Bool.not_true, Bool.not_false, el2, el3, el4, elS_inl, elS_inr, lessP, lex_lt, sw_fold, lenI_ok])
        exact .l ⟨g1, g2, by dsimp only; omega, by dsimp only; omega, g3, g4⟩ (by dsimp only; omega)
      · rw [elS_inr]
        exact .r (show _ ∧ _ from ho)
  · rcases v with v | v
    · exact .elSl (.s ⟨hv, fun h => by cases h⟩)
    · exact .elSr (.s hv)
theorem pteq_get {l : List Prefix} {a b pv : Int} (hA : AllPM l) (h0 : 0 ≤ a) (hp : a ≤ pv) (hp2 : pv < b) (hb : b ≤ l.length) (hl : (l.length : Int) ≤ 281474976710656) (hmin : ∀ k, a ≤ k → k < b → ltL (nth l k) (nth l pv) = false) : Gets (slices_partitionEqualCmpFunc_api_Prefix l a b pv cmpP) (fun r => a < r.1 ∧ r.1 ≤ b ∧ Same l r.2 a b ∧ ∀ p q, a ≤ p → p < q → q < b → p < r.1 → ltL (nth r.2 q) (nth r.2 p) = false) := by
  unfold slices_partitionEqualCmpFunc_api_Prefix; (simp (disch := first | omega | assumption | (simp only [List.length_set, sw_len]; omega)) only [idx_nth, addI_ok, subI_ok, mulI_ok, quoI_ok, bind_s, gb_true, gb_false, cond_t, cond_f, dt_, df_, Bool.true_and, Bool.false_and, Bool.not_true, Bool.not_false, el2, el3, el4, elS_inl, elS_inr, lessP, lex_lt, sw_fold, lenI_ok])
  have hW : Same l (sw l pv a) a b := .sw h0 hb (by omega) (by omega) (by omega) (by omega)
  have hA : nth (sw l pv a) a = nth l pv := by
    rw [nth_sw (by omega) (by omega) (by omega) (by omega) h0]
    split
    · rename_i e; rw [e]
    · rw [if_pos rfl]
  refine Gets.b (Gets.loop (I := fun s => a < s.1 ∧ s.2.1 < b ∧ s.1 ≤ s.2.1 + 1 ∧ Same l s.2.2 a b ∧ nth s.2.2 a = nth l pv ∧ ∀ k, a ≤ k → k < s.1 → ltL (nth l pv) (nth s.2.2 k) = false) (μ := fun s => (b - s.1).toNat) (R := fun r => a < r.1 ∧ r.1 ≤ b ∧ Same l r.2 a b ∧ ∀ p q, a ≤ p → p < q → q < b → p < r.1 → ltL (nth r.2 q) (nth r.2 p) = false) (fun s hs => ?_) ⟨by dsimp only; omega, by dsimp only; omega, by dsimp only; omega, hW, hA, fun k k1 k2 => by
      dsimp only at *
      have : k = a := by omega
      subst this; rw [hA]; exact weakP.rf _⟩ (by dsimp only; omega)) (fun o ho => ?_)
  · obtain ⟨i, j, d⟩ := s
    obtain ⟨h1, h2, h3, h4, h5, h6⟩ := hs
    dsimp only at *
    have hL := h4.len
    have hAd := AllPM.same (by first | assumption | exact AllPM.sw (by assumption) (by omega) (by omega) (by omega) (by omega)) h4
    unfold slices_partitionEqualCmpFunc_api_Prefix_l1
    refine Gets.b (Gets.loop (I := fun i' => i ≤ i' ∧ i' ≤ j + 1 ∧ ∀ k, a ≤ k → k < i' → ltL (nth l pv) (nth d k) = false) (μ := fun i' => (b - i').toNat) (R := fun i' => i ≤ i' ∧ i' ≤ j + 1 ∧ (∀ k, a ≤ k → k < i' → ltL (nth l pv) (nth d k) = false) ∧ (i' ≤ j → ltL (nth l pv) (nth d i') = true)) (fun i' hi => ?_) ⟨Int.le_refl _, h3, h6⟩ (by omega)) (fun i' hi => ?_)
    · obtain ⟨g1, g2, g3⟩ := hi
      unfold slices_partitionEqualCmpFunc_api_Prefix_l2
      by_cases c : i' ≤ j
      · (simp (disch := first | omega | assumption | (simp only [List.length_set, sw_len]; omega)) only [idx_nth, addI_ok, subI_ok, mulI_ok, quoI_ok, bind_s, gb_true, gb_false, cond_t, cond_f, dt_, df_, Bool.true_and, Bool.false_and, Bool.not_true, Bool.not_false, el2, el3, el4, elS_inl, elS_inr, lessP, lex_lt, sw_fold, lenI_ok])
        rw [h5]
        refine Gets.c (fun e => ?_) (fun e => ?_)
        · have e : ltL (nth l pv) (nth d i') = false := by simpa using e
          refine .l ⟨by omega, by omega, fun k k1 k2 => ?_⟩ (by omega)
          by_cases e2 : k = i'
          · subst e2; exact e
          · exact g3 k k1 (by omega)
        · have e : ltL (nth l pv) (nth d i') = true := by simpa using e
          exact .r ⟨g1, g2, g3, fun _ => e⟩
      · (simp (disch := first | omega | assumption | (simp only [List.length_set, sw_len]; omega)) only [idx_nth, addI_ok, subI_ok, mulI_ok, quoI_ok, bind_s, gb_true, gb_false, cond_t, cond_f, dt_, df_, Bool.true_and, Bool.false_and, Bool.not_true, Bool.not_false, el2, el3, el4, elS_inl, elS_inr, lessP, lex_lt, sw_fold, lenI_ok])
        exact .r ⟨g1, g2, g3, fun h => absurd h c⟩
    obtain ⟨g1, g2, g3, g4⟩ := hi
    refine Gets.b (Gets.loop (I := fun j' => i' ≤ j' + 1 ∧ j' ≤ j) (μ := fun j' => (j' - a).toNat) (R := fun j' => i' ≤ j' + 1 ∧ j' ≤ j ∧ (i' ≤ j' → ltL (nth l pv) (nth d j') = false)) (fun j' hj => ?_) ⟨by omega, Int.le_refl _⟩ (by omega)) (fun j' hj => ?_)
    · obtain ⟨k1, k2⟩ := hj
      unfold slices_partitionEqualCmpFunc_api_Prefix_l3
      by_cases c : i' ≤ j'
      · (simp (disch := first | omega | assumption | (simp only [List.length_set, sw_len]; omega)) only [idx_nth, addI_ok, subI_ok, mulI_ok, quoI_ok, bind_s, gb_true, gb_false, cond_t, cond_f, dt_, df_, Bool.true_and, Bool.false_and, Bool.not_true, Bool.not_false, el2, el3, el4, elS_inl, elS_inr, lessP, lex_lt, sw_fold, lenI_ok])
        rw [h5]
        refine Gets.c (fun e => ?_) (fun e => ?_)
        · exact .l ⟨by omega, by omega⟩ (by omega)
        · exact .r ⟨k1, k2, fun _ => e⟩
      · (simp (disch := first | omega | assumption | (simp only [List.length_set, sw_len]; omega)) only [idx_nth, addI_ok, subI_ok, mulI_ok, quoI_ok, bind_s, gb_true, gb_false, cond_t, cond_f, dt_, df_, Bool.true_and, Bool.false_and, Bool.not_true, Bool.not_false, el2, el3, el4, elS_inl, elS_inr, lessP, lex_lt, sw_fold, lenI_ok])
        exact .r ⟨k1, k2, fun h => absurd h c⟩
    obtain ⟨k1, k2, k3⟩ := hj
    by_cases c : i' > j'
    · (simp (disch := first | omega | assumption | (simp only [List.length_set, sw_len]; omega)) only [idx_nth, addI_ok, subI_ok, mulI_ok, quoI_ok, bind_s, gb_true, gb_false, cond_t, cond_f, dt_, df_, Bool.true_and, Bool.false_and, Bool.not_true, Bool.not_false, el2, el3, el4, elS_inl, elS_inr, lessP, lex_lt, sw_fold, lenI_ok])
      refine .r ⟨by dsimp only; omega, by dsimp only; omega, h4, fun p q m1 m2 m3 m4 => ?_⟩
      dsimp only at *
      obtain ⟨k, n1, n2, n3⟩ := h4.src q (by omega) m3
      rw [n3]
      exact weakP.tr _ _ _ (g3 p m1 m4) (hmin k n1 n2)
    · have hne : i' ≠ j' := fun h => by
        have e1 := g4 (by omega)
        have e2 := k3 (by omega)
        rw [h, e2] at e1; cases e1
      (simp (disch := first | omega | assumption | (simp only [List.length_set, sw_len]; omega)) only [idx_nth, addI_ok, subI_ok, mulI_ok, quoI_ok, bind_s, gb_true, gb_false, cond_t, cond_f, dt_, df_, Bool.true_and, Bool.false_and, Bool.not_true, Bool.not_false, el2, el3, el4, elS_inl, elS_inr, lessP, lex_lt, sw_fold, lenI_ok])
      have hs : ∀ k, 0 ≤ k → nth (sw d j' i') k = if k = j' then nth d i' else if k = i' then nth d j' else nth d k := fun k hk => nth_sw (by omega) (by omega) (by omega) (by omega) hk
      refine .l ⟨by dsimp only; omega, by dsimp only; omega, by dsimp only; omega, h4.tr (.sw h0 (by omega) (by omega) (by omega) (by omega) (by omega)), ?_, fun k m1 m2 => ?_⟩ (by dsimp only; omega)
      · dsimp only
        rw [hs a h0, if_neg (by omega), if_neg (by omega), h5]
      · dsimp only at *
        rw [hs k (by omega), if_neg (by omega)]
        by_cases e : k = i'
        · rw [if_pos e]; exact k3 (by omega)
        · rw [if_neg e]; exact g3 k m1 (by omega)
  · obtain ⟨i, d⟩ := o
    show Gets (some (i, d)) _
    exact .s ho
theorem ptn_fin {l d : List Prefix} {a b j : Int} (h0 : 0 ≤ a) (hb : b ≤ l.length) (h1 : a ≤ j) (h2 : j < b) (hS : Same l d a b) (hlo : ∀ k, a < k → k ≤ j → ltL (nth d a) (nth d k) = false) (hhi : ∀ k, j < k → k < b → ltL (nth d k) (nth d a) = false) : a ≤ j ∧ j < b ∧ Same l (sw d a j) a b ∧ (∀ k, a ≤ k → k < j → ltL (nth (sw d a j) j) (nth (sw d a j) k) = false) ∧ (∀ k, j < k → k < b → ltL (nth (sw d a j) k) (nth (sw d a j) j) = false) := by
  have hL := hS.len
  have hs : ∀ k, 0 ≤ k → nth (sw d a j) k = if k = a then nth d j else if k = j then nth d a else nth d k := fun k hk => nth_sw (by omega) (by omega) (by omega) (by omega) hk
  have hj : nth (sw d a j) j = nth d a := by
    rw [hs j (by omega)]
    split
    · rename_i e; rw [e]
    · rw [if_pos rfl]
  refine ⟨h1, h2, hS.tr (.sw h0 (by omega) (by omega) (by omega) (by omega) (by omega)), fun k k1 k2 => ?_, fun k k1 k2 => ?_⟩
  · rw [hj, hs k (by omega)]
    by_cases e : k = a
    · rw [if_pos e]; exact hlo j (by omega) (Int.le_refl _)
    · rw [if_neg e, if_neg (by omega)]; exact hlo k (by omega) (by omega)
  · rw [hj, hs k (by omega), if_neg (by omega), if_neg (by omega)]
    exact hhi k k1 k2
end Go.Proofs.Ytpknphecmahkaaa.Tr
namespace Go.Proofs.Ytpknphecmahkaaa.Tr
open Go
set_option maxHeartbeats 1000000
theorem ptn_get {l : List Prefix} {a b pv : Int} (hA : AllPM l) (h0 : 0 ≤ a) (hp : a ≤ pv) (hp2 : pv < b) (hb : b ≤ l.length) (hl : (l.length : Int) ≤ 281474976710656) : Gets (slices_partitionCmpFunc_api_Prefix l a b pv cmpP) (fun r => a ≤ r.1 ∧ r.1 < b ∧ Same l r.2.2 a b ∧ (∀ k, a ≤ k → k < r.1 → ltL (nth r.2.2 r.1) (nth r.2.2 k) = false) ∧ (∀ k, r.1 < k → k < b → ltL (nth r.2.2 k) (nth r.2.2 r.1) = false)) := by
  unfold slices_partitionCmpFunc_api_Prefix
  simp (disch := first | omega | (simp only [List.length_set, sw_len]; omega)) only [idx_nth, addI_ok, subI_ok, bind_s, sw_fold]
  have hW : Same l (sw l pv a) a b := .sw h0 hb (by omega) (by omega) (by omega) (by omega)
  have hL := hW.len
  have hAd := AllPM.same (by first | assumption | exact AllPM.sw (by assumption) (by omega) (by omega) (by omega) (by omega)) hW
  revert hW hL hAd
  generalize sw l pv a = d
  intro hW hL hAd
  refine Gets.b (Gets.loop (I := fun i' => a < i' ∧ i' ≤ b - 1 + 1 ∧ ∀ k, a < k → k < i' → ltL (nth d a) (nth d k) = false) (μ := fun i' => (b - i').toNat) (R := fun i' => a < i' ∧ i' ≤ b - 1 + 1 ∧ (∀ k, a < k → k < i' → ltL (nth d a) (nth d k) = false) ∧ (i' ≤ b - 1 → ltL (nth d i') (nth d a) = false)) (fun i' hi => ?_) ⟨by omega, by omega, fun k k1 k2 => by omega⟩ (by omega)) (fun i hi => ?_)
  · obtain ⟨g1, g2, g3⟩ := hi
    unfold slices_partitionCmpFunc_api_Prefix_l1
    by_cases c : i' ≤ b - 1
    · (simp (disch := first | omega | assumption | (simp only [List.length_set, sw_len]; omega)) only [idx_nth, addI_ok, subI_ok, mulI_ok, quoI_ok, bind_s, gb_true, gb_false, cond_t, cond_f, dt_, df_, Bool.true_and, Bool.false_and, Bool.not_true, Bool.not_false, el2, el3, el4, elS_inl, elS_inr, lessP, lex_lt, sw_fold, lenI_ok])
      refine Gets.c (fun e => ?_) (fun e => .r ⟨g1, g2, g3, fun _ => e⟩)
      refine .l ⟨by omega, by omega, fun k k1 k2 => ?_⟩ (by omega)
      by_cases e2 : k = i'
      · subst e2; exact weakP.asym _ _ e
      · exact g3 k k1 (by omega)
    · (simp (disch := first | omega | assumption | (simp only [List.length_set, sw_len]; omega)) only [idx_nth, addI_ok, subI_ok, mulI_ok, quoI_ok, bind_s, gb_true, gb_false, cond_t, cond_f, dt_, df_, Bool.true_and, Bool.false_and, Bool.not_true, Bool.not_false, el2, el3, el4, elS_inl, elS_inr, lessP, lex_lt, sw_fold, lenI_ok])
      exact .r ⟨g1, g2, g3, fun h => absurd h c⟩
  obtain ⟨g1, g2, g3, g4⟩ := hi
  refine Gets.b (Gets.loop (I := fun j' => i ≤ j' + 1 ∧ j' ≤ b - 1 ∧ ∀ k, j' < k → k < b → ltL (nth d k) (nth d a) = false) (μ := fun j' => (j' - a).toNat) (R := fun j' => i ≤ j' + 1 ∧ j' ≤ b - 1 ∧ (∀ k, j' < k → k < b → ltL (nth d k) (nth d a) = false) ∧ (i ≤ j' → ltL (nth d j') (nth d a) = true)) (fun j' hj => ?_) ⟨by omega, by omega, fun k k1 k2 => by omega⟩ (by omega)) (fun j hj => ?_)
  · obtain ⟨k1, k2, k3⟩ := hj
    unfold slices_partitionCmpFunc_api_Prefix_l2
    by_cases c : i ≤ j'
    · (simp (disch := first | omega | assumption | (simp only [List.length_set, sw_len]; omega)) only [idx_nth, addI_ok, subI_ok, mulI_ok, quoI_ok, bind_s, gb_true, gb_false, cond_t, cond_f, dt_, df_, Bool.true_and, Bool.false_and, Bool.not_true, Bool.not_false, el2, el3, el4, elS_inl, elS_inr, lessP, lex_lt, sw_fold, lenI_ok])
      refine Gets.c (fun e => ?_) (fun e => ?_)
      · have e : ltL (nth d j') (nth d a) = false := by simpa using e
        refine .l ⟨by omega, by omega, fun k m1 m2 => ?_⟩ (by omega)
        by_cases e2 : k = j'
        · subst e2; exact e
        · exact k3 k (by omega) m2
      · have e : ltL (nth d j') (nth d a) = true := by simpa using e
        exact .r ⟨k1, k2, k3, fun _ => e⟩
    · (simp (disch := first | omega | assumption | (simp only [List.length_set, sw_len]; omega)) only [idx_nth, addI_ok, subI_ok, mulI_ok, quoI_ok, bind_s, gb_true, gb_false, cond_t, cond_f, dt_, df_, Bool.true_and, Bool.false_and, Bool.not_true, Bool.not_false, el2, el3, el4, elS_inl, elS_inr, lessP, lex_lt, sw_fold, lenI_ok])
      exact .r ⟨k1, k2, k3, fun h => absurd h c⟩
  obtain ⟨k1, k2, k3, k4⟩ := hj
  by_cases c : i > j
  · (simp (disch := first | omega | assumption | (simp only [List.length_set, sw_len]; omega)) only [idx_nth, addI_ok, subI_ok, mulI_ok, quoI_ok, bind_s, gb_true, gb_false, cond_t, cond_f, dt_, df_, Bool.true_and, Bool.false_and, Bool.not_true, Bool.not_false, el2, el3, el4, elS_inl, elS_inr, lessP, lex_lt, sw_fold, lenI_ok])
    exact .s (ptn_fin h0 hb (by omega) (by omega) hW (fun k m1 m2 => g3 k m1 (by omega)) k3)
  simp (disch := first | omega | (simp only [List.length_set, sw_len]; omega)) only [idx_nth, addI_ok, subI_ok, bind_s, sw_fold, df_, cond_f]
  have stepS : ∀ {d : List Prefix} {i j : Int}, Same l d a b → a < i → j < b → i ≤ j → (∀ k, a < k → k < i → ltL (nth d a) (nth d k) = false) → (∀ k, j < k → k < b → ltL (nth d k) (nth d a) = false) → ltL (nth d i) (nth d a) = false → ltL (nth d j) (nth d a) = true → a < i + 1 ∧ j - 1 < b ∧ i + 1 ≤ j - 1 + 1 ∧ Same l (sw d j i) a b ∧ (∀ k, a < k → k < i + 1 → ltL (nth (sw d j i) a) (nth (sw d j i) k) = false) ∧ (∀ k, j - 1 < k → k < b → ltL (nth (sw d j i) k) (nth (sw d j i) a) = false) := by
    intro d i j hW h1 h2 h3 g3 k3 e1 e2
    have hL := hW.len
    have hAd := AllPM.same (by first | assumption | exact AllPM.sw (by assumption) (by omega) (by omega) (by omega) (by omega)) hW
    have hs : ∀ k, 0 ≤ k → nth (sw d j i) k = if k = j then nth d i else if k = i then nth d j else nth d k := fun k hk => nth_sw (by omega) (by omega) (by omega) (by omega) hk
    have hne : i ≠ j := fun h => by rw [h, e2] at e1; cases e1
    refine ⟨by omega, by omega, by omega, hW.tr (.sw h0 (by omega) (by omega) (by omega) (by omega) (by omega)), fun k m1 m2 => ?_, fun k m1 m2 => ?_⟩
    · rw [hs a h0, if_neg (by omega), if_neg (by omega), hs k (by omega), if_neg (by omega)]
      by_cases e : k = i
      · rw [if_pos e]; exact weakP.asym _ _ e2
      · rw [if_neg e]; exact g3 k m1 (by omega)
    · rw [hs a h0, if_neg (by omega), if_neg (by omega), hs k (by omega)]
      by_cases e : k = j
      · rw [if_pos e]; exact e1
      · rw [if_neg e, if_neg (by omega)]; exact k3 k (by omega) m2
  refine Gets.b (Gets.loop (I := fun s => a < s.1 ∧ s.2.1 < b ∧ s.1 ≤ s.2.1 + 1 ∧ Same l s.2.2 a b ∧ (∀ k, a < k → k < s.1 → ltL (nth s.2.2 a) (nth s.2.2 k) = false) ∧ (∀ k, s.2.1 < k → k < b → ltL (nth s.2.2 k) (nth s.2.2 a) = false)) (μ := fun s => (b - s.1).toNat) (R := fun r => a ≤ r.1 ∧ r.1 < b ∧ Same l r.2 a b ∧ (∀ k, a < k → k ≤ r.1 → ltL (nth r.2 a) (nth r.2 k) = false) ∧ (∀ k, r.1 < k → k < b → ltL (nth r.2 k) (nth r.2 a) = false)) (fun s hs => ?_) (stepS hW g1 (by omega) (by omega) g3 k3 (g4 (by omega)) (k4 (by omega))) (by dsimp only; omega)) (fun o ho => ?_)
  · clear g1 g2 g3 g4 k1 k2 k3 k4 c hW hL
    obtain ⟨i, j, d⟩ := s
    obtain ⟨h1, h2, h3, h4, h5, h6⟩ := hs
    dsimp only at *
    have hL := h4.len
    have hAd := AllPM.same (by first | assumption | exact AllPM.sw (by assumption) (by omega) (by omega) (by omega) (by omega)) h4
    unfold slices_partitionCmpFunc_api_Prefix_l3
    refine Gets.b (Gets.loop (I := fun i' => i ≤ i' ∧ i' ≤ j + 1 ∧ ∀ k, a < k → k < i' → ltL (nth d a) (nth d k) = false) (μ := fun i' => (b - i').toNat) (R := fun i' => i ≤ i' ∧ i' ≤ j + 1 ∧ (∀ k, a < k → k < i' → ltL (nth d a) (nth d k) = false) ∧ (i' ≤ j → ltL (nth d i') (nth d a) = false)) (fun i' hi => ?_) ⟨Int.le_refl _, h3, h5⟩ (by omega)) (fun i' hi => ?_)
    · obtain ⟨g1, g2, g3⟩ := hi
      unfold slices_partitionCmpFunc_api_Prefix_l4
      by_cases c : i' ≤ j
      · (simp (disch := first | omega | assumption | (simp only [List.length_set, sw_len]; omega)) only [idx_nth, addI_ok, subI_ok, mulI_ok, quoI_ok, bind_s, gb_true, gb_false, cond_t, cond_f, dt_, df_, Bool.true_and, Bool.false_and, Bool.not_true, Bool.not_false, el2, el3, el4, elS_inl, elS_inr, lessP, lex_lt, sw_fold, lenI_ok])
        refine Gets.c (fun e => ?_) (fun e => .r ⟨g1, g2, g3, fun _ => e⟩)
        refine .l ⟨by omega, by omega, fun k k1 k2 => ?_⟩ (by omega)
        by_cases e2 : k = i'
        · subst e2; exact weakP.asym _ _ e
        · exact g3 k k1 (by omega)
      · (simp (disch := first | omega | assumption | (simp only [List.length_set, sw_len]; omega)) only [idx_nth, addI_ok, subI_ok, mulI_ok, quoI_ok, bind_s, gb_true, gb_false, cond_t, cond_f, dt_, df_, Bool.true_and, Bool.false_and, Bool.not_true, Bool.not_false, el2, el3, el4, elS_inl, elS_inr, lessP, lex_lt, sw_fold, lenI_ok])
        exact .r ⟨g1, g2, g3, fun h => absurd h c⟩
    obtain ⟨g1, g2, g3, g4⟩ := hi
    refine Gets.b (Gets.loop (I := fun j' => i' ≤ j' + 1 ∧ j' ≤ j ∧ ∀ k, j' < k → k < b → ltL (nth d k) (nth d a) = false) (μ := fun j' => (j' - a).toNat) (R := fun j' => i' ≤ j' + 1 ∧ j' ≤ j ∧ (∀ k, j' < k → k < b → ltL (nth d k) (nth d a) = false) ∧ (i' ≤ j' → ltL (nth d j') (nth d a) = true)) (fun j' hj => ?_) ⟨by omega, Int.le_refl _, h6⟩ (by omega)) (fun j' hj => ?_)
    · obtain ⟨k1, k2, k3⟩ := hj
      unfold slices_partitionCmpFunc_api_Prefix_l5
      by_cases c : i' ≤ j'
      · (simp (disch := first | omega | assumption | (simp only [List.length_set, sw_len]; omega)) only [idx_nth, addI_ok, subI_ok, mulI_ok, quoI_ok, bind_s, gb_true, gb_false, cond_t, cond_f, dt_, df_, Bool.true_and, Bool.false_and, Bool.not_true, Bool.not_false, el2, el3, el4, elS_inl, elS_inr, lessP, lex_lt, sw_fold, lenI_ok])
        refine Gets.c (fun e => ?_) (fun e => ?_)
        · have e : ltL (nth d j') (nth d a) = false := by simpa using e
          refine .l ⟨by omega, by omega, fun k m1 m2 => ?_⟩ (by omega)
          by_cases e2 : k = j'
          · subst e2; exact e
          · exact k3 k (by omega) m2
        · have e : ltL (nth d j') (nth d a) = true := by simpa using e
          exact .r ⟨k1, k2, k3, fun _ => e⟩
      · (simp (disch := first | omega | assumption | (simp only [List.length_set, sw_len]; omega)) only [idx_nth, addI_ok, subI_ok, mulI_ok, quoI_ok, bind_s, gb_true, gb_false, cond_t, cond_f, dt_, df_, Bool.true_and, Bool.false_and, Bool.not_true, Bool.not_false, el2, el3, el4, elS_inl, elS_inr, lessP, lex_lt, sw_fold, lenI_ok])
        exact .r ⟨k1, k2, k3, fun h => absurd h c⟩
    obtain ⟨k1, k2, k3, k4⟩ := hj
    by_cases c : i' > j'
    · (simp (disch := first | omega | assumption | (simp only [List.length_set, sw_len]; omega)) only [idx_nth, addI_ok, subI_ok, mulI_ok, quoI_ok, bind_s, gb_true, gb_false, cond_t, cond_f, dt_, df_, Bool.true_and, Bool.false_and, Bool.not_true, Bool.not_false, el2, el3, el4, elS_inl, elS_inr, lessP, lex_lt, sw_fold, lenI_ok])
      exact .r ⟨by dsimp only; omega, by dsimp only; omega, h4, fun k m1 m2 => g3 k m1 (by dsimp only at m2; omega), k3⟩
    · (simp (disch := first | omega | assumption | (simp only [List.length_set, sw_len]; omega)) only [idx_nth, addI_ok, subI_ok, mulI_ok, quoI_ok, bind_s, gb_true, gb_false, cond_t, cond_f, dt_, df_, Bool.true_and, Bool.false_and, Bool.not_true, Bool.not_false, el2, el3, el4, elS_inl, elS_inr, lessP, lex_lt, sw_fold, lenI_ok])
      exact .l (stepS h4 (by omega) (by omega) (by omega) g3 k3 (g4 (by omega)) (k4 (by omega))) (by dsimp only; omega)
  · obtain ⟨j', d'⟩ := o
    obtain ⟨q1, q2, q3, q4, q5⟩ := ho
    have hL' := q3.len
    dsimp only at *
    (simp (disch := first | omega | assumption | (simp only [List.length_set, sw_len]; omega)) only [idx_nth, addI_ok, subI_ok, mulI_ok, quoI_ok, bind_s, gb_true, gb_false, cond_t, cond_f, dt_, df_, Bool.true_and, Bool.false_and, Bool.not_true, Bool.not_false, el2, el3, el4, elS_inl, elS_inr, lessP, lex_lt, sw_fold, lenI_ok])
    exact .s (ptn_fin h0 hb q1 q2 q3 q4 q5)
def Fr (l : List Prefix) (a0 a b b0 : Int) : Prop := ∀ p q, a0 ≤ p → p < q → q < b0 → (p < a ∨ b ≤ q) → ltL (nth l q) (nth l p) = false
theorem Fr.same {l l' : List Prefix} {a0 a b b0 : Int} (h : Fr l a0 a b b0) (g : Same l l' a b) (h0 : 0 ≤ a0) (h1 : a0 ≤ a) (h2 : b ≤ b0) : Fr l' a0 a b b0 := fun p q g1 g2 g3 g4 => by
  by_cases e : a ≤ p ∧ p < b
  · obtain ⟨k, k1, k2, k3⟩ := g.src p e.1 e.2
    rw [k3, g.out q (by omega) (by omega)]
    exact h k q (by omega) (by omega) g3 (by omega)
  · rw [g.out p (by omega) (by omega)]
    by_cases e2 : a ≤ q ∧ q < b
    · obtain ⟨k, k1, k2, k3⟩ := g.src q e2.1 e2.2
      rw [k3]
      exact h p k g1 (by omega) (by omega) (by omega)
    · rw [g.out q (by omega) (by omega)]
      exact h p q g1 g2 g3 g4
theorem Fr.srt {l : List Prefix} {a0 a b b0 : Int} (h : Fr l a0 a b b0) (g : Srt ltL l a b) : Srt ltL l a0 b0 := fun p q h1 h2 h3 => by
  by_cases e : p < a ∨ b ≤ q
  · exact h p q h1 h2 h3 e
  · exact g p q (by omega) h2 (by omega)
def Pre (l : List Prefix) (a b : Int) : Prop := ∀ k, 0 < a → a ≤ k → k < b → ltL (nth l k) (nth l (a - 1)) = false
theorem Pre.same {l l' : List Prefix} {a b : Int} (h : Pre l a b) (g : Same l l' a b) : Pre l' a b := fun k h1 h2 h3 => by
  obtain ⟨j, j1, j2, j3⟩ := g.src k h2 h3
  rw [j3, g.out (a - 1) (by omega) (by omega)]
  exact h j h1 j1 j2
theorem pdq_get : ∀ (n : Nat) {l : List Prefix} {a b lim : Int}, AllPM l → (b - a).toNat < n → 0 ≤ a → a ≤ b → b ≤ l.length → (l.length : Int) ≤ 281474976710656 → 0 ≤ lim → lim ≤ 64 → Pre l a b → Gets (slices_pdqsortCmpFunc_api_Prefix_n n l a b lim cmpP) (fun l' => Same l l' a b ∧ Srt ltL l' a b) := by
  intro n
  induction n with
  | zero => intro l a b lim hA h; omega
  | succ n ih =>
    intro l a b lim hA hn h0 hab hb hl hm0 hm1 hpre
    unfold slices_pdqsortCmpFunc_api_Prefix_n slices_pdqsortCmpFunc_api_Prefix_s
    refine Gets.loop (I := fun s => a ≤ s.1 ∧ s.1 ≤ s.2.1 ∧ s.2.1 ≤ b ∧ 0 ≤ s.2.2.1 ∧ s.2.2.1 ≤ 64 ∧ Same l s.2.2.2.2.2 a b ∧ Fr s.2.2.2.2.2 a s.1 s.2.1 b ∧ Pre s.2.2.2.2.2 s.1 s.2.1) (μ := fun s => (s.2.1 - s.1).toNat) (fun s hs => ?_) ⟨by dsimp only; omega, by dsimp only; omega, by dsimp only; omega, hm0, hm1, .rf, fun p q h1 h2 h3 h4 => by dsimp only at h4; omega, hpre⟩ (by dsimp only; omega)
    obtain ⟨a', b', lim, wb, wp, d⟩ := s
    obtain ⟨h1, h2, h3, h4, h5, h6, h7, h8⟩ := hs
    dsimp only at *
    have hL := h6.len
    have hAd := AllPM.same (by first | assumption | exact AllPM.sw (by assumption) (by omega) (by omega) (by omega) (by omega)) h6
    unfold slices_pdqsortCmpFunc_api_Prefix_l1
    have fin : ∀ {d' : List Prefix}, Same d d' a' b' → Srt ltL d' a' b' → Same l d' a b ∧ Srt ltL d' a b := fun g1 g2 => ⟨h6.tr (g1.up h0 h1 h3), (h7.same g1 h0 h1 h3).srt g2⟩
    rw [subI_ok (by omega) (by omega), bind_s]
    refine Gets.c (fun e => ?_) (fun e => ?_)
    · refine Gets.b (ins_get (by first | assumption | exact AllPM.sw (by assumption) (by omega) (by omega) (by omega) (by omega)) (by omega) h2 (by omega) (by omega)) (fun d' hd => ?_)
      rw [lenI_ok hd.1.len, bind_s]
      exact .r (fin hd.1 hd.2)
    have e := of_decide_eq_false e
    refine Gets.c (fun e0 => ?_) (fun e0 => ?_)
    · refine Gets.b (heap_get (by first | assumption | exact AllPM.sw (by assumption) (by omega) (by omega) (by omega) (by omega)) (by omega) (by omega) (by omega) (by omega)) (fun d' hd => ?_)
      rw [lenI_ok hd.1.len, bind_s]
      exact .r (fin hd.1 hd.2)
    have e0 := of_decide_eq_false e0
    refine Gets.b (P := fun o => 0 ≤ o.1 ∧ o.1 ≤ 64 ∧ Same d o.2 a' b') ?_ (fun o ho => ?_)
    · refine Gets.c (fun _ => ?_) (fun _ => .s ⟨h4, h5, .rf⟩)
      refine Gets.b (brk_get (by first | assumption | exact AllPM.sw (by assumption) (by omega) (by omega) (by omega) (by omega)) (by omega) h2 (by omega) (by omega)) (fun d' hd => ?_)
      rw [lenI_ok hd.len, bind_s, subI_ok (by omega) (by omega), bind_s]
      exact .s ⟨by dsimp only; omega, by dsimp only; omega, hd⟩
    obtain ⟨lim2, d1⟩ := o
    obtain ⟨m1, m2, m3⟩ := ho
    simp only [el2]
    have hL1 := m3.len
    have hAd := AllPM.same (by first | assumption | exact AllPM.sw (by assumption) (by omega) (by omega) (by omega) (by omega)) m3
    dsimp only at m1 m2 m3 hL1
    refine Gets.b (piv_get (by first | assumption | exact AllPM.sw (by assumption) (by omega) (by omega) (by omega) (by omega)) (by omega) (by omega) (by omega) (by omega)) (fun r hr => ?_)
    refine Gets.b (P := fun o => a' ≤ o.1 ∧ o.1 < b' ∧ Same d o.2.2 a' b') ?_ (fun o ho => ?_)
    · refine Gets.c (fun _ => ?_) (fun _ => .s ⟨hr.1, hr.2, m3⟩)
      refine Gets.b (rev_get (by first | assumption | exact AllPM.sw (by assumption) (by omega) (by omega) (by omega) (by omega)) (by omega) h2 (by omega) (by omega)) (fun d' hd => ?_)
      rw [lenI_ok hd.len, bind_s]
      (simp (disch := first | omega | assumption | (simp only [List.length_set, sw_len]; omega)) only [idx_nth, addI_ok, subI_ok, mulI_ok, quoI_ok, bind_s, gb_true, gb_false, cond_t, cond_f, dt_, df_, Bool.true_and, Bool.false_and, Bool.not_true, Bool.not_false, el2, el3, el4, elS_inl, elS_inr, lessP, lex_lt, sw_fold, lenI_ok])
      exact .s ⟨by dsimp only; omega, by dsimp only; omega, m3.tr hd⟩
    obtain ⟨pv, hint, d2⟩ := o
    obtain ⟨p1, p2, p3⟩ := ho
    simp only [el3]
    have hL2 := p3.len
    have hAd := AllPM.same (by first | assumption | exact AllPM.sw (by assumption) (by omega) (by omega) (by omega) (by omega)) p3
    dsimp only at p1 p2 p3 hL2
    refine Gets.b (P := Sum.elim (fun d3 => Same d d3 a' b') (fun d3 => Same d d3 a' b' ∧ Srt ltL d3 a' b')) ?_ (fun o ho => ?_)
    · refine Gets.c (fun _ => ?_) (fun _ => .s (show Same d d2 a' b' from p3))
      refine Gets.b (part_get (by first | assumption | exact AllPM.sw (by assumption) (by omega) (by omega) (by omega) (by omega)) (by omega) (by omega) (by omega) (by omega) (h8.same p3)) (fun r hr => ?_)
      rw [lenI_ok hr.1.len, bind_s]
      refine Gets.c (fun e => .s (show _ ∧ _ from ⟨p3.tr hr.1, hr.2 e⟩)) (fun e => .s (show Same _ _ _ _ from p3.tr hr.1))
    rcases o with d3 | d3
    · rw [elS_inl]
      have ho : Same d d3 a' b' := ho
      have hL3 := ho.len
      have hAd := AllPM.same (by first | assumption | exact AllPM.sw (by assumption) (by omega) (by omega) (by omega) (by omega)) ho
      have hF3 := h7.same ho h0 h1 h3
      have hP3 := h8.same ho
      have hS3 : Same l d3 a b := h6.tr (ho.up h0 h1 h3)
      have gt : decide (a' > 0) = true → 0 < a' := fun h => of_decide_eq_true h
      refine Gets.b (Gets.g (P := fun v => v = a' - 1) (fun c => .e (subI_ok (by omega) (by omega)))) (fun x39 h39 => ?_)
      refine Gets.b (Gets.g (P := fun v => v = nth d3 (a' - 1)) (fun c => by rw [h39 c, idx_nth (by have := gt c; omega) (by omega)]; exact .s rfl)) (fun x40 h40 => ?_)
      refine Gets.b (Gets.g (P := fun v => v = nth d3 pv) (fun c => by rw [idx_nth (by omega) (by omega)]; exact .s rfl)) (fun x41 h41 => ?_)
      refine Gets.b (Gets.g (P := fun v => v = lexI (nth d3 (a' - 1)) (nth d3 pv)) (fun c => by rw [h40 c, h41 c, lessP (by first | assumption | exact AllPM.sw (by assumption) (by omega) (by omega) (by omega) (by omega)) (by have := gt c; omega) (by omega) (by omega) (by omega)]; exact .s rfl)) (fun x42 h42 => ?_)
      refine Gets.c (fun ec => ?_) (fun _ => ?_)
      · rw [Bool.and_eq_true] at ec
        obtain ⟨c, ec⟩ := ec
        have ex : ltL (nth d3 (a' - 1)) (nth d3 pv) = false := by
          rw [h42 c, lex_lt] at ec; simpa using ec
        have c0 := gt c
        refine Gets.b (pteq_get (by first | assumption | exact AllPM.sw (by assumption) (by omega) (by omega) (by omega) (by omega)) (by omega) p1 p2 (by omega) (by omega) (fun k k1 k2 => weakP.tr _ _ _ ex (hP3 k c0 k1 k2))) (fun r hr => ?_)
        obtain ⟨r1, r2, r3, r4⟩ := hr
        rw [lenI_ok r3.len, bind_s]
        have hF4 := hF3.same r3 h0 h1 h3
        refine .l ⟨by dsimp only; omega, r2, h3, m1, m2, hS3.tr (r3.up h0 h1 h3), fun p q g1 g2 g3 g4 => ?_, fun k k1 k2 k3 => ?_⟩ (by dsimp only; omega)
        · dsimp only at *
          by_cases e : p < a' ∨ b' ≤ q
          · exact hF4 p q g1 g2 g3 e
          · exact r4 p q (by omega) g2 (by omega) (by omega)
        · dsimp only at *
          exact r4 (r.1 - 1) k (by omega) (by omega) k3 (by omega)
      · refine Gets.b (ptn_get (by first | assumption | exact AllPM.sw (by assumption) (by omega) (by omega) (by omega) (by omega)) (by omega) p1 p2 (by omega) (by omega)) (fun x hx => ?_)
        obtain ⟨mid, wq, d4⟩ := x
        obtain ⟨r1, r2, r3, r4, r5⟩ := hx
        dsimp only at *
        have hL4 := r3.len
        have hAd := AllPM.same (by first | assumption | exact AllPM.sw (by assumption) (by omega) (by omega) (by omega) (by omega)) r3
        rw [lenI_ok r3.len, bind_s, subI_ok (by omega) (by omega), bind_s, subI_ok (by omega) (by omega), bind_s, quoI_ok (by omega) (by omega), bind_s]
        have hF4 := hF3.same r3 h0 h1 h3
        have hP4 := hP3.same r3
        have hS4 := hS3.tr (r3.up h0 h1 h3)
        have hge : ∀ k, mid ≤ k → k < b' → ltL (nth d4 k) (nth d4 mid) = false := fun k k1 k2 => by
          by_cases e : k = mid
          · subst e; exact weakP.rf _
          · exact r5 k (by omega) k2
        refine Gets.c (fun _ => ?_) (fun _ => ?_)
        · refine Gets.b (ih (by first | assumption | exact AllPM.sw (by assumption) (by omega) (by omega) (by omega) (by omega)) (by omega) (by omega) r1 (by omega) (by omega) m1 m2 (fun k k1 k2 k3 => hP4 k k1 k2 (by omega))) (fun d5 hd => ?_)
          obtain ⟨s1, s2⟩ := hd
          rw [lenI_ok s1.len, bind_s, addI_ok (by omega) (by omega), bind_s]
          have s3 : Same d4 d5 a' b' := s1.up (by omega) (Int.le_refl _) (by omega)
          refine .l ⟨by dsimp only; omega, by dsimp only; omega, h3, m1, m2, hS4.tr (s3.up h0 h1 h3), fun p q g1 g2 g3 g4 => ?_, fun k k1 k2 k3 => ?_⟩ (by dsimp only; omega)
          · dsimp only at *
            by_cases e : p < a' ∨ b' ≤ q
            · exact (hF4.same s3 h0 h1 h3) p q g1 g2 g3 e
            · by_cases e2 : q < mid
              · exact s2 p q (by omega) g2 e2
              · rw [s1.out q (by omega) (by omega)]
                have t := hge q (by omega) (by omega)
                by_cases e3 : p < mid
                · obtain ⟨k, k1, k2, k3⟩ := s1.src p (by omega) e3
                  rw [k3]
                  exact weakP.tr _ _ _ (r4 k k1 k2) t
                · rw [s1.out p (by omega) (by omega)]
                  have : p = mid := by omega
                  subst this; exact t
          · dsimp only at *
            rw [s1.out k (by omega) (by omega), s1.out (mid + 1 - 1) (by omega) (by omega), show mid + 1 - 1 = mid by omega]
            exact hge k (by omega) k3
        · rw [addI_ok (by omega) (by omega), bind_s]
          refine Gets.b (ih (by first | assumption | exact AllPM.sw (by assumption) (by omega) (by omega) (by omega) (by omega)) (by omega) (by omega) (by omega) (by omega) (by omega) m1 m2 (fun k k1 k2 k3 => by rw [show mid + 1 - 1 = mid by omega]; exact hge k (by omega) k3)) (fun d5 hd => ?_)
          obtain ⟨s1, s2⟩ := hd
          rw [lenI_ok s1.len, bind_s]
          have s3 : Same d4 d5 a' b' := s1.up (by omega) (by omega) (Int.le_refl _)
          refine .l ⟨h1, r1, by dsimp only; omega, m1, m2, hS4.tr (s3.up h0 h1 h3), fun p q g1 g2 g3 g4 => ?_, fun k k1 k2 k3 => (hP4.same s3) k k1 k2 (by dsimp only at k3; omega)⟩ (by dsimp only; omega)
          dsimp only at *
          by_cases e : p < a' ∨ b' ≤ q
          · exact (hF4.same s3 h0 h1 h3) p q g1 g2 g3 e
          · by_cases e2 : mid < p
            · exact s2 p q (by omega) g2 (by omega)
            · rw [s1.out p (by omega) (by omega)]
              by_cases e3 : q = mid
              · rw [e3, s1.out mid (by omega) (by omega)]
                exact r4 p (by omega) (by omega)
              · obtain ⟨k, k1, k2, k3⟩ := s1.src q (by omega) (by omega)
                rw [k3]
                have t := hge k (by omega) k2
                by_cases e4 : p = mid
                · rw [e4]; exact t
                · exact weakP.tr _ _ _ (r4 p (by omega) (by omega)) t
    · rw [elS_inr]
      exact .r (fin ho.1 ho.2)
theorem sortP_get : ∀ l : List Prefix, l.length ≤ 1000 → (∀ p ∈ l, PM p) → Gets (slices_SortFunc_api_Prefix l (⟨split_order⟩ : F2 Try.prog Prefix Prefix Int)) (fun m => m.Perm l ∧ m.Pairwise fun a b => ¬ PL b a) := by
  intro l hl hA
  have hA : AllPM l := hA
  show Gets (slices_SortFunc_api_Prefix l cmpP) _
  unfold slices_SortFunc_api_Prefix
  refine Gets.b (len_get _) (fun k hk => ?_)
  unfold slices_pdqsortCmpFunc_api_Prefix
  refine Gets.b (pdq_get 18446744073709551616 hA (by omega) (by omega) (by omega) (Int.le_refl _) (by omega) hk.1 hk.2.1 (fun k h => by omega)) (fun l' h => ?_)
  rw [lenI_ok h.1.len, bind_s]
  refine .s ⟨h.1.perm, ?_⟩
  rw [List.pairwise_iff_getElem]
  intro i j hi hj hij
  have e := h.2 (i : Int) (j : Int) (by omega) (by omega) (by have := h.1.len; omega)
  rw [nth_get hi, nth_get hj] at e
  have e := of_decide_eq_false e
  exact fun h => e h.2.2
end Go.Proofs.Ytpknphecmahkaaa.Tr
namespace Go.Proofs.Ytpknphecmahkaaa.Tr
open Go Go.RowKit
set_option maxRecDepth 100000
set_option synthInstance.maxHeartbeats 400000
set_option synthInstance.maxSize 4096
def bywaylaw17_awake : Option Bool :=
  (some ((⟨(32 : Int), (8 : Int), ((Dat.z : (Vec UInt8 16)).set 0 (UInt8.ofNat 10))⟩ : Prefix) : Prefix)).bind fun p_3 => (some ((⟨(32 : Int), (10 : Int), ((Dat.z : (Vec UInt8 16)).set 0 (UInt8.ofNat 10))⟩ : Prefix) : Prefix)).bind fun q_4 => (split_Halves p_3).bind fun r_5 => (split_Whole r_5.2.1).bind fun r_8 => (split_Without p_3 q_4).bind fun r_10 => (split_Apart p_3 (10 : Int)).bind fun r_11 => (split_Range (32 : Int) ((Dat.z : (Vec UInt8 16)).set 0 (UInt8.ofNat 10)) (((((Dat.z : (Vec UInt8 16)).set 0 (UInt8.ofNat 10)).set 1 (UInt8.ofNat 255)).set 2 (UInt8.ofNat 255)).set 3 (UInt8.ofNat 255))).bind fun r_12 => (gb ((((((((((decide (r_5.2.2 = (0 : Int))) && (decide (r_5.1.Len = (9 : Int)))) && (decide (r_5.2.1.Key = (((Dat.z : (Vec UInt8 16)).set 0 (UInt8.ofNat 10)).set 1 (UInt8.ofNat 128))))) && (decide (r_8.2 = (0 : Int)))) && (decide (r_8.1 = p_3))) && (decide (r_10.2 = (0 : Int)))) && (decide ((r_10.1.length : Int) = (2 : Int)))) && (decide (r_11.2 = (0 : Int)))) && (decide ((r_11.1.length : Int) = (4 : Int)))) && (decide (r_12.2 = (0 : Int)))) (bywayref17_Same r_12.1 ([p_3] : List Prefix))).bind fun x_13 => (gb (((((((((((decide (r_5.2.2 = (0 : Int))) && (decide (r_5.1.Len = (9 : Int)))) && (decide (r_5.2.1.Key = (((Dat.z : (Vec UInt8 16)).set 0 (UInt8.ofNat 10)).set 1 (UInt8.ofNat 128))))) && (decide (r_8.2 = (0 : Int)))) && (decide (r_8.1 = p_3))) && (decide (r_10.2 = (0 : Int)))) && (decide ((r_10.1.length : Int) = (2 : Int)))) && (decide (r_11.2 = (0 : Int)))) && (decide ((r_11.1.length : Int) = (4 : Int)))) && (decide (r_12.2 = (0 : Int)))) && x_13) (split_Together ([r_5.2.1, r_5.1] : List Prefix))).bind fun x_14 => (gb (((((((((((decide (r_5.2.2 = (0 : Int))) && (decide (r_5.1.Len = (9 : Int)))) && (decide (r_5.2.1.Key = (((Dat.z : (Vec UInt8 16)).set 0 (UInt8.ofNat 10)).set 1 (UInt8.ofNat 128))))) && (decide (r_8.2 = (0 : Int)))) && (decide (r_8.1 = p_3))) && (decide (r_10.2 = (0 : Int)))) && (decide ((r_10.1.length : Int) = (2 : Int)))) && (decide (r_11.2 = (0 : Int)))) && (decide ((r_11.1.length : Int) = (4 : Int)))) && (decide (r_12.2 = (0 : Int)))) && x_13) (bywayref17_Same x_14 r_12.1)).bind fun x_15 => some ((((((((((((decide (r_5.2.2 = (0 : Int))) && (decide (r_5.1.Len = (9 : Int)))) && (decide (r_5.2.1.Key = (((Dat.z : (Vec UInt8 16)).set 0 (UInt8.ofNat 10)).set 1 (UInt8.ofNat 128))))) && (decide (r_8.2 = (0 : Int)))) && (decide (r_8.1 = p_3))) && (decide (r_10.2 = (0 : Int)))) && (decide ((r_10.1.length : Int) = (2 : Int)))) && (decide (r_11.2 = (0 : Int)))) && (decide ((r_11.1.length : Int) = (4 : Int)))) && (decide (r_12.2 = (0 : Int)))) && x_13) && x_15)
theorem bywaylaw17_awake_c {A : Nat → Prop}   {r : Bool} (w : World)  (hA : ∀ k, w.heap.size ≤ k → A k)   (H : bywaylaw17_awake = some r) :
    Calls Try.prog 7 #[] w (Ret A w (D (r : Bool))) := by
  unfold bywaylaw17_awake at H
  refine enter0 hA Try.func7 rfl Try.ntmps7 rfl  ?_; refine TC.seqS ?_; refine TS.s OpY.assign rfl ?_; refine TS.nil ?_; refine TE.then ?_; refine TC.kp [] [] ?_; refine TC.seqS ?_; refine TS.s (OpY.buildArr (ps := _) ((Dat.z : (Vec UInt8 16)).set 0 (UInt8.ofNat 10)) rfl Try.underlying23 rfl) rfl ?_; refine TS.s (OpY.buildAs (⟨(32 : Int), (8 : Int), ((Dat.z : (Vec UInt8 16)).set 0 (UInt8.ofNat 10))⟩ : Prefix) rfl ⟨_, Try.underlying25, by kernel_rfl⟩ rfl rfl) rfl ?_; refine TS.s (OpY.buildArr (ps := _) ((Dat.z : (Vec UInt8 16)).set 0 (UInt8.ofNat 10)) rfl Try.underlying23 rfl) rfl ?_; refine TS.s (OpY.buildAs (⟨(32 : Int), (10 : Int), ((Dat.z : (Vec UInt8 16)).set 0 (UInt8.ofNat 10))⟩ : Prefix) rfl ⟨_, Try.underlying25, by kernel_rfl⟩ rfl rfl) rfl ?_; refine TS.alloc (α := Prefix) rfl fun b1_0 => ?_; refine TS.alloc (α := Prefix) rfl fun b2_1 => ?_; refine TS.un (OpT.storeq (y := ((⟨(32 : Int), (8 : Int), ((Dat.z : (Vec UInt8 16)).set 0 (UInt8.ofNat 10))⟩ : Prefix) : Prefix)) Pl.one) ?_; refine TS.un (OpT.storeq (y := ((⟨(32 : Int), (10 : Int), ((Dat.z : (Vec UInt8 16)).set 0 (UInt8.ofNat 10))⟩ : Prefix) : Prefix)) Pl.one) ?_; refine TS.nil ?_; refine TE.then ?_; refine TC.kp [1, 2] [b1_0, b2_1] ?_
  obtain ⟨p_3, ep_3, H⟩ := bnd H
  refine TC.nmB b1_0 (nm_one ep_3) ?_
  obtain ⟨q_4, eq_4, H⟩ := bnd H
  refine TC.nmB b2_1 (nm_one eq_4) ?_; refine TC.seqS ?_; refine TS.s (OpD.ldq Pl.one) rfl ?_
  obtain ⟨r_5, er_5, H⟩ := bnd H
  refine TS.s (OpY.call1 fun w v0 hA h0 => split_Halves_c w v0 hA (toD h0) er_5) rfl ?_; refine TS.s OpY.move rfl ?_; refine TS.s (OpY.extract rfl) rfl ?_; refine TS.s (OpY.extract rfl) rfl ?_; refine TS.s (OpY.extract rfl) rfl ?_; refine TS.alloc (α := Prefix) rfl fun b3_5 => ?_; refine TS.alloc (α := Prefix) rfl fun b4_6 => ?_; refine TS.un (OpT.storeq (y := (r_5.1 : Prefix)) Pl.one) ?_; refine TS.un (OpT.storeq (y := (r_5.2.1 : Prefix)) Pl.one) ?_; refine TS.s OpY.assign rfl ?_; refine TS.nil ?_; refine TE.then ?_; refine TC.kp [1, 2, 3, 4, 5] [b1_0, b2_1, b3_5, b4_6] ?_; refine TC.seqS ?_; refine TS.s (OpD.ldq Pl.one) rfl ?_
  obtain ⟨r_8, er_8, H⟩ := bnd H
  refine TS.s (OpY.call1 fun w v0 hA h0 => split_Whole_c w v0 hA (toD h0) er_8) rfl ?_; refine TS.s OpY.move rfl ?_; refine TS.s (OpY.extract rfl) rfl ?_; refine TS.s (OpY.extract rfl) rfl ?_; refine TS.alloc (α := Prefix) rfl fun b6_8 => ?_; refine TS.un (OpT.storeq (y := (r_8.1 : Prefix)) Pl.one) ?_; refine TS.s OpY.assign rfl ?_; refine TS.nil ?_; refine TE.then ?_; refine TC.kp [1, 2, 3, 4, 5, 6, 7] [b1_0, b2_1, b3_5, b4_6, b6_8] ?_; refine TC.seqS ?_; refine TS.s (OpD.ldq Pl.one) rfl ?_; refine TS.s (OpD.ldq Pl.one) rfl ?_
  obtain ⟨r_10, er_10, H⟩ := bnd H
  refine TS.s (OpY.call2 fun w v0 v1 hA h0 h1 => split_Without_c w v0 v1 hA (toD h0) (toD h1) er_10) rfl ?_; refine TS.s OpY.move rfl ?_; refine TS.s (OpY.extract rfl) rfl ?_; refine TS.s (OpY.extract rfl) rfl ?_; refine TS.s OpY.assign rfl ?_; refine TS.s OpY.assign rfl ?_; refine TS.nil ?_; refine TE.then ?_; refine TC.kp [1, 3, 4, 5, 6, 7, 8, 9] [b1_0, b3_5, b4_6, b6_8] ?_; refine TC.seqS ?_; refine TS.s (OpD.ldq Pl.one) rfl ?_
  obtain ⟨r_11, er_11, H⟩ := bnd H
  refine TS.s (OpY.call2 fun w v0 v1 hA h0 h1 => split_Apart_c w v0 v1 hA (toD h0) (toD h1) er_11) rfl ?_; refine TS.s OpY.move rfl ?_; refine TS.s (OpY.extract rfl) rfl ?_; refine TS.s (OpY.extract rfl) rfl ?_; refine TS.s OpY.assign rfl ?_; refine TS.s OpY.assign rfl ?_; refine TS.nil ?_; refine TE.then ?_; refine TC.kp [1, 3, 4, 5, 6, 7, 8, 9, 10, 11] [b1_0, b3_5, b4_6, b6_8] ?_; refine TC.seqS ?_; refine TS.s (OpY.buildArr (ps := _) ((Dat.z : (Vec UInt8 16)).set 0 (UInt8.ofNat 10)) rfl Try.underlying23 rfl) rfl ?_; refine TS.s (OpY.buildArr (ps := _) (((((Dat.z : (Vec UInt8 16)).set 0 (UInt8.ofNat 10)).set 1 (UInt8.ofNat 255)).set 2 (UInt8.ofNat 255)).set 3 (UInt8.ofNat 255)) rfl Try.underlying23 rfl) rfl ?_
  obtain ⟨r_12, er_12, H⟩ := bnd H
  refine TS.s (OpY.call3 fun w v0 v1 v2 hA h0 h1 h2 => split_Range_c w v0 v1 v2 hA (toD h0) (toD h1) (toD h2) er_12) rfl ?_; refine TS.s OpY.move rfl ?_; refine TS.s (OpY.extract rfl) rfl ?_; refine TS.s (OpY.extract rfl) rfl ?_; refine TS.s OpY.assign rfl ?_; refine TS.s OpY.assign rfl ?_; refine TS.nil ?_; refine TE.then ?_; refine TC.kp [1, 3, 4, 5, 6, 7, 8, 9, 10, 11, 12, 13] [b1_0, b3_5, b4_6, b6_8] ?_; refine TC.seqS ?_; refine TS.s OpY.move rfl ?_; refine TS.s OpY.eql rfl ?_; refine TS.s OpY.move rfl ?_; refine TS.g 48 rfl (fun hg => OpY.fieldAddr) rfl ?_; refine TS.g 48 rfl (fun hg => (OpD.ldq (Pl.fld (off := 1) (α := Prefix) (β := Int) Pl.one))) rfl ?_; refine TS.g 48 rfl (fun hg => OpY.eql) rfl ?_; refine TS.s OpY.pickAnd rfl ?_; refine TS.s OpY.move rfl ?_; refine TS.g 53 rfl (fun hg => OpY.fieldAddr) rfl ?_; refine TS.g 53 rfl (fun hg => (OpD.ldq (Pl.fld (off := 2) (α := Prefix) (β := (Vec UInt8 16)) Pl.one))) rfl ?_; refine TS.g 53 rfl (fun hg => (OpY.buildArr (ps := _) (((Dat.z : (Vec UInt8 16)).set 0 (UInt8.ofNat 10)).set 1 (UInt8.ofNat 128)) rfl Try.underlying23 rfl)) rfl ?_; refine TS.g 53 rfl (fun hg => (OpY.eql_agg EqV_23 (by decide) EqG_23 rfl)) rfl ?_; refine TS.s OpY.pickAnd rfl ?_; refine TS.s OpY.move rfl ?_; refine TS.g 59 rfl (fun hg => OpY.move) rfl ?_; refine TS.g 59 rfl (fun hg => OpY.eql) rfl ?_; refine TS.s OpY.pickAnd rfl ?_; refine TS.s OpY.move rfl ?_; refine TS.g 63 rfl (fun hg => (OpD.ldq Pl.one)) rfl ?_; refine TS.g 63 rfl (fun hg => (OpD.ldq Pl.one)) rfl ?_; refine TS.g 63 rfl (fun hg => (OpY.eql_agg EqV_25 (by decide) EqG_25 rfl)) rfl ?_; refine TS.s OpY.pickAnd rfl ?_; refine TS.s OpY.move rfl ?_; refine TS.g 68 rfl (fun hg => OpY.move) rfl ?_; refine TS.g 68 rfl (fun hg => OpY.eql) rfl ?_; refine TS.s OpY.pickAnd rfl ?_; refine TS.s OpY.move rfl ?_; refine TS.g 72 rfl (fun hg => OpY.move) rfl ?_; refine TS.g 72 rfl (fun hg => OpD.len) rfl ?_; refine TS.g 72 rfl (fun hg => OpY.eql) rfl ?_; refine TS.s OpY.pickAnd rfl ?_; refine TS.s OpY.move rfl ?_; refine TS.g 77 rfl (fun hg => OpY.move) rfl ?_; refine TS.g 77 rfl (fun hg => OpY.eql) rfl ?_; refine TS.s OpY.pickAnd rfl ?_; refine TS.s OpY.move rfl ?_; refine TS.g 81 rfl (fun hg => OpY.move) rfl ?_; refine TS.g 81 rfl (fun hg => OpD.len) rfl ?_; refine TS.g 81 rfl (fun hg => OpY.eql) rfl ?_; refine TS.s OpY.pickAnd rfl ?_; refine TS.s OpY.move rfl ?_; refine TS.g 86 rfl (fun hg => OpY.move) rfl ?_; refine TS.g 86 rfl (fun hg => OpY.eql) rfl ?_; refine TS.s OpY.pickAnd rfl ?_; refine TS.s OpY.move rfl ?_; refine TS.g 90 rfl (fun hg => OpY.move) rfl ?_; refine TS.g 90 rfl (fun hg => (OpD.ldq Pl.one)) rfl ?_; refine TS.g 90 rfl (fun hg => (OpY.buildSlice [.tmp 92] rfl rfl (by decide))) rfl ?_
  obtain ⟨x_13, ex_13, H⟩ := bnd H
  refine TS.g 90 rfl (fun hg => (OpY.call2 fun w v0 v1 hA h0 h1 => bywayref17_Same_c w v0 v1 hA (toD h0) (toD h1) (gb_some ex_13 hg.h))) rfl ?_; refine TS.s OpY.pickAnd rfl ?_; refine TS.s OpY.move rfl ?_; refine TS.g 96 rfl (fun hg => (OpD.ldq Pl.one)) rfl ?_; refine TS.g 96 rfl (fun hg => (OpD.ldq Pl.one)) rfl ?_; refine TS.g 96 rfl (fun hg => (OpY.buildSlice [.tmp 97, .tmp 98] rfl rfl (by decide))) rfl ?_
  obtain ⟨x_14, ex_14, H⟩ := bnd H
  refine TS.g 96 rfl (fun hg => (OpY.call1 fun w v0 hA h0 => split_Together_c w v0 hA (toD h0) (gb_some ex_14 hg.h))) rfl ?_; refine TS.g 96 rfl (fun hg => OpY.move) rfl ?_
  obtain ⟨x_15, ex_15, H⟩ := bnd H
  refine TS.g 96 rfl (fun hg => (OpY.call2 fun w v0 v1 hA h0 h1 => bywayref17_Same_c w v0 v1 hA (toD h0) (toD h1) (gb_some ex_15 hg.h))) rfl ?_; refine TS.s OpY.pickAnd rfl ?_; refine TS.s OpY.assign rfl ?_; refine TS.nil ?_; refine TE.then ?_; refine TC.kp [0] [] ?_; refine TC.ret ?_
  obtain rfl := (Option.some.inj H)
  exact TE.ret1 rfl Cv.le
end Go.Proofs.Ytpknphecmahkaaa.Tr
namespace Go.Proofs.Ytpknphecmahkaaa.Tr
open Go
set_option maxRecDepth 100000
theorem split_awake_eq : bywaylaw17_awake = some true := by decide +kernel
def zP : Prefix := ⟨0, 0, Dat.z⟩
theorem Halves_eq (p : Prefix) : split_Halves p = some (if ¬ PM p then (zP, zP, 1) else if p.Len = p.Bits then (zP, zP, 6) else (loP p, hiP p, 0)) := by
  unfold split_Halves
  rw [key_May_eq, bind_s]
  by_cases h : PM p
  · rw [decide_eq_true h, Bool.not_true, cond_f, if_neg (fun g => g h)]
    by_cases h2 : p.Len = p.Bits
    · rw [decide_eq_true h2, cond_t, if_pos h2, bind_s, bind_s]; rfl
    · have := h.2.2.1
      rw [decide_eq_false h2, cond_f, if_neg h2, halves_eq h (by omega), bind_s]
  · rw [decide_eq_false h, Bool.not_false, cond_t, if_pos h, bind_s, bind_s]; rfl
theorem PM.small {p : Prefix} (h : PM p) : -9223372036854775807 ≤ p.Len ∧ p.Len ≤ 9223372036854775807 := by have := h.len; omega
theorem Whole_eq (p : Prefix) : split_Whole p = some (if ¬ PM p then (zP, 1) else if p.Len = 0 then (zP, 6) else (whP p, 0)) := by
  unfold split_Whole
  rw [key_May_eq, bind_s]
  by_cases h : PM p
  · rw [decide_eq_true h, Bool.not_true, cond_f, if_neg (fun g => g h)]
    by_cases h2 : p.Len = 0
    · rw [decide_eq_true h2, cond_t, if_pos h2, bind_s]; rfl
    · rw [decide_eq_false h2, cond_f, if_neg h2, whole_eq h.small, bind_s]
  · rw [decide_eq_false h, Bool.not_false, cond_t, if_pos h, bind_s]; rfl
def apN : Nat → Prefix → List Prefix
  | 0, p => [p]
  | k + 1, p => apN k (loP p) ++ apN k (hiP p)
theorem apN_flat : ∀ (k : Nat) (p : Prefix), apN (k + 1) p = (apN k p).flatMap fun x => [loP x, hiP x]
  | 0, p => rfl
  | k + 1, p => by
    rw [apN, apN_flat k, apN_flat k, ← List.flatMap_append]; rfl
theorem apN_length : ∀ (k : Nat) (p : Prefix), (apN k p).length = 2 ^ k
  | 0, p => rfl
  | k + 1, p => by rw [apN, List.length_append, apN_length k, apN_length k, Nat.pow_succ]; omega
theorem apN_mem : ∀ (k : Nat) {p : Prefix}, PM p → p.Len + k ≤ p.Bits → ∀ x ∈ apN k p, PM x ∧ x.Len = p.Len + k ∧ x.Bits = p.Bits
  | 0, p, h, hl, x, hx => by rw [apN, List.mem_singleton] at hx; subst hx; exact ⟨h, by omega, rfl⟩
  | k + 1, p, h, hl, x, hx => by
    rw [apN] at hx
    rcases List.mem_append.1 hx with hx | hx
    · obtain ⟨h1, h2, h3⟩ := apN_mem k (lo_PM h (by omega)) (by unfold loP; dsimp only; omega) x hx
      exact ⟨h1, by rw [h2]; unfold loP; dsimp only; omega, h3⟩
    · obtain ⟨h1, h2, h3⟩ := apN_mem k (hi_PM h (by omega)) (by unfold hiP; dsimp only; omega) x hx
      exact ⟨h1, by rw [h2]; unfold hiP; dsimp only; omega, h3⟩
theorem l2A_eq {l : List Prefix} (hl : l.length ≤ 1000) (hp : ∀ x ∈ l, PM x ∧ x.Len < x.Bits) : loopO (fun s => split_Apart_l2 l s.1 s.2) ((0 : Int), []) = some (l.flatMap fun x => [loP x, hiP x]) := by
  have hlen : ∀ m : List Prefix, (m.flatMap fun x => [loP x, hiP x]).length = 2 * m.length := fun m => by
    induction m with
    | nil => rfl
    | cons x m ih => rw [List.flatMap_cons, List.length_append, ih]; simp; omega
  refine loopO_iter (fun i => ((i : Int), (l.take i).flatMap fun x => [loP x, hiP x])) l.length (by omega) (fun i hi => ?_) ?_ rfl
  · unfold split_Apart_l2
    dsimp only
    obtain ⟨h1, h2⟩ := hp _ (List.getElem_mem hi)
    have hf := hlen (l.take i)
    rw [List.length_take, Nat.min_eq_left (by omega)] at hf
    rw [lt_t hi, cond_t, idx_nat hi, bind_s, halves_eq h1 h2, bind_s, room_ok (by omega) (by rw [hf]; simp only [List.length_cons, List.length_nil]; omega) (by rw [hf]; simp only [List.length_cons, List.length_nil]; omega), bind_s, bind_s, addI_1 (by omega), bind_s, List.take_succ_eq_append_getElem hi, List.flatMap_append, List.flatMap_singleton]
  · unfold split_Apart_l2
    dsimp only
    rw [lt_f, cond_f, List.take_length]
theorem Apart_eq (p : Prefix) (n : Int) : split_Apart p n = some (if ¬ (PM p ∧ p.Len ≤ n ∧ n ≤ p.Bits) then ([], 1) else if n - p.Len > 8 then ([], 3) else (apN (n - p.Len).toNat p, 0)) := by
  unfold split_Apart
  rw [key_May_eq, bind_s]
  by_cases h : PM p ∧ p.Len ≤ n ∧ n ≤ p.Bits
  · have hl := h.1.len
    rw [if_neg (fun g => g h), cond_false (by rw [decide_eq_true h.1, decide_eq_false (show ¬ n < p.Len by omega), decide_eq_false (show ¬ n > p.Bits by omega)]; rfl), subI_ok (by omega) (by omega), bind_s]
    by_cases h8 : n - p.Len > 8
    · rw [decide_eq_true h8, cond_t, if_pos h8]
    · rw [decide_eq_false h8, cond_f, if_neg h8, bind_s]
      obtain ⟨k, hk⟩ := Int.eq_ofNat_of_zero_le (show 0 ≤ n - p.Len by omega)
      rw [hk, Int.toNat_natCast]
      refine (bind_of (loopO_iter (f := fun s => split_Apart_l1 (k : Int) s.1 s.2) (fun i => (apN i p, (i : Int))) k (e := apN k p) (by omega) (fun i hi => ?_) ?_ rfl)).trans rfl
      · unfold split_Apart_l1
        dsimp only
        have hal := apN_length i p
        have h256 : 2 ^ i ≤ 2 ^ 8 := Nat.pow_le_pow_right (by omega) (by omega)
        rw [lt_t hi, cond_t, mulI_ok (by omega) (by omega), bind_s, room_ok (by omega) (by omega) (by omega), bind_s, cut_ok (by omega) (by omega) (by omega), bind_s, bind_s]
        rw [show ((List.replicate (Int.toNat (2 * ((apN i p).length : Int))) (Dat.z : Prefix)).take (Int.toNat (0 : Int))) = [] from List.take_zero, l2A_eq (by omega) (fun x hx => ?_), bind_s, addI_1 (by omega), bind_s, ← apN_flat]
        obtain ⟨h1, h2, h3⟩ := apN_mem i h.1 (by omega) x hx
        exact ⟨h1, by omega⟩
      · unfold split_Apart_l1
        dsimp only
        rw [lt_f, cond_f]
  · rw [if_pos h, cond_true (by
      simp only [Bool.or_eq_true, Bool.not_eq_true', decide_eq_true_eq, decide_eq_false_iff_not]
      by_cases h1 : PM p
      · by_cases h2 : n < p.Len
        · exact .inl (.inr h2)
        · right; exact Decidable.byContradiction fun h3 => h ⟨h1, by omega, by omega⟩
      · exact .inl (.inl h1))]
theorem Reverse_eq {l : List Prefix} (hl : l.length ≤ 100000) : slices_Reverse_api_Prefix l = some l.reverse := by
  unfold slices_Reverse_api_Prefix
  rw [subI_ok (by omega) (by omega), bind_s]
  refine (bind_of (Gets.eq (Gets.loop (fun s => ∃ i : Nat, s.1 = (i : Int) ∧ s.2.1 = (l.length : Int) - 1 - i ∧ 2 * i ≤ l.length + 1 ∧ s.2.2.length = l.length ∧ ∀ j, j < l.length → s.2.2[j]? = if i ≤ j ∧ j < l.length - i then l[j]? else l[l.length - 1 - j]?) (fun s => l.length - s.1.toNat) ?_ ⟨0, rfl, by simp, by omega, rfl, fun j hj => by rw [if_pos ⟨Nat.zero_le _, by omega⟩]⟩ (by dsimp only; omega)))).trans rfl
  rintro ⟨n, m, s⟩ ⟨i, e1, e2, hi, hs, h⟩
  dsimp only at e1 e2 hs h ⊢
  subst e1 e2
  unfold slices_Reverse_api_Prefix_l1
  by_cases hlt : (i : Int) < (l.length : Int) - 1 - i
  · have hj : (l.length : Int) - 1 - i = ((l.length - 1 - i : Nat) : Int) := by omega
    rw [decide_eq_true hlt, cond_t, hj, idx_nat (by omega), bind_s, idx_nat (by omega), bind_s, bind_s, idx_nat (by rw [List.length_set]; omega), bind_s, bind_s, addI_1 (by omega), bind_s, subI_ok (by omega) (by omega), bind_s, Int.toNat_natCast, Int.toNat_natCast]
    refine Gets.l ⟨i + 1, rfl, by dsimp only; omega, by omega, by dsimp only; rw [List.length_set, List.length_set, hs], fun j hjl => ?_⟩ (by dsimp only; omega)
    dsimp only
    have g1 := h i (by omega)
    have g2 := h (l.length - 1 - i) (by omega)
    rw [if_pos ⟨by omega, by omega⟩, List.getElem?_eq_getElem (by omega)] at g1 g2
    rw [List.getElem?_set, List.length_set]
    by_cases c1 : l.length - 1 - i = j
    · subst c1
      rw [if_pos rfl, if_pos (by omega), if_neg (by omega), g1]
      congr 1; omega
    · rw [if_neg c1, List.getElem?_set]
      by_cases c2 : i = j
      · subst c2
        rw [if_pos rfl, if_pos (by omega), if_neg (by omega), g2]
      · rw [if_neg c2, h j hjl]
        by_cases c3 : i ≤ j ∧ j < l.length - i
        · rw [if_pos c3, if_pos ⟨by omega, by omega⟩]
        · rw [if_neg c3, if_neg (by omega)]
  · rw [decide_eq_false hlt, cond_f]
    refine Gets.r ?_
    apply List.ext_getElem?
    intro j
    rcases Nat.lt_or_ge j l.length with hjl | hjl
    · rw [h j hjl, List.getElem?_reverse hjl]
      by_cases c3 : i ≤ j ∧ j < l.length - i
      · rw [if_pos c3]
        congr 1; omega
      · rw [if_neg c3]
    · rw [List.getElem?_eq_none (by omega), List.getElem?_eq_none (by rw [List.length_reverse]; omega)]
def wo (q : Prefix) : Nat → Prefix → List Prefix
  | 0, _ => []
  | k + 1, p => if PC (loP p) q then wo q k (loP p) ++ [hiP p] else loP p :: wo q k (hiP p)
theorem wo_length (q : Prefix) : ∀ (k : Nat) (p : Prefix), (wo q k p).length = k
  | 0, p => rfl
  | k + 1, p => by
    rw [wo]
    split
    · rw [List.length_append, wo_length q k]; rfl
    · rw [List.length_cons, wo_length q k]
theorem half_PC {p q : Prefix} (h : PC p q) (hl : p.Len < q.Len) : ¬ PC (loP p) q → PC (hiP p) q := fun hn => by
  have hb : p.Len < p.Bits := by have := h.2.1.2.2.1; have := h.2.2.1; omega
  rcases (half_inn h.1 hb (pa q)).1 (h.inn (inn_lo q)) with hi | hi
  · exact absurd (PC.of_sub (lo_PM h.1 hb) h.2.1 h.2.2.1 (by unfold loP; dsimp only; omega) hi) hn
  · exact PC.of_sub (hi_PM h.1 hb) h.2.1 h.2.2.1 (by unfold hiP; dsimp only; omega) hi
theorem Without_eq (p q : Prefix) : split_Without p q = some (if PC p q then (wo q (q.Len - p.Len).toNat p, 0) else ([], 1)) := by
  unfold split_Without
  rw [key_May_eq, bind_s, gb_of2 (key_May_eq _), bind_s, gb_of2 (key_Covers_eq _ _), bind_s]
  by_cases h : PC p q
  · have lp := h.1.len
    have lq := h.2.1.len
    have hle := h.2.2.2.1
    rw [if_pos h, cond_false (by rw [decide_eq_true h.1, decide_eq_true h.2.1, decide_eq_true h]; rfl)]
    have hloop : Gets (loopO (fun s => split_Without_l1 q s.1 s.2.1 s.2.2) ([], [], p)) (fun o => o.1 ++ o.2.reverse = wo q (q.Len - p.Len).toNat p ∧ o.2.length ≤ 128 ∧ o.1.length ≤ 128) := by
      refine Gets.loop (fun s => PC s.2.2 q ∧ p.Len ≤ s.2.2.Len ∧ s.1 ++ wo q (q.Len - s.2.2.Len).toNat s.2.2 ++ s.2.1.reverse = wo q (q.Len - p.Len).toNat p ∧ (s.1.length : Int) + s.2.1.length = s.2.2.Len - p.Len) (fun s => (q.Len - s.2.2.Len).toNat) ?_ ⟨h, Int.le_refl _, by simp, by simp⟩ (by dsimp only; omega)
      rintro ⟨a, b, x⟩ ⟨h1, h2, h3, h4⟩
      dsimp only at h1 h2 h3 h4 ⊢
      have lx := h1.1.len
      have hbx : x.Bits = q.Bits := h1.2.2.1
      unfold split_Without_l1
      by_cases hlt : x.Len < q.Len
      · have hlb : x.Len < x.Bits := by omega
        obtain ⟨k, hk⟩ : ∃ k : Nat, (q.Len - x.Len).toNat = k + 1 := ⟨(q.Len - x.Len).toNat - 1, by omega⟩
        rw [hk, wo] at h3
        rw [decide_eq_true hlt, cond_t, halves_eq h1.1 hlb, bind_s, key_Covers_eq, bind_s]
        by_cases hc : PC (loP x) q
        · rw [decide_eq_true hc, cond_t, room_ok (by omega) (by simp only [List.length_singleton]; omega) (by simp only [List.length_singleton]; omega), bind_s, bind_s]
          rw [if_pos hc] at h3
          refine Gets.l ⟨hc, by unfold loP; dsimp only; omega, ?_, by unfold loP; dsimp only; simp; omega⟩ (by unfold loP; dsimp only; omega)
          dsimp only
          rw [show (q.Len - (loP x).Len).toNat = k by unfold loP; dsimp only; omega, ← h3]
          simp
        · rw [decide_eq_false hc, cond_f, room_ok (by omega) (by simp only [List.length_singleton]; omega) (by simp only [List.length_singleton]; omega), bind_s, bind_s]
          rw [if_neg hc] at h3
          refine Gets.l ⟨half_PC h1 hlt hc, by unfold hiP; dsimp only; omega, ?_, by unfold hiP; dsimp only; simp; omega⟩ (by unfold hiP; dsimp only; omega)
          dsimp only
          rw [show (q.Len - (hiP x).Len).toNat = k by unfold hiP; dsimp only; omega, ← h3]
          simp
      · rw [decide_eq_false hlt, cond_f]
        have := h1.2.2.2.1
        rw [show (q.Len - x.Len).toNat = 0 by omega, wo, List.append_nil] at h3
        exact Gets.r ⟨h3, by dsimp only; omega, by dsimp only; omega⟩
    obtain ⟨⟨a, b⟩, e, h1, h2, h3⟩ := hloop
    dsimp only at h1 h2 h3
    rw [e, bind_s, el2_at, Reverse_eq (by omega), bind_s, lenI_ok (by simp), bind_s, room_ok (by omega) (by rw [List.length_reverse]; omega) (by rw [List.length_reverse]; omega), bind_s, bind_s, h1]
  · rw [if_neg h, cond_true]
    by_cases h1 : PM p
    · by_cases h2 : PM q
      · rw [decide_eq_true h1, decide_eq_true h2, decide_eq_false h]; rfl
      · rw [decide_eq_true h1, decide_eq_false h2]; rfl
    · rw [decide_eq_false h1]; rfl
end Go.Proofs.Ytpknphecmahkaaa.Tr
namespace Go.Proofs.Ytpknphecmahkaaa.Tr
open Go Go.RowKit
set_option maxRecDepth 100000
set_option synthInstance.maxHeartbeats 400000
set_option synthInstance.maxSize 4096
theorem split_Together_o {A : Nat → Prop} {l0 : (List Prefix)}  {r : (List Prefix)} (w : World) (v0 : Value) (hA : ∀ k, w.heap.size ≤ k → A k) (hO : OwnIn A []) (hap : Apart []) (hks : Pks (Pub A []) [] w) (h0 : (D (l0 : (List Prefix))).p (Pub A []) w v0) (H : split_Together l0 = some r) :
    Calls Try.prog 13 #[v0] w (RetO A w [] (fun g : Nat × Prop × Nat => Sl g.1 g.2.1 0 (List.length r) g.2.2) fun g => [⟨g.1, g.2.1, Row (r : List Prefix) g.2.2⟩]) := by
  unfold split_Together at H
  refine enterO1 hA hap hks Try.func13 rfl Try.ntmps13 rfl h0 ?_; refine TC.seqS ?_; refine TS.s OpY.assign rfl ?_; refine TS.nil ?_; refine TE.then ?_; refine TC.kp [0] [] ?_; refine TC.seq ?_; refine TC.seqS ?_; refine TS.s OpY.move rfl ?_; refine TS.s OpD.len rfl ?_; refine TS.s OpY.gtr rfl ?_; refine TS.nil ?_; refine TE.then ?_; refine TC.kp [0, 12] [] ?_; refine TC.cond (fun hc => ?_) (fun hc => ?_)
  · replace H := cT H hc
    refine TC.seqS ?_; refine TS.s OpY.assign rfl ?_; refine TS.nil ?_; refine TE.then ?_; refine TC.kp [2] [] ?_; refine TC.ret ?_; refine TE.then_ret ?_
    obtain rfl := (Option.some.inj H)
    exact TE.retO1 rfl ⟨0, False, 0⟩ NilS.sl0 (Less.nilRow (Less.nil _))
  · replace H := cF H hc
    refine TC.skip ?_; refine TE.then ?_; refine TC.kp [0] [] ?_; refine TC.seqS ?_; refine TS.s OpY.assign rfl ?_; refine TS.nil ?_; refine TE.then ?_; refine TC.kp [0, 3] [] ?_; refine TC.seq ?_; refine TC.seqS ?_; refine TS.s OpY.move rfl ?_; refine TS.s OpD.len rfl ?_; refine TS.s OpY.move rfl ?_; refine TS.nil ?_; refine TE.then ?_; refine TC.kp [3, 13, 14, 15] [] ?_
    obtain ⟨o_3, H3, H⟩ := bnd H
    refine TC.cutP (fun s : (List Prefix) => o_3 = s) (fun (sorted_2 : (List Prefix)) (⟨b_0, p_0, c_0⟩ : Nat × Prop × Nat) => (Env.set Env.nil 3 (Sl b_0 p_0 0 sorted_2.length c_0))) (fun (sorted_2 : (List Prefix)) (⟨b_0, p_0, c_0⟩ : Nat × Prop × Nat) => [⟨b_0, p_0, (Row (sorted_2 : List Prefix) c_0)⟩]) ?_ ?_
    · skip
      refine TC.block ?_; refine TC.loopP H3 (fun ⟨x_4, sorted_6⟩ (⟨b_4, p_4, c_4⟩ : Nat × Prop × Nat) => (Env.set (Env.set (Env.set (Env.set Env.nil 3 (Sl b_4 p_4 0 sorted_6.length c_4)) 13 (D (l0 : (List Prefix)))) 14 (D ((l0.length : Int) : Int))) 15 (D (x_4 : Int)))) (fun ⟨x_4, sorted_6⟩ (⟨b_4, p_4, c_4⟩ : Nat × Prop × Nat) => [⟨b_4, p_4, (Row (sorted_6 : List Prefix) c_4)⟩]) ⟨0, False, 0⟩ (Env.cv (Env.cv (Env.cv (Env.cvBy NilS.sl0 (Env.le_nil _))))) (Less.nilRow (Less.nil _)) ?_
      rintro ⟨x_4, sorted_6⟩ ⟨b_4, p_4, c_4⟩ x_7 H7 he7
      replace H7 : split_Together_l1 l0 x_4 sorted_6 = some x_7 := H7
      unfold split_Together_l1 at H7
      refine TC.seqS ?_; refine TS.s OpY.lss rfl ?_; refine TS.nil ?_; refine TE.then ?_; refine TC.kp [3, 13, 14, 15, 16] [b_4] ?_; refine TC.seq ?_; refine TC.cond (fun hc => ?_) (fun hc => ?_)
      · replace H7 := cT H7 hc
        refine TC.skip ?_; refine TE.then ?_; refine TC.kp [3, 13, 14, 15] [b_4] ?_; refine TC.seq ?_
        obtain ⟨o_10, H10, H7⟩ := bnd H7
        refine TC.cutP (fun s : (List Prefix) => o_10 = s) (fun (sorted_9 : (List Prefix)) (⟨b_7, p_7, c_7⟩ : Nat × Prop × Nat) => (Env.set (Env.set (Env.set (Env.set Env.nil 3 (Sl b_7 p_7 0 sorted_9.length c_7)) 13 (D (l0 : (List Prefix)))) 14 (D ((l0.length : Int) : Int))) 15 (D (x_4 : Int)))) (fun (sorted_9 : (List Prefix)) (⟨b_7, p_7, c_7⟩ : Nat × Prop × Nat) => [⟨b_7, p_7, (Row (sorted_9 : List Prefix) c_7)⟩]) ?_ ?_
        · skip
          refine TC.block ?_; refine TC.seqS ?_
          obtain ⟨x_11, ex_11, H10⟩ := bnd H10
          refine TS.s (OpD.index ex_11) rfl ?_; refine TS.s OpY.load rfl ?_; refine TS.alloc (α := Prefix) rfl fun b5_11 => ?_; refine TS.un (OpT.storeq (y := (x_11 : Prefix)) Pl.one) ?_; refine TS.nil ?_; refine TE.then ?_; refine TC.kp [3, 5, 13, 14, 15] [b_4, b5_11] ?_; refine TC.seqS ?_; refine TS.s (OpD.ldq Pl.one) rfl ?_
          obtain ⟨x_13, ex_13, H10⟩ := bnd H10
          refine TS.s (OpY.call1 fun w v0 hA h0 => key_May_c w v0 hA (toD h0) ex_13) rfl ?_; refine TS.nil ?_; refine TE.then ?_; refine TC.kp [3, 5, 13, 14, 15, 20] [b_4, b5_11] ?_; refine TC.cond (fun hc => ?_) (fun hc => ?_)
          · replace H10 := cT H10 hc
            refine TC.regionS ?_; refine TS.s OpY.move rfl ?_; refine TS.s (OpD.ldq Pl.one) rfl ?_; refine TS.s (OpY.buildSlice [.tmp 22] rfl rfl (by decide)) rfl ?_
            obtain ⟨u_15, eu_15, H10⟩ := bnd H10
            refine TS.app (ys := ([x_11] : List Prefix)) inferInstance eu_15 rfl rfl rfl fun b24_13 p24_13 c24_13 => ?_; refine TS.s OpY.assign rfl ?_; refine TS.nil ?_; refine TE.kp [3, 13, 14, 15] [b24_13] ?_
            obtain ⟨l_16, el_16, H10⟩ := bnd H10
            refine TE.nmB b24_13 (nm_row el_16) ?_; refine TE.see 3 _ (nm_sl2 el_16 rfl) ?_; refine TE.inBlock_normal ?_; exact TE.cutP l_16 ⟨b24_13, p24_13, c24_13⟩ (Option.some.inj H10).symm (Env.cv (Env.cv (Env.cv (Env.cvBy (Sl_le rfl) (Env.le_nil _))))) (Less.pk rfl (Less.nil _))
          · replace H10 := cF H10 hc
            refine TC.skip ?_; refine TE.inBlock_normal ?_; exact TE.cutP sorted_6 ⟨b_4, p_4, c_4⟩ (Option.some.inj H10).symm (Env.cv (Env.cv (Env.cv (Env.cvBy (Sl_le rfl) (Env.le_nil _))))) (Less.pk rfl (Less.nil _))
        rintro sorted_9 ⟨b_7, p_7, c_7⟩ hp
        replace hp := hp.symm
        subst hp
        refine TE.then ?_; refine TC.kp [3, 13, 14, 15] [b_7] ?_; refine TC.regionS ?_
        obtain ⟨x_17, ex_17, H7⟩ := bnd H7
        refine TS.s (OpD.add ex_17) rfl ?_; refine TS.s OpY.move rfl ?_; refine TS.nil ?_; refine TE.kp [3, 13, 14, 15] [b_7] ?_; exact TE.backP ⟨x_17, sorted_9⟩ ⟨b_7, p_7, c_7⟩ (Option.some.inj H7).symm (Env.cv (Env.cv (Env.cv (Env.cvBy (Sl_le rfl) (Env.le_nil _))))) (Less.pk rfl (Less.nil _))
      · replace H7 := cF H7 hc
        refine TC.exit ?_; refine TE.then_exit ?_; refine TE.then_exit ?_; refine TE.inBlock_here ?_; exact TE.cutP sorted_6 ⟨b_4, p_4, c_4⟩ (he7 _ (Option.some.inj H7).symm).symm (Env.cvBy (Sl_le rfl) (Env.le_nil _)) (Less.pk rfl (Less.nil _))
    rintro sorted_2 ⟨b_0, p_0, c_0⟩ hp
    replace hp := hp.symm
    subst hp
    refine TE.then ?_; refine TC.kp [3] [b_0] ?_; refine TC.seqS ?_; refine TS.s OpY.move rfl ?_
    obtain ⟨x_18, ex_18, H⟩ := bnd H
    refine TS.t (OpT.callO2 [b_0] fun w v0 v1 hA hO hap hks h0 h1 => slices_SortFunc_api_Prefix_o w v0 v1 hA hO hap hks (slD rfl h0) (toD h1) ex_18) rfl fun _ => ?_; dsimp only [List.cons_append, List.nil_append]
    obtain ⟨u_20, eu_20, H⟩ := bnd H
    refine TS.nil ?_; refine TE.then ?_; refine TC.kp [3] [b_0] ?_; refine TC.seqS ?_; refine TS.s OpY.assign rfl ?_; refine TS.nil ?_; refine TE.then ?_; refine TC.kp [3, 6] [b_0] ?_; refine TC.seq ?_; refine TC.seqS ?_; refine TS.s OpY.move rfl ?_; refine TS.s (OpD.lenSv (n := x_18.length) (lenI_eq eu_20)) rfl ?_; refine TS.s OpY.move rfl ?_; refine TS.nil ?_; refine TE.then ?_; refine TC.kp [6, 28, 29, 30] [b_0] ?_
    obtain ⟨o_23, H23, H⟩ := bnd H
    refine TC.cutP (fun s : (List Prefix) => o_23 = s) (fun (told_22 : (List Prefix)) (⟨b_20, p_20, c_20⟩ : Nat × Prop × Nat) => (Env.set Env.nil 6 (Sl b_20 p_20 0 told_22.length c_20))) (fun (told_22 : (List Prefix)) (⟨b_20, p_20, c_20⟩ : Nat × Prop × Nat) => [⟨b_20, p_20, (Row (told_22 : List Prefix) c_20)⟩]) ?_ ?_
    · skip
      refine TC.block ?_; refine TC.loopP H23 (fun ⟨x_24, told_26⟩ (⟨b_24, p_24, c_24⟩ : Nat × Prop × Nat) => (Env.set (Env.set (Env.set (Env.set Env.nil 6 (Sl b_24 p_24 0 told_26.length c_24)) 28 (Sl b_0 p_0 0 x_18.length c_0)) 29 (D ((x_18.length : Int) : Int))) 30 (D (x_24 : Int)))) (fun ⟨x_24, told_26⟩ (⟨b_24, p_24, c_24⟩ : Nat × Prop × Nat) => [⟨b_24, p_24, (Row (told_26 : List Prefix) c_24)⟩, ⟨b_0, p_0, (Row (x_18 : List Prefix) c_0)⟩]) ⟨0, False, 0⟩ (Env.cv (Env.cv (Env.cvBy (Sl_le (lenI_eq eu_20)) (Env.cvBy NilS.sl0 (Env.le_nil _))))) (Less.nilRow (Less.pk rfl (Less.nil _))) ?_
      rintro ⟨x_24, told_26⟩ ⟨b_24, p_24, c_24⟩ x_27 H27 he27
      replace H27 : split_Together_l2 x_18 x_24 told_26 = some x_27 := H27
      unfold split_Together_l2 at H27
      refine TC.seqS ?_; refine TS.s OpY.lss rfl ?_; refine TS.nil ?_; refine TE.then ?_; refine TC.kp [6, 28, 29, 30, 31] [b_24, b_0] ?_; refine TC.seq ?_; refine TC.cond (fun hc => ?_) (fun hc => ?_)
      · replace H27 := cT H27 hc
        refine TC.skip ?_; refine TE.then ?_; refine TC.kp [6, 28, 29, 30] [b_24, b_0] ?_; refine TC.seq ?_
        obtain ⟨o_30, H30, H27⟩ := bnd H27
        refine TC.cutP (fun s : (List Prefix) => o_30 = s) (fun (told_29 : (List Prefix)) (⟨b_27, p_27, c_27⟩ : Nat × Prop × Nat) => (Env.set (Env.set (Env.set (Env.set Env.nil 6 (Sl b_27 p_27 0 told_29.length c_27)) 28 (Sl b_0 p_0 0 x_18.length c_0)) 29 (D ((x_18.length : Int) : Int))) 30 (D (x_24 : Int)))) (fun (told_29 : (List Prefix)) (⟨b_27, p_27, c_27⟩ : Nat × Prop × Nat) => [⟨b_27, p_27, (Row (told_29 : List Prefix) c_27)⟩, ⟨b_0, p_0, (Row (x_18 : List Prefix) c_0)⟩]) ?_ ?_
        · skip
          refine TC.block ?_; refine TC.seqS ?_
          obtain ⟨x_31, ex_31, H30⟩ := bnd H30
          refine TS.s (OpD.indexq (idx_in ex_31 rfl)) rfl ?_; refine TS.s (OpD.ldq (Pl.rowz ex_31)) rfl ?_; refine TS.alloc (α := Prefix) rfl fun b8_31 => ?_; refine TS.un (OpT.storeq (y := (x_31 : Prefix)) Pl.one) ?_; refine TS.nil ?_; refine TE.then ?_; refine TC.kp [6, 8, 28, 29, 30] [b_24, b8_31, b_0] ?_; refine TC.seq ?_; refine TC.seqS ?_; refine TS.s OpY.move rfl ?_; refine TS.s (OpD.lenSv (n := told_26.length) rfl) rfl ?_; refine TS.s OpY.assign rfl ?_; refine TS.nil ?_; refine TE.then ?_; refine TC.kp [6, 8, 9, 28, 29, 30] [b_24, b8_31, b_0] ?_; refine TC.seqD0 mix (by kernel_rfl) ?_; refine TR.s OpY.move rfl ?_; refine TR.s OpY.gtr rfl ?_; refine TR.s OpY.move rfl ?_; refine TR.g 38 rfl (fun hg => OpY.move) rfl ?_; refine TR.g 38 rfl (fun hg => OpY.move) rfl ?_
          obtain ⟨x_33, ex_33, H30⟩ := bnd H30
          refine TR.g 38 rfl (fun hg => (OpD.sub (gb_some ex_33 hg.h))) rfl ?_
          obtain ⟨x_34, ex_34, H30⟩ := bnd H30
          refine TR.g 38 rfl (fun hg => (OpD.indexq (idx_in (gb_some ex_34 hg.h) rfl))) rfl ?_; refine TR.g 38 rfl (fun hg => (OpD.ldq (Pl.rowz (gb_some ex_34 hg.h)))) rfl ?_; refine TR.g 38 rfl (fun hg => (OpD.ldq Pl.one)) rfl ?_
          obtain ⟨x_35, ex_35, H30⟩ := bnd H30
          refine TR.g 38 rfl (fun hg => (OpY.call2 fun w v0 v1 hA h0 h1 => key_Covers_c w v0 v1 hA (toD h0) (toD h1) (gb_some ex_35 hg.h))) rfl ?_; refine TR.s OpY.pickAnd rfl ?_; refine TR.nil ?_; refine TC.kp [6, 8, 28, 29, 30, 46] [b_24, b8_31, b_0] ?_; refine TC.cond (fun hc => ?_) (fun hc => ?_)
          · replace H30 := cT H30 hc
            refine TC.exit ?_; refine TE.then_exit ?_; refine TE.inBlock_here ?_; exact TE.cutP told_26 ⟨b_24, p_24, c_24⟩ (Option.some.inj H30).symm (Env.cv (Env.cv (Env.cvBy (Sl_le rfl) (Env.cvBy (Sl_le rfl) (Env.le_nil _))))) (Less.pk rfl (Less.pk rfl (Less.nil _)))
          · replace H30 := cF H30 hc
            refine TC.skip ?_; refine TE.then ?_; refine TC.kp [6, 8, 28, 29, 30] [b_24, b8_31, b_0] ?_; refine TC.regionS ?_; refine TS.s OpY.move rfl ?_; refine TS.s (OpD.ldq Pl.one) rfl ?_; refine TS.s (OpY.buildSlice [.tmp 48] rfl rfl (by decide)) rfl ?_
            obtain ⟨u_37, eu_37, H30⟩ := bnd H30
            refine TS.app (ys := ([x_31] : List Prefix)) inferInstance eu_37 rfl rfl rfl fun b50_35 p50_35 c50_35 => ?_
            obtain ⟨x_38, ex_38, H30⟩ := bnd H30
            refine TS.t (OpT.callO1 [b50_35] fun w v0 hA hO hap hks h0 => split_joined_o w v0 hA hO hap hks (slD rfl h0) ex_38) rfl fun ⟨b51_38, p51_38, c51_38⟩ => ?_; dsimp only [List.cons_append, List.nil_append]
            refine TS.s OpY.assign rfl ?_; refine TS.nil ?_; refine TE.kp [6, 28, 29, 30] [b51_38, b_0] ?_; refine TE.inBlock_normal ?_; exact TE.cutP x_38 ⟨b51_38, p51_38, c51_38⟩ (Option.some.inj H30).symm (Env.cv (Env.cv (Env.cvBy (Sl_le rfl) (Env.cvBy (Sl_le rfl) (Env.le_nil _))))) (Less.pk rfl (Less.pk rfl (Less.nil _)))
        rintro told_29 ⟨b_27, p_27, c_27⟩ hp
        replace hp := hp.symm
        subst hp
        refine TE.then ?_; refine TC.kp [6, 28, 29, 30] [b_27, b_0] ?_; refine TC.regionS ?_
        obtain ⟨x_40, ex_40, H27⟩ := bnd H27
        refine TS.s (OpD.add ex_40) rfl ?_; refine TS.s OpY.move rfl ?_; refine TS.nil ?_; refine TE.kp [6, 28, 29, 30] [b_27, b_0] ?_; exact TE.backP ⟨x_40, told_29⟩ ⟨b_27, p_27, c_27⟩ (Option.some.inj H27).symm (Env.cv (Env.cv (Env.cvBy (Sl_le rfl) (Env.cvBy (Sl_le rfl) (Env.le_nil _))))) (Less.pk rfl (Less.pk rfl (Less.nil _)))
      · replace H27 := cF H27 hc
        refine TC.exit ?_; refine TE.then_exit ?_; refine TE.then_exit ?_; refine TE.inBlock_here ?_; exact TE.cutP told_26 ⟨b_24, p_24, c_24⟩ (he27 _ (Option.some.inj H27).symm).symm (Env.cvBy (Sl_le rfl) (Env.le_nil _)) (Less.pk rfl (Less.nil _))
    rintro told_22 ⟨b_20, p_20, c_20⟩ hp
    replace hp := hp.symm
    subst hp
    refine TE.then ?_; refine TC.kp [6] [b_20] ?_; refine TC.seqS ?_; refine TS.s OpY.move rfl ?_; refine TS.s OpY.assign rfl ?_; refine TS.nil ?_; refine TE.then ?_; refine TC.kp [2] [b_20] ?_; refine TC.ret ?_
    obtain rfl := (Option.some.inj H)
    exact TE.retO1 rfl ⟨b_20, p_20, c_20⟩ (Sl_le rfl) (Less.pk rfl (Less.nil _))
def bywaylaw17_SplitBack (p0 : Prefix) (q0 : Prefix) (n0 : Int) : Option Bool :=
  (bywaylaw17_awake).bind fun x_3 => bif (!x_3) then (some false) else ((split_Halves p0).bind fun r_4 => (bif (decide (r_4.2.2 = (0 : Int))) then ((split_Whole r_4.1).bind fun r_8 => (split_Whole r_4.2.1).bind fun r_10 => (gb (!(((((decide (r_8.2 ≠ (0 : Int))) || (decide (r_10.2 ≠ (0 : Int)))) || (decide (r_8.1 ≠ p0))) || (decide (r_10.1 ≠ p0))) || (decide (r_4.1 = r_4.2.1)))) (key_Covers p0 r_4.1)).bind fun x_12 => (gb (!((((((decide (r_8.2 ≠ (0 : Int))) || (decide (r_10.2 ≠ (0 : Int)))) || (decide (r_8.1 ≠ p0))) || (decide (r_10.1 ≠ p0))) || (decide (r_4.1 = r_4.2.1))) || (!x_12))) (key_Covers p0 r_4.2.1)).bind fun x_13 => (gb (!(((((((decide (r_8.2 ≠ (0 : Int))) || (decide (r_10.2 ≠ (0 : Int)))) || (decide (r_8.1 ≠ p0))) || (decide (r_10.1 ≠ p0))) || (decide (r_4.1 = r_4.2.1))) || (!x_12)) || (!x_13))) (split_Together ([r_4.2.1, r_4.1] : List Prefix))).bind fun x_14 => (gb (!(((((((decide (r_8.2 ≠ (0 : Int))) || (decide (r_10.2 ≠ (0 : Int)))) || (decide (r_8.1 ≠ p0))) || (decide (r_10.1 ≠ p0))) || (decide (r_4.1 = r_4.2.1))) || (!x_12)) || (!x_13))) (bywayref17_Same x_14 ([p0] : List Prefix))).bind fun x_15 => bif ((((((((decide (r_8.2 ≠ (0 : Int))) || (decide (r_10.2 ≠ (0 : Int)))) || (decide (r_8.1 ≠ p0))) || (decide (r_10.1 ≠ p0))) || (decide (r_4.1 = r_4.2.1))) || (!x_12)) || (!x_13)) || (!x_15)) then (some (.inr false)) else (some (.inl ()))) else (some (.inl ()))).bind fun o_7 => elS o_7 (fun _ => (split_Apart p0 n0).bind fun r_17 => (gb (decide (r_17.2 = (0 : Int))) (split_Together r_17.1)).bind fun x_18 => (gb (decide (r_17.2 = (0 : Int))) (bywayref17_Same x_18 ([p0] : List Prefix))).bind fun x_19 => bif ((decide (r_17.2 = (0 : Int))) && (!x_19)) then (some false) else (((split_Without p0 q0).bind fun r_21 => (gb (decide (r_21.2 = (0 : Int))) (room 32 ((([] : List Prefix).length + r_21.1.length : Nat) : Int))).bind fun u_24 => (gb (decide (r_21.2 = (0 : Int))) (room 32 (((([] : List Prefix) ++ r_21.1).length + ([q0] : List Prefix).length : Nat) : Int))).bind fun u_26 => (gb (decide (r_21.2 = (0 : Int))) (split_Together ((([] : List Prefix) ++ r_21.1) ++ ([q0] : List Prefix)))).bind fun x_27 => (gb (decide (r_21.2 = (0 : Int))) (bywayref17_Same x_27 ([p0] : List Prefix))).bind fun x_29 => bif ((decide (r_21.2 = (0 : Int))) && (!x_29)) then (some (.inr false)) else (some (.inl ()))).bind fun o_20 => elS o_20 (fun _ => some true) (fun q => some q))) (fun q => some q))
theorem bywaylaw17_SplitBack_c {A : Nat → Prop} {p0 : Prefix} {q0 : Prefix} {n0 : Int}  {r : Bool} (w : World) (v0 v1 v2 : Value) (hA : ∀ k, w.heap.size ≤ k → A k)  (h0 : (D (p0 : Prefix)).p A w v0) (h1 : (D (q0 : Prefix)).p A w v1) (h2 : (D (n0 : Int)).p A w v2) (H : bywaylaw17_SplitBack p0 q0 n0 = some r) :
    Calls Try.prog 6 #[v0, v1, v2] w (Ret A w (D (r : Bool))) := by
  unfold bywaylaw17_SplitBack at H
  refine enter3 hA Try.func6 rfl Try.ntmps6 rfl h0 h1 h2 ?_; refine TC.seqS ?_; refine TS.box rfl fun b3_0 => ?_; refine TS.box rfl fun b4_1 => ?_; refine TS.s OpY.assign rfl ?_; refine TS.nil ?_; refine TE.then ?_; refine TC.kp [2, 3, 4] [b3_0, b4_1] ?_; refine TC.seq ?_; refine TC.seqS ?_
  obtain ⟨x_3, ex_3, H⟩ := bnd H
  refine TS.s (OpY.call0 fun w hA => bywaylaw17_awake_c w hA ex_3) rfl ?_; refine TS.s OpY.notB rfl ?_; refine TS.nil ?_; refine TE.then ?_; refine TC.kp [2, 3, 4, 19] [b3_0, b4_1] ?_; refine TC.cond (fun hc => ?_) (fun hc => ?_)
  · replace H := cT H hc
    refine TC.seqS ?_; refine TS.s OpY.assign rfl ?_; refine TS.nil ?_; refine TE.then ?_; refine TC.kp [6] [] ?_; refine TC.ret ?_; refine TE.then_ret ?_
    obtain rfl := (Option.some.inj H)
    exact TE.ret1 rfl Cv.le
  · replace H := cF H hc
    refine TC.skip ?_; refine TE.then ?_; refine TC.kp [2, 3, 4] [b3_0, b4_1] ?_; refine TC.seqS ?_; refine TS.s (OpD.ldq Pl.one) rfl ?_
    obtain ⟨r_4, er_4, H⟩ := bnd H
    refine TS.s (OpY.call1 fun w v0 hA h0 => split_Halves_c w v0 hA (toD h0) er_4) rfl ?_; refine TS.s OpY.move rfl ?_; refine TS.s (OpY.extract rfl) rfl ?_; refine TS.s (OpY.extract rfl) rfl ?_; refine TS.s (OpY.extract rfl) rfl ?_; refine TS.alloc (α := Prefix) rfl fun b7_4 => ?_; refine TS.alloc (α := Prefix) rfl fun b8_5 => ?_; refine TS.un (OpT.storeq (y := (r_4.1 : Prefix)) Pl.one) ?_; refine TS.un (OpT.storeq (y := (r_4.2.1 : Prefix)) Pl.one) ?_; refine TS.s OpY.assign rfl ?_; refine TS.nil ?_; refine TE.then ?_; refine TC.kp [2, 3, 4, 7, 8, 9] [b3_0, b4_1, b7_4, b8_5] ?_; refine TC.seq ?_
    obtain ⟨o_7, H7, H⟩ := bnd H
    refine TC.cutP (fun s : Unit => o_7 = .inl s) (fun (_ : Unit) (_ : Unit) => (Env.set (Env.set (Env.set Env.nil 2 (D (n0 : Int))) 3 (Pt b3_0 0)) 4 (Pt b4_1 0))) (fun (_ : Unit) (_ : Unit) => [⟨b3_0, True, (One (p0 : Prefix))⟩, ⟨b4_1, True, (One (q0 : Prefix))⟩]) ?_ ?_
    · skip
      refine TC.seqS ?_; refine TS.s OpY.move rfl ?_; refine TS.s OpY.eql rfl ?_; refine TS.nil ?_; refine TE.then ?_; refine TC.kp [2, 3, 4, 7, 8, 27] [b3_0, b4_1, b7_4, b8_5] ?_; refine TC.cond (fun hc => ?_) (fun hc => ?_)
      · replace H7 := cT H7 hc
        refine TC.seqS ?_; refine TS.s (OpD.ldq Pl.one) rfl ?_
        obtain ⟨r_8, er_8, H7⟩ := bnd H7
        refine TS.s (OpY.call1 fun w v0 hA h0 => split_Whole_c w v0 hA (toD h0) er_8) rfl ?_; refine TS.s OpY.move rfl ?_; refine TS.s (OpY.extract rfl) rfl ?_; refine TS.s (OpY.extract rfl) rfl ?_; refine TS.alloc (α := Prefix) rfl fun b10_8 => ?_; refine TS.un (OpT.storeq (y := (r_8.1 : Prefix)) Pl.one) ?_; refine TS.s OpY.assign rfl ?_; refine TS.nil ?_; refine TE.then ?_; refine TC.kp [2, 3, 4, 7, 8, 10, 11] [b3_0, b4_1, b7_4, b8_5, b10_8] ?_; refine TC.seqS ?_; refine TS.s (OpD.ldq Pl.one) rfl ?_
        obtain ⟨r_10, er_10, H7⟩ := bnd H7
        refine TS.s (OpY.call1 fun w v0 hA h0 => split_Whole_c w v0 hA (toD h0) er_10) rfl ?_; refine TS.s OpY.move rfl ?_; refine TS.s (OpY.extract rfl) rfl ?_; refine TS.s (OpY.extract rfl) rfl ?_; refine TS.alloc (α := Prefix) rfl fun b12_10 => ?_; refine TS.un (OpT.storeq (y := (r_10.1 : Prefix)) Pl.one) ?_; refine TS.s OpY.assign rfl ?_; refine TS.nil ?_; refine TE.then ?_; refine TC.kp [2, 3, 4, 7, 8, 10, 11, 12, 13] [b3_0, b4_1, b7_4, b8_5, b10_8, b12_10] ?_; refine TC.seqD0 mix (by kernel_rfl) ?_; refine TR.s OpY.move rfl ?_; refine TR.s OpY.neq rfl ?_; refine TR.s OpY.move rfl ?_; refine TR.g 40 rfl (fun hg => OpY.move) rfl ?_; refine TR.g 40 rfl (fun hg => OpY.neq) rfl ?_; refine TR.s OpY.pickOr rfl ?_; refine TR.s OpY.move rfl ?_; refine TR.g 44 rfl (fun hg => (OpD.ldq Pl.one)) rfl ?_; refine TR.g 44 rfl (fun hg => (OpD.ldq Pl.one)) rfl ?_; refine TR.g 44 rfl (fun hg => (OpY.neq_agg EqV_25 (by decide) EqG_25 rfl)) rfl ?_; refine TR.s OpY.pickOr rfl ?_; refine TR.s OpY.move rfl ?_; refine TR.g 49 rfl (fun hg => (OpD.ldq Pl.one)) rfl ?_; refine TR.g 49 rfl (fun hg => (OpD.ldq Pl.one)) rfl ?_; refine TR.g 49 rfl (fun hg => (OpY.neq_agg EqV_25 (by decide) EqG_25 rfl)) rfl ?_; refine TR.s OpY.pickOr rfl ?_; refine TR.s OpY.move rfl ?_; refine TR.g 54 rfl (fun hg => (OpD.ldq Pl.one)) rfl ?_; refine TR.g 54 rfl (fun hg => (OpD.ldq Pl.one)) rfl ?_; refine TR.g 54 rfl (fun hg => (OpY.eql_agg EqV_25 (by decide) EqG_25 rfl)) rfl ?_; refine TR.s OpY.pickOr rfl ?_; refine TR.s OpY.move rfl ?_; refine TR.g 59 rfl (fun hg => (OpD.ldq Pl.one)) rfl ?_; refine TR.g 59 rfl (fun hg => (OpD.ldq Pl.one)) rfl ?_
        obtain ⟨x_12, ex_12, H7⟩ := bnd H7
        refine TR.g 59 rfl (fun hg => (OpY.call2 fun w v0 v1 hA h0 h1 => key_Covers_c w v0 v1 hA (toD h0) (toD h1) (gb_some ex_12 (nF hg.h)))) rfl ?_; refine TR.g 59 rfl (fun hg => OpY.notB) rfl ?_; refine TR.s OpY.pickOr rfl ?_; refine TR.s OpY.move rfl ?_; refine TR.g 65 rfl (fun hg => (OpD.ldq Pl.one)) rfl ?_; refine TR.g 65 rfl (fun hg => (OpD.ldq Pl.one)) rfl ?_
        obtain ⟨x_13, ex_13, H7⟩ := bnd H7
        refine TR.g 65 rfl (fun hg => (OpY.call2 fun w v0 v1 hA h0 h1 => key_Covers_c w v0 v1 hA (toD h0) (toD h1) (gb_some ex_13 (nF hg.h)))) rfl ?_; refine TR.g 65 rfl (fun hg => OpY.notB) rfl ?_; refine TR.s OpY.pickOr rfl ?_; refine TR.s OpY.move rfl ?_; refine TR.g 71 rfl (fun hg => (OpD.ldq Pl.one)) rfl ?_; refine TR.g 71 rfl (fun hg => (OpD.ldq Pl.one)) rfl ?_; refine TR.g 71 rfl (fun hg => (OpY.buildSlice [.tmp 72, .tmp 73] rfl rfl (by decide))) rfl ?_
        obtain ⟨x_14, ex_14, H7⟩ := bnd H7
        refine TR.g 71 rfl (fun hg => (OpY.call1 fun w v0 hA h0 => split_Together_c w v0 hA (toD h0) (gb_some ex_14 (nF hg.h)))) rfl ?_; refine TR.g 71 rfl (fun hg => (OpD.ldq Pl.one)) rfl ?_; refine TR.g 71 rfl (fun hg => (OpY.buildSlice [.tmp 76] rfl rfl (by decide))) rfl ?_
        obtain ⟨x_15, ex_15, H7⟩ := bnd H7
        refine TR.g 71 rfl (fun hg => (OpY.call2 fun w v0 v1 hA h0 h1 => bywayref17_Same_c w v0 v1 hA (toD h0) (toD h1) (gb_some ex_15 (nF hg.h)))) rfl ?_; refine TR.g 71 rfl (fun hg => OpY.notB) rfl ?_; refine TR.s OpY.pickOr rfl ?_; refine TR.nil ?_; refine TC.kp [2, 3, 4, 80] [b3_0, b4_1] ?_; refine TC.cond (fun hc => ?_) (fun hc => ?_)
        · replace H7 := cT H7 hc
          refine TC.seqS ?_; refine TS.s OpY.assign rfl ?_; refine TS.nil ?_; refine TE.then ?_; refine TC.kp [6] [] ?_; refine TC.ret ?_; refine TE.cut_ret ?_
          have R15 := elS_r (Option.some.inj H7) H
          refine TE.then_ret ?_
          obtain rfl := (Option.some.inj R15)
          exact TE.ret1 rfl Cv.le
        · replace H7 := cF H7 hc
          refine TC.skip ?_; exact TE.cutP () () (Option.some.inj H7).symm (Env.cv (Env.cv (Env.cv (Env.le_nil _)))) (Less.pk rfl (Less.pk rfl (Less.nil _)))
      · replace H7 := cF H7 hc
        refine TC.skip ?_; exact TE.cutP () () (Option.some.inj H7).symm (Env.cv (Env.cv (Env.cv (Env.le_nil _)))) (Less.pk rfl (Less.pk rfl (Less.nil _)))
    rintro ⟨⟩ ⟨⟩ hp
    replace H := elS_l hp H
    refine TE.then ?_; refine TC.kp [2, 3, 4] [b3_0, b4_1] ?_; refine TC.seq ?_; refine TC.seqS ?_; refine TS.s (OpD.ldq Pl.one) rfl ?_; refine TS.s OpY.move rfl ?_
    obtain ⟨r_17, er_17, H⟩ := bnd H
    refine TS.s (OpY.call2 fun w v0 v1 hA h0 h1 => split_Apart_c w v0 v1 hA (toD h0) (toD h1) er_17) rfl ?_; refine TS.s OpY.move rfl ?_; refine TS.s (OpY.extract rfl) rfl ?_; refine TS.s (OpY.extract rfl) rfl ?_; refine TS.s OpY.assign rfl ?_; refine TS.s OpY.assign rfl ?_; refine TS.nil ?_; refine TE.then ?_; refine TC.kp [3, 4, 14, 15] [b3_0, b4_1] ?_; refine TC.seqD0 mix (by kernel_rfl) ?_; refine TR.s OpY.move rfl ?_; refine TR.s OpY.eql rfl ?_; refine TR.s OpY.move rfl ?_; refine TR.g 89 rfl (fun hg => OpY.move) rfl ?_
    obtain ⟨x_18, ex_18, H⟩ := bnd H
    refine TR.g 89 rfl (fun hg => (OpY.call1 fun w v0 hA h0 => split_Together_c w v0 hA (toD h0) (gb_some ex_18 hg.h))) rfl ?_; refine TR.g 89 rfl (fun hg => (OpD.ldq Pl.one)) rfl ?_; refine TR.g 89 rfl (fun hg => (OpY.buildSlice [.tmp 92] rfl rfl (by decide))) rfl ?_
    obtain ⟨x_19, ex_19, H⟩ := bnd H
    refine TR.g 89 rfl (fun hg => (OpY.call2 fun w v0 v1 hA h0 h1 => bywayref17_Same_c w v0 v1 hA (toD h0) (toD h1) (gb_some ex_19 hg.h))) rfl ?_; refine TR.g 89 rfl (fun hg => OpY.notB) rfl ?_; refine TR.s OpY.pickAnd rfl ?_; refine TR.nil ?_; refine TC.kp [3, 4, 96] [b3_0, b4_1] ?_; refine TC.cond (fun hc => ?_) (fun hc => ?_)
    · replace H := cT H hc
      refine TC.seqS ?_; refine TS.s OpY.assign rfl ?_; refine TS.nil ?_; refine TE.then ?_; refine TC.kp [6] [] ?_; refine TC.ret ?_; refine TE.then_ret ?_
      obtain rfl := (Option.some.inj H)
      exact TE.ret1 rfl Cv.le
    · replace H := cF H hc
      refine TC.skip ?_; refine TE.then ?_; refine TC.kp [3, 4] [b3_0, b4_1] ?_; refine TC.seq ?_
      obtain ⟨o_20, H20, H⟩ := bnd H
      refine TC.cutP (fun s : Unit => o_20 = .inl s) (fun (_ : Unit) (_ : Unit) => Env.nil) (fun (_ : Unit) (_ : Unit) => []) ?_ ?_
      · skip
        refine TC.seqS ?_; refine TS.s (OpD.ldq Pl.one) rfl ?_; refine TS.s (OpD.ldq Pl.one) rfl ?_
        obtain ⟨r_21, er_21, H20⟩ := bnd H20
        refine TS.s (OpY.call2 fun w v0 v1 hA h0 h1 => split_Without_c w v0 v1 hA (toD h0) (toD h1) er_21) rfl ?_; refine TS.s OpY.move rfl ?_; refine TS.s (OpY.extract rfl) rfl ?_; refine TS.s (OpY.extract rfl) rfl ?_; refine TS.s OpY.assign rfl ?_; refine TS.s OpY.assign rfl ?_; refine TS.nil ?_; refine TE.then ?_; refine TC.kp [3, 4, 16, 17] [b3_0, b4_1] ?_
        rcases Bool.eq_false_or_eq_true ((decide (r_21.2 = (0 : Int)))) with hgt | hgf
        · haveI hg : Ft ((decide (r_21.2 = (0 : Int))) = true) := ⟨hgt⟩
          refine TC.seqD [3, 5, 8, 9, 12, 13, 14] [] mix (by kernel_rfl) (by kernel_rfl) ?_; refine TR.s OpY.move rfl ?_; refine TR.s OpY.eql rfl ?_; refine TR.s OpY.move rfl ?_; refine TR.tg 105 rfl hgt (fun g => OpT.buildSlice [] rfl rfl (by decide)) rfl ?_; refine TR.g 105 rfl (fun hg => OpY.move) rfl ?_
          obtain ⟨u_24, eu_24, H20⟩ := bnd H20
          refine TR.tg 105 rfl hgt (fun g => OpT.appR (ys := r_21.1) inferInstance (gb_some eu_24 hgt) rfl rfl) rfl ?_; refine TR.g 105 rfl (fun hg => (OpD.ldq Pl.one)) rfl ?_; refine TR.g 105 rfl (fun hg => (OpY.buildSlice [.tmp 109] rfl rfl (by decide))) rfl ?_
          obtain ⟨u_26, eu_26, H20⟩ := bnd H20
          refine TR.tg 105 rfl hgt (fun g => OpT.appR (ys := ([q0] : List Prefix)) inferInstance (gb_some eu_26 hgt) rfl rfl) rfl ?_
          obtain ⟨x_27, ex_27, H20⟩ := bnd H20
          refine TR.tg 105 rfl hgt (fun g => (OpT.callLO1 (xs := x_27) [(g.2.1)] (ArgB.sv PlS.all rfl (by simp)) fun w v0 hA hO hap hks h0 => split_Together_o w v0 hA hO hap hks (toD h0) (gb_some ex_27 hgt))) rfl ?_; refine TR.g 105 rfl (fun hg => (OpD.ldq Pl.one)) rfl ?_; refine TR.g 105 rfl (fun hg => (OpY.buildSlice [.tmp 113] rfl rfl (by decide))) rfl ?_
          obtain ⟨x_29, ex_29, H20⟩ := bnd H20
          refine TR.tg 105 rfl hgt (fun g => OpT.G rfl (OpY.callB2 [(g.2.1)] (ArgB.sv PlS.all rfl (by simp)) ArgB.d fun w v0 v1 hA h0 h1 => bywayref17_Same_c w v0 v1 hA (toD h0) (toD h1) (gb_some ex_29 hgt))) rfl ?_; refine TR.tg 105 rfl hgt (fun g => OpT.G rfl OpY.notB) rfl ?_; refine TR.t (fun g => OpT.G rfl OpY.pickAnd) rfl ?_; refine TR.nil ?_
          rintro ⟨⟨⟨⟨⟨⟨⟨_, ⟨b106_21, _⟩⟩, ⟨b108_22, p108_22, c108_22⟩⟩, ⟨b111_24, p111_24, c111_24⟩⟩, ⟨b112_27, p112_27, c112_27⟩⟩, _⟩, _⟩, _⟩
          dsimp only [Fam.nextS, Fam.nextN, Fam.one, List.cons_append, List.nil_append]
          refine TC.kp [117] [] ?_; refine TC.cond (fun hc => ?_) (fun hc => ?_)
          · replace H20 := cT H20 hc
            refine TC.seqS ?_; refine TS.s OpY.assign rfl ?_; refine TS.nil ?_; refine TE.then ?_; refine TC.kp [6] [] ?_; refine TC.ret ?_; refine TE.cut_ret ?_
            have R29 := elS_r (Option.some.inj H20) H
            refine TE.then_ret ?_
            obtain rfl := (Option.some.inj R29)
            exact TE.ret1 rfl Cv.le
          · replace H20 := cF H20 hc
            refine TC.skip ?_; exact TE.cutP () () (Option.some.inj H20).symm (Env.le_nil _) (Less.nil _)
        · have hgx : ¬ ((decide (r_21.2 = (0 : Int))) = true) := by rw [hgf]; decide
          refine TC.seqD0 mix (by kernel_rfl) ?_; refine TR.s OpY.move rfl ?_; refine TR.s OpY.eql rfl ?_; refine TR.s OpY.move rfl ?_; refine TR.g (τ := Ty.any) 105 rfl (fun hp => absurd hp.h hgx) rfl ?_; refine TR.g (τ := D (r_21.1 : (List Prefix))) 105 rfl (fun hp => absurd hp.h hgx) rfl ?_
          obtain ⟨u_24, eu_24, H20⟩ := bnd H20
          refine TR.g (τ := Ty.any) 105 rfl (fun hp => absurd hp.h hgx) rfl ?_; refine TR.g (τ := D (q0 : Prefix)) 105 rfl (fun hp => absurd hp.h hgx) rfl ?_; refine TR.g (τ := D (([q0] : List Prefix) : (List Prefix))) 105 rfl (fun hp => absurd hp.h hgx) rfl ?_
          obtain ⟨u_26, eu_26, H20⟩ := bnd H20
          refine TR.g (τ := Ty.any) 105 rfl (fun hp => absurd hp.h hgx) rfl ?_
          obtain ⟨x_27, ex_27, H20⟩ := bnd H20
          refine TR.g (τ := Ty.any) 105 rfl (fun hp => absurd hp.h hgx) rfl ?_; refine TR.g (τ := D (p0 : Prefix)) 105 rfl (fun hp => absurd hp.h hgx) rfl ?_; refine TR.g (τ := D (([p0] : List Prefix) : (List Prefix))) 105 rfl (fun hp => absurd hp.h hgx) rfl ?_
          obtain ⟨x_29, ex_29, H20⟩ := bnd H20
          refine TR.g (τ := B (x_29)) 105 rfl (fun hp => absurd hp.h hgx) rfl ?_; refine TR.g (τ := B ((!x_29))) 105 rfl (fun hp => absurd hp.h hgx) rfl ?_; refine TR.s OpY.pickAnd rfl ?_; refine TR.nil ?_; refine TC.kp [117] [] ?_; refine TC.cond (fun hc => ?_) (fun hc => ?_)
          · replace H20 := cT H20 hc
            refine TC.seqS ?_; refine TS.s OpY.assign rfl ?_; refine TS.nil ?_; refine TE.then ?_; refine TC.kp [6] [] ?_; refine TC.ret ?_; refine TE.cut_ret ?_
            have R29 := elS_r (Option.some.inj H20) H
            refine TE.then_ret ?_
            obtain rfl := (Option.some.inj R29)
            exact TE.ret1 rfl Cv.le
          · replace H20 := cF H20 hc
            refine TC.skip ?_; exact TE.cutP () () (Option.some.inj H20).symm (Env.le_nil _) (Less.nil _)
      rintro ⟨⟩ ⟨⟩ hp
      replace H := elS_l hp H
      refine TE.then ?_; refine TC.kp [] [] ?_; refine TC.seqS ?_; refine TS.s OpY.assign rfl ?_; refine TS.nil ?_; refine TE.then ?_; refine TC.kp [6] [] ?_; refine TC.ret ?_
      obtain rfl := (Option.some.inj H)
      exact TE.ret1 rfl Cv.le
end Go.Proofs.Ytpknphecmahkaaa.Tr
