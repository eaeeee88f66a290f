/- The functions, as plain ones. Conditions: none. -/
import Derived.Test.YtfdmajkeihdhnaaTab
import Derived.Test.YtfdmajkeihdhnaaChipA
namespace Go.Proofs.Ytfdmajkeihdhnaa.Tr
open Go Go.RowKit
set_option maxRecDepth 100000
set_option synthInstance.maxHeartbeats 400000
set_option synthInstance.maxSize 4096
set_option linter.unusedVariables false
set_option linter.unusedSimpArgs false

def chip_strikes_l1 (c0 : Chip) (x_4 : Int) : Option (Int ⊕ (Unit ⊕ (Fault × Bool))) :=
  bif (decide (x_4 < (c0.Faults.length : Int))) then ((idx c0.Faults x_4).bind fun x_6 => bif (decide (x_6.Op = c0.Ops)) then (some (.inr (.inr (x_6, (x_6.Cut || x_6.Fail))))) else ((addI x_4 (1 : Int)).bind fun x_9 => some (.inl x_9))) else (some (.inr (.inl ())))
def chip_strikes (c0 : Chip) : Option (Fault × Bool) :=
  (loopO (fun s => chip_strikes_l1 c0 s) (0 : Int)).bind fun o_3 => elS o_3 (fun _ => (some ((⟨0, false, false, 0⟩ : Fault) : Fault)).bind fun k_10 => some (k_10, false)) (fun q => some q)
/-- chip.strikes -/
theorem chip_strikes_c {A : Nat → Prop} {c0 : Chip}  {r : (Fault × Bool)} (w : World) (v0 : Value) (hA : ∀ k, w.heap.size ≤ k → A k)  (h0 : (D (c0 : Chip)).p A w v0) (H : chip_strikes c0 = some r) :
    Calls Try.prog 83 #[v0] w (Ret A w (Tup [D (r.1 : Fault), D (r.2 : Bool)])) := by
  unfold chip_strikes at H
  refine enter1 hA Try.func83 rfl Try.ntmps83 rfl h0 ?_
  refine TC.seqS ?_
  refine TS.box rfl fun b1_0 => ?_
  refine TS.alloc (α := Fault) rfl fun b2_1 => ?_
  refine TS.s OpY.assign rfl ?_
  refine TS.nil ?_
  refine TE.then ?_
  refine TC.kp [1, 2] [b1_0, b2_1] ?_
  refine TC.seq ?_
  refine TC.seqS ?_
  refine TS.s OpY.fieldAddr rfl ?_
  refine TS.s (OpD.ldq (Pl.fld (off := 5) (α := Chip) (β := (List Fault)) Pl.one)) rfl ?_
  refine TS.s OpD.len rfl ?_
  refine TS.s OpY.move rfl ?_
  refine TS.nil ?_
  refine TE.then ?_
  refine TC.kp [1, 2, 7, 8, 9] [b1_0, b2_1] ?_
  obtain ⟨o_3, H3, H⟩ := bnd H
  refine TC.cutP (fun s : Unit => o_3 = .inl s) (fun (_ : Unit) (_ : Unit) => (Env.set Env.nil 2 (Pt b2_1 0))) (fun (_ : Unit) (_ : Unit) => [⟨b2_1, True, (One (Dat.z : Fault))⟩]) ?_ ?_
  · skip
    refine TC.block ?_
    refine TC.loopP H3 (fun (x_4 : Int) (_ : Unit) => (Env.set (Env.set (Env.set (Env.set (Env.set Env.nil 1 (Pt b1_0 0)) 2 (Pt b2_1 0)) 7 (D (c0.Faults : (List Fault)))) 8 (D ((c0.Faults.length : Int) : Int))) 9 (D (x_4 : Int)))) (fun (x_4 : Int) (_ : Unit) => [⟨b1_0, True, (One (c0 : Chip))⟩, ⟨b2_1, True, (One (Dat.z : Fault))⟩]) () (Env.cv (Env.cv (Env.cv (Env.cv (Env.cv (Env.le_nil _)))))) (Less.pk rfl (Less.pk rfl (Less.nil _))) ?_
    rintro x_4 ⟨⟩ x_5 H5 he5
    replace H5 : chip_strikes_l1 c0 x_4 = some x_5 := H5
    unfold chip_strikes_l1 at H5
    refine TC.seqS ?_
    refine TS.s OpY.lss rfl ?_
    refine TS.nil ?_
    refine TE.then ?_
    refine TC.kp [1, 2, 7, 8, 9, 10] [b1_0, b2_1] ?_
    refine TC.seq ?_
    refine TC.cond (fun hc => ?_) (fun hc => ?_)
    · replace H5 := cT H5 hc
      refine TC.skip ?_
      refine TE.then ?_
      refine TC.kp [1, 2, 7, 8, 9] [b1_0, b2_1] ?_
      refine TC.seq ?_
      refine TC.block ?_
      refine TC.seqS ?_
      obtain ⟨x_6, ex_6, H5⟩ := bnd H5
      refine TS.s (OpD.index ex_6) rfl ?_
      refine TS.s OpY.load rfl ?_
      refine TS.alloc (α := Fault) rfl fun b5_6 => ?_
      refine TS.un (OpT.storeq (y := (x_6 : Fault)) Pl.one) ?_
      refine TS.nil ?_
      refine TE.then ?_
      refine TC.kp [1, 2, 5, 7, 8, 9] [b1_0, b2_1, b5_6] ?_
      refine TC.seqS ?_
      refine TS.s OpY.fieldAddr rfl ?_
      refine TS.s (OpD.ldq (Pl.fld (off := 0) (α := Fault) (β := Int) Pl.one)) rfl ?_
      refine TS.s OpY.fieldAddr rfl ?_
      refine TS.s (OpD.ldq (Pl.fld (off := 3) (α := Chip) (β := Int) Pl.one)) rfl ?_
      refine TS.s OpY.eql rfl ?_
      refine TS.nil ?_
      refine TE.then ?_
      refine TC.kp [1, 2, 5, 7, 8, 9, 17] [b1_0, b2_1, b5_6] ?_
      refine TC.cond (fun hc => ?_) (fun hc => ?_)
      · replace H5 := cT H5 hc
        refine TC.seqD [7] [b2_1] mix (by kernel_rfl) (by kernel_rfl) ?_
        refine TR.s (OpD.ldq Pl.one) rfl ?_
        refine TR.s OpY.fieldAddr rfl ?_
        refine TR.s (OpD.ldq (Pl.fld (off := 2) (α := Fault) (β := Bool) Pl.one)) rfl ?_
        refine TR.s OpY.move rfl ?_
        refine TR.g 21 rfl (fun hg => OpY.fieldAddr) rfl ?_
        refine TR.g 21 rfl (fun hg => (OpD.ldq (Pl.fld (off := 1) (α := Fault) (β := Bool) Pl.one))) rfl ?_
        refine TR.s OpY.pickOr rfl ?_
        refine TR.tn (fun g => (OpT.storeq (y := (x_6 : Fault)) Pl.one)) rfl ?_
        refine TR.s OpY.assign rfl ?_
        refine TR.nil ?_
        rintro ⟨_, _⟩
        dsimp only [Fam.nextS, Fam.nextN, Fam.one, List.cons_append, List.nil_append]
        refine TC.kp [2, 3] [b2_1] ?_
        refine TC.ret ?_
        refine TE.inBlock_ret ?_
        refine TE.then_ret ?_
        refine TE.then_ret ?_
        refine TE.inBlock_ret ?_
        refine TE.cut_ret ?_
        have R7 := elS_r (he5 _ (Option.some.inj H5).symm) H
        refine TE.then_ret ?_
        obtain rfl := (Option.some.inj R7)
        exact TE.retN rfl rfl (.cons Cv.le (.cons Cv.le .nil))
      · replace H5 := cF H5 hc
        refine TC.skip ?_
        refine TE.inBlock_normal ?_
        refine TE.then ?_
        refine TC.kp [1, 2, 7, 8, 9] [b1_0, b2_1] ?_
        refine TC.regionS ?_
        obtain ⟨x_9, ex_9, H5⟩ := bnd H5
        refine TS.s (OpD.add ex_9) rfl ?_
        refine TS.s OpY.move rfl ?_
        refine TS.nil ?_
        refine TE.kp [1, 2, 7, 8, 9] [b1_0, b2_1] ?_
        exact TE.backP x_9 () (Option.some.inj H5).symm (Env.cv (Env.cv (Env.cv (Env.cv (Env.cv (Env.le_nil _)))))) (Less.pk rfl (Less.pk rfl (Less.nil _)))
    · replace H5 := cF H5 hc
      refine TC.exit ?_
      refine TE.then_exit ?_
      refine TE.then_exit ?_
      refine TE.inBlock_here ?_
      exact TE.cutP () () (he5 _ (Option.some.inj H5).symm).symm (Env.cv (Env.le_nil _)) (Less.pk rfl (Less.nil _))
  rintro ⟨⟩ ⟨⟩ hp
  replace H := elS_l hp H
  refine TE.then ?_
  refine TC.kp [2] [b2_1] ?_
  refine TC.seqS ?_
  refine TS.s (OpY.buildAs (⟨0, false, false, 0⟩ : Fault) rfl ⟨_, Try.underlying106, by kernel_rfl⟩ rfl rfl) rfl ?_
  refine TS.un (OpT.storeq (y := ((⟨0, false, false, 0⟩ : Fault) : Fault)) Pl.one) ?_
  refine TS.s OpY.assign rfl ?_
  refine TS.nil ?_
  refine TE.then ?_
  refine TC.kp [2, 3] [b2_1] ?_
  obtain ⟨k_10, ek_10, H⟩ := bnd H
  refine TC.nmB b2_1 (nm_one ek_10) ?_
  refine TC.ret ?_
  obtain rfl := (Option.some.inj H)
  exact TE.retN rfl rfl (.cons Cv.le (.cons Cv.le .nil))
def chip_struck (f0 : Fault) : Option (Bool × Int) :=
  bif f0.Cut then (some (true, (7 : Int))) else (some (false, (9 : Int)))
/-- chip.struck -/
theorem chip_struck_c {A : Nat → Prop} {f0 : Fault}  {r : (Bool × Int)} (w : World) (v0 : Value) (hA : ∀ k, w.heap.size ≤ k → A k)  (h0 : (D (f0 : Fault)).p A w v0) (H : chip_struck f0 = some r) :
    Calls Try.prog 84 #[v0] w (Ret A w (Tup [D (r.1 : Bool), D (r.2 : Int)])) := by
  unfold chip_struck at H
  refine enter1 hA Try.func84 rfl Try.ntmps84 rfl h0 ?_
  refine TC.seqS ?_
  refine TS.box rfl fun b1_0 => ?_
  refine TS.s OpY.assign rfl ?_
  refine TS.s OpY.assign rfl ?_
  refine TS.nil ?_
  refine TE.then ?_
  refine TC.kp [1] [b1_0] ?_
  refine TC.seq ?_
  refine TC.seqS ?_
  refine TS.s OpY.fieldAddr rfl ?_
  refine TS.s (OpD.ldq (Pl.fld (off := 2) (α := Fault) (β := Bool) Pl.one)) rfl ?_
  refine TS.nil ?_
  refine TE.then ?_
  refine TC.kp [5] [] ?_
  refine TC.cond (fun hc => ?_) (fun hc => ?_)
  · replace H := cT H hc
    refine TC.seqS ?_
    refine TS.s OpY.assign rfl ?_
    refine TS.s OpY.assign rfl ?_
    refine TS.nil ?_
    refine TE.then ?_
    refine TC.kp [2, 3] [] ?_
    refine TC.ret ?_
    refine TE.then_ret ?_
    obtain rfl := (Option.some.inj H)
    exact TE.retN rfl rfl (.cons Cv.le (.cons Cv.le .nil))
  · replace H := cF H hc
    refine TC.skip ?_
    refine TE.then ?_
    refine TC.kp [] [] ?_
    refine TC.seqS ?_
    refine TS.s OpY.assign rfl ?_
    refine TS.s OpY.assign rfl ?_
    refine TS.nil ?_
    refine TE.then ?_
    refine TC.kp [2, 3] [] ?_
    refine TC.ret ?_
    obtain rfl := (Option.some.inj H)
    exact TE.retN rfl rfl (.cons Cv.le (.cons Cv.le .nil))
def chip_Program_l1 (c0 : Chip) (page0 : Int) (x_8 : Block) (r_9 : (Fault × Bool)) (x_21 : Int) (q_22 : (List (List UInt8))) : Option ((Int × (List (List UInt8))) ⊕ (List (List UInt8))) :=
  bif (decide (x_21 < c0.Size)) then ((lenI q_22.length x_8.Pages.length).bind fun u_24 => (idx q_22 page0).bind fun x_25 => (idx x_25 x_21).bind fun x_26 => (idx x_25 x_21).bind fun x_27 => (some ((q_22.set (Int.toNat page0) (x_25.set (Int.toNat x_21) (x_26 ||| (~~~r_9.1.Mask)))) : (List (List UInt8)))).bind fun q_28 => (addI x_21 (1 : Int)).bind fun x_29 => some (.inl (x_29, q_28))) else (some (.inr q_22))
def chip_Program (c0 : Chip) (block0 : Int) (page0 : Int) (p0 : (List UInt8)) : Option (Chip × Int) :=
  (chip_clone c0).bind fun x_3 => (some ((⟨x_3.Pages, x_3.Size, [], x_3.Ops, x_3.Off, x_3.Faults⟩ : Chip) : Chip)).bind fun d_6 => (chip_has c0 block0).bind fun x_7 => bif (((((!x_7) || (decide (page0 < (0 : Int)))) || (decide (page0 ≥ c0.Pages))) || (decide ((p0.length : Int) ≠ c0.Size))) || (decide (c0.Ops ≥ (1099511627776 : Int)))) then (some ((⟨d_6.Pages, d_6.Size, x_3.Blocks, d_6.Ops, d_6.Off, d_6.Faults⟩ : Chip), (1 : Int))) else (bif c0.Off then (some ((⟨d_6.Pages, d_6.Size, x_3.Blocks, d_6.Ops, d_6.Off, d_6.Faults⟩ : Chip), (7 : Int))) else ((idx x_3.Blocks block0).bind fun x_8 => bif (x_8.Bad || (decide (page0 ≠ x_8.Used))) then (some ((⟨d_6.Pages, d_6.Size, x_3.Blocks, d_6.Ops, d_6.Off, d_6.Faults⟩ : Chip), (9 : Int))) else ((chip_strikes c0).bind fun r_9 => (addI d_6.Ops (1 : Int)).bind fun x_11 => (some ((⟨d_6.Pages, d_6.Size, d_6.Blocks, x_11, d_6.Off, d_6.Faults⟩ : Chip) : Chip)).bind fun d_12 => (addI x_8.Used (1 : Int)).bind fun x_13 => (some ((x_3.Blocks.set (Int.toNat block0) (⟨x_8.Pages, x_13, x_8.Worn, x_8.Bad⟩ : Block)) : (List Block))).bind fun l_14 => (idx x_8.Pages page0).bind fun x_15 => (some ((x_8.Pages.set (Int.toNat page0) (over x_15 p0)) : (List (List UInt8)))).bind fun q_16 => bif (!r_9.2) then ((lenI q_16.length x_8.Pages.length).bind fun u_17 => (idx l_14 block0).bind fun x_18 => some ((⟨d_12.Pages, d_12.Size, (l_14.set (Int.toNat block0) (⟨q_16, x_18.Used, x_18.Worn, x_18.Bad⟩ : Block)), d_12.Ops, d_12.Off, d_12.Faults⟩ : Chip), (0 : Int))) else ((loopO (fun s => chip_Program_l1 c0 page0 x_8 r_9 s.1 s.2) ((0 : Int), q_16)).bind fun q_19 => (chip_struck r_9.1).bind fun r_30 => (some ((⟨d_12.Pages, d_12.Size, d_12.Blocks, d_12.Ops, r_30.1, d_12.Faults⟩ : Chip) : Chip)).bind fun d_31 => (lenI q_19.length x_8.Pages.length).bind fun u_32 => (idx l_14 block0).bind fun x_33 => some ((⟨d_31.Pages, d_31.Size, (l_14.set (Int.toNat block0) (⟨q_19, x_33.Used, x_33.Worn, x_33.Bad⟩ : Block)), d_31.Ops, d_31.Off, d_31.Faults⟩ : Chip), r_30.2)))))
/-- chip.Program -/
theorem chip_Program_c {A : Nat → Prop} {c0 : Chip} {block0 : Int} {page0 : Int} {p0 : (List UInt8)}  {r : (Chip × Int)} (w : World) (v0 v1 v2 v3 : Value) (hA : ∀ k, w.heap.size ≤ k → A k)  (h0 : (D (c0 : Chip)).p A w v0) (h1 : (D (block0 : Int)).p A w v1) (h2 : (D (page0 : Int)).p A w v2) (h3 : (D (p0 : (List UInt8))).p A w v3) (H : chip_Program c0 block0 page0 p0 = some r) :
    Calls Try.prog 33 #[v0, v1, v2, v3] w (Ret A w (Tup [D (r.1 : Chip), D (r.2 : Int)])) := by
  unfold chip_Program at H
  refine enter4 hA Try.func33 rfl Try.ntmps33 rfl h0 h1 h2 h3 ?_
  rcases hgh : idx c0.Blocks block0 with _ | yg
  · skip
    refine TC.seqS ?_
    refine TS.box rfl fun b4_0 => ?_
    refine TS.alloc (α := Chip) rfl fun b8_1 => ?_
    refine TS.s OpY.assign rfl ?_
    refine TS.nil ?_
    refine TE.then ?_
    refine TC.kp [1, 2, 3, 4, 8] [b4_0, b8_1] ?_
    refine TC.seqS ?_
    refine TS.s (OpD.ldq Pl.one) rfl ?_
    obtain ⟨x_3, ex_3, H⟩ := bnd H
    refine TS.t (OpT.callO1 [] fun w v0 hA hO hap hks h0 => chip_clone_o w v0 hA hO hap hks (toD h0) ex_3) rfl fun ⟨b18_3, p18_3, c18_3⟩ => ?_
    dsimp only [List.cons_append, List.nil_append]
    refine TS.alloc (α := Chip) rfl fun b10_4 => ?_
    refine TS.un (OpT.storeC trivial rfl CtSc.h) ?_
    refine TS.nil ?_
    refine TE.then ?_
    refine TC.kp [1, 2, 3, 4, 8, 10] [b4_0, b8_1, b10_4, b18_3] ?_
    obtain ⟨d_6, ed_6, H⟩ := bnd H
    refine TC.nmB b10_4 (nm_mix (nm_one ed_6)) ?_
    refine TC.seq ?_
    refine TC.seqS ?_
    refine TS.s (OpD.ldq Pl.one) rfl ?_
    refine TS.s OpY.move rfl ?_
    obtain ⟨x_7, ex_7, H⟩ := bnd H
    refine TS.s (OpY.call2 fun w v0 v1 hA h0 h1 => chip_has_c w v0 v1 hA (toD h0) (toD h1) ex_7) rfl ?_
    refine TS.s OpY.notB rfl ?_
    refine TS.s OpY.move rfl ?_
    refine TS.g 23 rfl (fun hg => OpY.move) rfl ?_
    refine TS.g 23 rfl (fun hg => OpY.lss) rfl ?_
    refine TS.s OpY.pickOr rfl ?_
    refine TS.s OpY.move rfl ?_
    refine TS.g 27 rfl (fun hg => OpY.move) rfl ?_
    refine TS.g 27 rfl (fun hg => OpY.fieldAddr) rfl ?_
    refine TS.g 27 rfl (fun hg => (OpD.ldq (Pl.fld (off := 0) (α := Chip) (β := Int) Pl.one))) rfl ?_
    refine TS.g 27 rfl (fun hg => OpY.geq) rfl ?_
    refine TS.s OpY.pickOr rfl ?_
    refine TS.s OpY.move rfl ?_
    refine TS.g 33 rfl (fun hg => OpY.move) rfl ?_
    refine TS.g 33 rfl (fun hg => OpD.len) rfl ?_
    refine TS.g 33 rfl (fun hg => OpY.fieldAddr) rfl ?_
    refine TS.g 33 rfl (fun hg => (OpD.ldq (Pl.fld (off := 1) (α := Chip) (β := Int) Pl.one))) rfl ?_
    refine TS.g 33 rfl (fun hg => OpY.neq) rfl ?_
    refine TS.s OpY.pickOr rfl ?_
    refine TS.s OpY.move rfl ?_
    refine TS.g 40 rfl (fun hg => OpY.fieldAddr) rfl ?_
    refine TS.g 40 rfl (fun hg => (OpD.ldq (Pl.fld (off := 3) (α := Chip) (β := Int) Pl.one))) rfl ?_
    refine TS.g 40 rfl (fun hg => OpY.geq) rfl ?_
    refine TS.s OpY.pickOr rfl ?_
    refine TS.nil ?_
    refine TE.then ?_
    refine TC.kp [1, 2, 3, 4, 8, 10, 44] [b4_0, b8_1, b10_4, b18_3] ?_
    refine TC.cond (fun hc => ?_) (fun hc => ?_)
    · replace H := cT H hc
      refine TC.seqS ?_
      refine TS.s (OpY.ldC trivial rfl rfl) rfl ?_
      refine TS.un (OpT.storeC trivial rfl CtSc.h) ?_
      refine TS.s OpY.assign rfl ?_
      refine TS.nil ?_
      refine TE.then ?_
      refine TC.kp [8, 9] [b8_1, b18_3] ?_
      refine TC.ret ?_
      refine TE.then_ret ?_
      refine TE.coll b8_1 b18_3 (o := 2) (((Pl.fld (off := 2) (α := Chip) (β := (List Block)) Pl.one)).st (x_3.Blocks : List Block)) (PubC.sv PlS.all rfl) ?_
      obtain rfl := (Option.some.inj H)
      exact TE.retN rfl rfl (.cons Cv.le (.cons Cv.le .nil))
    · exact absurd hc (by simp [chip_has_none ex_7 hgh])
  · skip
    refine TC.seqS ?_
    refine TS.box rfl fun b4_0 => ?_
    refine TS.alloc (α := Chip) rfl fun b8_1 => ?_
    refine TS.s OpY.assign rfl ?_
    refine TS.nil ?_
    refine TE.then ?_
    refine TC.kp [1, 2, 3, 4, 8] [b4_0, b8_1] ?_
    refine TC.seqS ?_
    refine TS.s (OpD.ldq Pl.one) rfl ?_
    obtain ⟨x_3, ex_3, H⟩ := bnd H
    have hgz : idx x_3.Blocks block0 = some yg := (congrArg (fun c : Chip => idx c.Blocks block0) (chip_clone_eq ex_3)).trans hgh
    refine TS.t (OpT.callO1 [] fun w v0 hA hO hap hks h0 => chip_clone_g w v0 hA hO hap hks (toD h0) ex_3 hgz) rfl fun ⟨b18_3, p18_3, c18_3, bo18_3, br18_3, po18_3, co18_3, cr18_3⟩ => ?_
    dsimp only [List.cons_append, List.nil_append]
    refine TS.alloc (α := Chip) rfl fun b10_4 => ?_
    refine TS.un (OpT.storeC trivial rfl CtSc.h) ?_
    refine TS.nil ?_
    refine TE.then ?_
    refine TC.kp [1, 2, 3, 4, 8, 10] [b4_0, b8_1, b10_4, b18_3, bo18_3, br18_3] ?_
    obtain ⟨d_6, ed_6, H⟩ := bnd H
    refine TC.nmB b10_4 (nm_mix (nm_one ed_6)) ?_
    refine TC.seq ?_
    refine TC.seqS ?_
    refine TS.s (OpD.ldq Pl.one) rfl ?_
    refine TS.s OpY.move rfl ?_
    obtain ⟨x_7, ex_7, H⟩ := bnd H
    refine TS.s (OpY.call2 fun w v0 v1 hA h0 h1 => chip_has_c w v0 v1 hA (toD h0) (toD h1) ex_7) rfl ?_
    refine TS.s OpY.notB rfl ?_
    refine TS.s OpY.move rfl ?_
    refine TS.g 23 rfl (fun hg => OpY.move) rfl ?_
    refine TS.g 23 rfl (fun hg => OpY.lss) rfl ?_
    refine TS.s OpY.pickOr rfl ?_
    refine TS.s OpY.move rfl ?_
    refine TS.g 27 rfl (fun hg => OpY.move) rfl ?_
    refine TS.g 27 rfl (fun hg => OpY.fieldAddr) rfl ?_
    refine TS.g 27 rfl (fun hg => (OpD.ldq (Pl.fld (off := 0) (α := Chip) (β := Int) Pl.one))) rfl ?_
    refine TS.g 27 rfl (fun hg => OpY.geq) rfl ?_
    refine TS.s OpY.pickOr rfl ?_
    refine TS.s OpY.move rfl ?_
    refine TS.g 33 rfl (fun hg => OpY.move) rfl ?_
    refine TS.g 33 rfl (fun hg => OpD.len) rfl ?_
    refine TS.g 33 rfl (fun hg => OpY.fieldAddr) rfl ?_
    refine TS.g 33 rfl (fun hg => (OpD.ldq (Pl.fld (off := 1) (α := Chip) (β := Int) Pl.one))) rfl ?_
    refine TS.g 33 rfl (fun hg => OpY.neq) rfl ?_
    refine TS.s OpY.pickOr rfl ?_
    refine TS.s OpY.move rfl ?_
    refine TS.g 40 rfl (fun hg => OpY.fieldAddr) rfl ?_
    refine TS.g 40 rfl (fun hg => (OpD.ldq (Pl.fld (off := 3) (α := Chip) (β := Int) Pl.one))) rfl ?_
    refine TS.g 40 rfl (fun hg => OpY.geq) rfl ?_
    refine TS.s OpY.pickOr rfl ?_
    refine TS.nil ?_
    refine TE.then ?_
    refine TC.kp [1, 2, 3, 4, 8, 10, 44] [b4_0, b8_1, b10_4, b18_3, bo18_3, br18_3] ?_
    refine TC.cond (fun hc => ?_) (fun hc => ?_)
    · replace H := cT H hc
      refine TC.seqS ?_
      refine TS.s (OpY.ldC trivial rfl rfl) rfl ?_
      refine TS.un (OpT.storeC trivial rfl CtSc.h) ?_
      refine TS.s OpY.assign rfl ?_
      refine TS.nil ?_
      refine TE.then ?_
      refine TC.kp [8, 9] [b8_1, b18_3, bo18_3, br18_3] ?_
      refine TC.ret ?_
      refine TE.then_ret ?_
      refine TE.collS bo18_3 br18_3 rfl rfl ?_
      refine TE.coll b18_3 bo18_3 (o := ((0 + Int.toNat block0 * Dat.sz Block) + 0)) (block_keep hgz) (PubC.sv PlS.all rfl) ?_
      refine TE.coll b8_1 b18_3 (o := 2) (((Pl.fld (off := 2) (α := Chip) (β := (List Block)) Pl.one)).st (x_3.Blocks : List Block)) (PubC.sv PlS.all (by simp)) ?_
      obtain rfl := (Option.some.inj H)
      exact TE.retN rfl rfl (.cons Cv.le (.cons Cv.le .nil))
    · replace H := cF H hc
      refine TC.skip ?_
      refine TE.then ?_
      refine TC.kp [1, 2, 3, 4, 8, 10] [b4_0, b8_1, b10_4, b18_3, bo18_3, br18_3] ?_
      refine TC.seq ?_
      refine TC.seqS ?_
      refine TS.s OpY.fieldAddr rfl ?_
      refine TS.s (OpD.ldq (Pl.fld (off := 4) (α := Chip) (β := Bool) Pl.one)) rfl ?_
      refine TS.nil ?_
      refine TE.then ?_
      refine TC.kp [1, 2, 3, 4, 8, 10, 47] [b4_0, b8_1, b10_4, b18_3, bo18_3, br18_3] ?_
      refine TC.cond (fun hc => ?_) (fun hc => ?_)
      · replace H := cT H hc
        refine TC.seqS ?_
        refine TS.s (OpY.ldC trivial rfl rfl) rfl ?_
        refine TS.un (OpT.storeC trivial rfl CtSc.h) ?_
        refine TS.s OpY.assign rfl ?_
        refine TS.nil ?_
        refine TE.then ?_
        refine TC.kp [8, 9] [b8_1, b18_3, bo18_3, br18_3] ?_
        refine TC.ret ?_
        refine TE.then_ret ?_
        refine TE.collS bo18_3 br18_3 rfl rfl ?_
        refine TE.coll b18_3 bo18_3 (o := ((0 + Int.toNat block0 * Dat.sz Block) + 0)) (block_keep hgz) (PubC.sv PlS.all rfl) ?_
        refine TE.coll b8_1 b18_3 (o := 2) (((Pl.fld (off := 2) (α := Chip) (β := (List Block)) Pl.one)).st (x_3.Blocks : List Block)) (PubC.sv PlS.all (by simp)) ?_
        obtain rfl := (Option.some.inj H)
        exact TE.retN rfl rfl (.cons Cv.le (.cons Cv.le .nil))
      · replace H := cF H hc
        refine TC.skip ?_
        refine TE.then ?_
        refine TC.kp [1, 2, 3, 4, 8, 10] [b4_0, b8_1, b10_4, b18_3, bo18_3, br18_3] ?_
        refine TC.seqS ?_
        refine TS.s OpY.fieldAddr rfl ?_
        refine TS.s (OpD.ldHq CeH.here) rfl ?_
        refine TS.s OpY.move rfl ?_
        obtain ⟨x_8, ex_8, H⟩ := bnd H
        obtain rfl : x_8 = yg := Option.some.inj (ex_8.symm.trans hgz)
        refine TS.s (OpD.indexq (idx_in ex_8 (by simp))) rfl ?_
        refine TS.s OpY.assign rfl ?_
        refine TS.nil ?_
        refine TE.then ?_
        refine TC.kp [2, 3, 4, 8, 10, 11] [b4_0, b8_1, b10_4, b18_3, bo18_3, br18_3] ?_
        refine TC.seq ?_
        refine TC.seqS ?_
        refine TS.s OpY.move rfl ?_
        refine TS.s OpY.nilCheck rfl ?_
        refine TS.s OpY.fieldAddr rfl ?_
        refine TS.s (OpD.ldq (Pl.mix (Pl.fld (off := 3) (α := Block) (β := Bool) (Pl.rowz ex_8)) (by first | decide | omega))) rfl ?_
        refine TS.s OpY.move rfl ?_
        refine TS.g 57 rfl (fun hg => OpY.move) rfl ?_
        refine TS.g 57 rfl (fun hg => OpY.move) rfl ?_
        refine TS.g 57 rfl (fun hg => OpY.nilCheck) rfl ?_
        refine TS.g 57 rfl (fun hg => OpY.fieldAddr) rfl ?_
        refine TS.g 57 rfl (fun hg => (OpD.ldq (Pl.mix (Pl.fld (off := 1) (α := Block) (β := Int) (Pl.rowz ex_8)) (by first | decide | omega)))) rfl ?_
        refine TS.g 57 rfl (fun hg => OpY.neq) rfl ?_
        refine TS.s OpY.pickOr rfl ?_
        refine TS.nil ?_
        refine TE.then ?_
        refine TC.kp [2, 3, 4, 8, 10, 11, 64] [b4_0, b8_1, b10_4, b18_3, bo18_3, br18_3] ?_
        refine TC.cond (fun hc => ?_) (fun hc => ?_)
        · replace H := cT H hc
          refine TC.seqS ?_
          refine TS.s (OpY.ldC trivial rfl rfl) rfl ?_
          refine TS.un (OpT.storeC trivial rfl CtSc.h) ?_
          refine TS.s OpY.assign rfl ?_
          refine TS.nil ?_
          refine TE.then ?_
          refine TC.kp [8, 9] [b8_1, b18_3, bo18_3, br18_3] ?_
          refine TC.ret ?_
          refine TE.then_ret ?_
          refine TE.collS bo18_3 br18_3 rfl rfl ?_
          refine TE.coll b18_3 bo18_3 (o := ((0 + Int.toNat block0 * Dat.sz Block) + 0)) (block_keep hgz) (PubC.sv PlS.all rfl) ?_
          refine TE.coll b8_1 b18_3 (o := 2) (((Pl.fld (off := 2) (α := Chip) (β := (List Block)) Pl.one)).st (x_3.Blocks : List Block)) (PubC.sv PlS.all (by simp)) ?_
          obtain rfl := (Option.some.inj H)
          exact TE.retN rfl rfl (.cons Cv.le (.cons Cv.le .nil))
        · replace H := cF H hc
          refine TC.skip ?_
          refine TE.then ?_
          refine TC.kp [2, 3, 4, 8, 10, 11] [b4_0, b8_1, b10_4, b18_3, bo18_3, br18_3] ?_
          refine TC.seqS ?_
          refine TS.s (OpD.ldq Pl.one) rfl ?_
          obtain ⟨r_9, er_9, H⟩ := bnd H
          refine TS.s (OpY.call1 fun w v0 hA h0 => chip_strikes_c w v0 hA (toD h0) er_9) rfl ?_
          refine TS.s OpY.move rfl ?_
          refine TS.s (OpY.extract rfl) rfl ?_
          refine TS.s (OpY.extract rfl) rfl ?_
          refine TS.alloc (α := Fault) rfl fun b12_9 => ?_
          refine TS.un (OpT.storeq (y := (r_9.1 : Fault)) Pl.one) ?_
          refine TS.s OpY.assign rfl ?_
          refine TS.nil ?_
          refine TE.then ?_
          refine TC.kp [2, 3, 4, 8, 10, 11, 12, 13] [b4_0, b8_1, b10_4, b18_3, bo18_3, br18_3, b12_9] ?_
          refine TC.seqS ?_
          refine TS.s OpY.fieldAddr rfl ?_
          refine TS.s (OpD.ldq (Pl.mix (Pl.fld (off := 3) (α := Chip) (β := Int) Pl.one) (by first | decide | omega))) rfl ?_
          obtain ⟨x_11, ex_11, H⟩ := bnd H
          refine TS.s (OpD.add ex_11) rfl ?_
          refine TS.s OpY.fieldAddr rfl ?_
          refine TS.un (OpT.storeq (y := (x_11 : Int)) (Pl.mix (Pl.fld (off := 3) (α := Chip) (β := Int) Pl.one) (by first | decide | omega))) ?_
          refine TS.nil ?_
          refine TE.then ?_
          refine TC.kp [2, 3, 4, 8, 10, 11, 12, 13] [b4_0, b8_1, b10_4, b18_3, bo18_3, br18_3, b12_9] ?_
          obtain ⟨d_12, ed_12, H⟩ := bnd H
          refine TC.nmB b10_4 (nm_mix (nm_one ed_12)) ?_
          refine TC.seqS ?_
          refine TS.s OpY.move rfl ?_
          refine TS.s OpY.nilCheck rfl ?_
          refine TS.s OpY.fieldAddr rfl ?_
          refine TS.s (OpD.ldq (Pl.mix (Pl.fld (off := 1) (α := Block) (β := Int) (Pl.rowz ex_8)) (by first | decide | omega))) rfl ?_
          obtain ⟨x_13, ex_13, H⟩ := bnd H
          refine TS.s (OpD.add ex_13) rfl ?_
          refine TS.s OpY.nilCheck rfl ?_
          refine TS.s OpY.fieldAddr rfl ?_
          refine TS.un (OpT.storeq (y := (x_13 : Int)) (Pl.mix (Pl.fld (off := 1) (α := Block) (β := Int) (Pl.rowz ex_8)) (by first | decide | omega))) ?_
          refine TS.nil ?_
          refine TE.then ?_
          refine TC.kp [2, 3, 4, 8, 10, 11, 12, 13] [b4_0, b8_1, b10_4, b18_3, bo18_3, br18_3, b12_9] ?_
          obtain ⟨l_14, el_14, H⟩ := bnd H
          refine TC.nmB b18_3 (nm_mix (nm_row el_14)) ?_
          refine TC.nmB b10_4 (mix_n (nm_len el_14 (by simp))) ?_
          refine TC.seqS ?_
          refine TS.s OpY.move rfl ?_
          refine TS.s OpY.nilCheck rfl ?_
          refine TS.s OpY.fieldAddr rfl ?_
          refine TS.s (OpD.ldHq CeH.here) rfl ?_
          refine TS.s OpY.move rfl ?_
          obtain ⟨x_15, ex_15, H⟩ := bnd H
          refine TS.s (OpD.indexq (idx_in ex_15 rfl)) rfl ?_
          refine TS.s (OpD.ldHq (RowS.atP ex_15 (by show 0 + _ * 1 = _; omega))) rfl ?_
          refine TS.s OpY.move rfl ?_
          refine TS.u (OpT.copyBy (ys := p0) inferInstance (PlS.page ex_15) rfl (fun _ h => rowF_nil ex_15 h)) rfl ?_
          refine TS.nil ?_
          refine TE.then ?_
          refine TC.kp [2, 4, 8, 10, 11, 12, 13] [b4_0, b8_1, b10_4, b18_3, bo18_3, br18_3, b12_9] ?_
          refine TC.nmB bo18_3 (rowS_set (ys := (over x_15 p0)) ex_15 over_len) ?_
          obtain ⟨q_16, eq_16, H⟩ := bnd H
          refine TC.nmB br18_3 (rowF_nm eq_16) ?_
          refine TC.nmB bo18_3 (rowS_nm eq_16) ?_
          refine TC.seq ?_
          refine TC.seqS ?_
          refine TS.s OpY.move rfl ?_
          refine TS.s OpY.notB rfl ?_
          refine TS.nil ?_
          refine TE.then ?_
          refine TC.kp [2, 4, 8, 10, 11, 12, 92] [b4_0, b8_1, b10_4, b18_3, bo18_3, br18_3, b12_9] ?_
          refine TC.cond (fun hc => ?_) (fun hc => ?_)
          · replace H := cT H hc
            refine TC.seqS ?_
            refine TS.s (OpY.ldC trivial rfl rfl) rfl ?_
            refine TS.un (OpT.storeC trivial rfl CtSc.h) ?_
            refine TS.s OpY.assign rfl ?_
            refine TS.nil ?_
            refine TE.then ?_
            refine TC.kp [8, 9] [b8_1, b18_3, bo18_3, br18_3] ?_
            refine TC.ret ?_
            refine TE.then_ret ?_
            obtain ⟨u_17, eu_17, H⟩ := bnd H
            refine TE.collS bo18_3 br18_3 rfl (lenI_eq eu_17) ?_
            obtain ⟨x_18, ex_18, H⟩ := bnd H
            refine TE.coll b18_3 bo18_3 (o := ((0 + Int.toNat block0 * Dat.sz Block) + 0)) (((Pl.fld (off := 0) (α := Block) (β := (List (List UInt8))) (Pl.rowz ex_18))).st (q_16 : List (List UInt8))) (PubC.sv PlS.all (lenI_eq eu_17)) ?_
            refine TE.nmB b8_1 (mix_n (m := l_14.length) (n := (l_14.set (Int.toNat block0) (⟨q_16, x_18.Used, x_18.Worn, x_18.Bad⟩ : Block)).length) (by simp)) ?_
            refine TE.coll b8_1 b18_3 (o := 2) (((Pl.fld (off := 2) (α := Chip) (β := (List Block)) Pl.one)).st ((l_14.set (Int.toNat block0) (⟨q_16, x_18.Used, x_18.Worn, x_18.Bad⟩ : Block)) : List Block)) (PubC.sv PlS.all (by simp)) ?_
            obtain rfl := (Option.some.inj H)
            exact TE.retN rfl rfl (.cons Cv.le (.cons Cv.le .nil))
          · replace H := cF H hc
            refine TC.skip ?_
            refine TE.then ?_
            refine TC.kp [2, 4, 8, 10, 11, 12] [b4_0, b8_1, b10_4, b18_3, bo18_3, br18_3, b12_9] ?_
            refine TC.seq ?_
            refine TC.seqS ?_
            refine TS.s OpY.fieldAddr rfl ?_
            refine TS.s (OpD.ldq (Pl.fld (off := 1) (α := Chip) (β := Int) Pl.one)) rfl ?_
            refine TS.s OpY.move rfl ?_
            refine TS.nil ?_
            refine TE.then ?_
            refine TC.kp [2, 8, 10, 11, 12, 95, 96] [b8_1, b10_4, b18_3, bo18_3, br18_3, b12_9] ?_
            obtain ⟨o_20, H20, H⟩ := bnd H
            refine TC.cutP (fun s : (List (List UInt8)) => o_20 = s) (fun (q_19 : (List (List UInt8))) (_ : Unit) => (Env.set (Env.set (Env.set Env.nil 8 (Pt b8_1 0)) 10 (Pt b10_4 0)) 12 (Pt b12_9 0))) (fun (q_19 : (List (List UInt8))) (_ : Unit) => [⟨b18_3, p18_3, (Ct.mix (Row (l_14 : List Block) c18_3) ((0 + Int.toNat block0 * Dat.sz Block) + 0) (Sl bo18_3 po18_3 0 x_8.Pages.length co18_3))⟩, ⟨bo18_3, po18_3, RowS br18_3 po18_3 1 (List.map List.length q_19) x_8.Pages.length⟩, ⟨br18_3, po18_3, (Row (List.flatten q_19 : List UInt8) cr18_3)⟩, ⟨b8_1, True, (One (Dat.z : Chip))⟩, ⟨b10_4, True, (Ct.mix (One (d_12 : Chip)) 2 (Sl b18_3 p18_3 0 l_14.length c18_3))⟩, ⟨b12_9, True, (One (r_9.1 : Fault))⟩]) ?_ ?_
            · skip
              refine TC.block ?_
              refine TC.loopP H20 (fun ⟨x_21, q_22⟩ (_ : Unit) => (Env.set (Env.set (Env.set (Env.set (Env.set (Env.set (Env.set Env.nil 2 (D (page0 : Int))) 8 (Pt b8_1 0)) 10 (Pt b10_4 0)) 11 (Pq b18_3 (0 + Int.toNat block0 * Dat.sz Block) p18_3)) 12 (Pt b12_9 0)) 95 (D (c0.Size : Int))) 96 (D (x_21 : Int)))) (fun ⟨x_21, q_22⟩ (_ : Unit) => [⟨b18_3, p18_3, (Ct.mix (Row (l_14 : List Block) c18_3) ((0 + Int.toNat block0 * Dat.sz Block) + 0) (Sl bo18_3 po18_3 0 x_8.Pages.length co18_3))⟩, ⟨bo18_3, po18_3, RowS br18_3 po18_3 1 (List.map List.length q_22) x_8.Pages.length⟩, ⟨br18_3, po18_3, (Row (List.flatten q_22 : List UInt8) cr18_3)⟩, ⟨b8_1, True, (One (Dat.z : Chip))⟩, ⟨b10_4, True, (Ct.mix (One (d_12 : Chip)) 2 (Sl b18_3 p18_3 0 l_14.length c18_3))⟩, ⟨b12_9, True, (One (r_9.1 : Fault))⟩]) () (Env.cv (Env.cv (Env.cv (Env.cv (Env.cv (Env.cv (Env.cv (Env.le_nil _)))))))) (Less.pk rfl (Less.pk rfl (Less.pk rfl (Less.pk rfl (Less.pk rfl (Less.pk rfl (Less.nil _))))))) ?_
              rintro ⟨x_21, q_22⟩ ⟨⟩ x_23 H23 he23
              replace H23 : chip_Program_l1 c0 page0 x_8 r_9 x_21 q_22 = some x_23 := H23
              unfold chip_Program_l1 at H23
              refine TC.seqS ?_
              refine TS.s OpY.lss rfl ?_
              refine TS.nil ?_
              refine TE.then ?_
              refine TC.kp [2, 8, 10, 11, 12, 95, 96, 97] [b8_1, b10_4, b18_3, bo18_3, br18_3, b12_9] ?_
              refine TC.seq ?_
              refine TC.cond (fun hc => ?_) (fun hc => ?_)
              · replace H23 := cT H23 hc
                refine TC.skip ?_
                refine TE.then ?_
                refine TC.kp [2, 8, 10, 11, 12, 95, 96] [b8_1, b10_4, b18_3, bo18_3, br18_3, b12_9] ?_
                refine TC.seq ?_
                refine TC.block ?_
                refine TC.seqS ?_
                refine TS.s OpY.move rfl ?_
                refine TS.s OpY.assign rfl ?_
                refine TS.nil ?_
                refine TE.then ?_
                refine TC.kp [2, 8, 10, 11, 12, 14, 95, 96] [b8_1, b10_4, b18_3, bo18_3, br18_3, b12_9] ?_
                refine TC.regD [6, 8, 9, 13, 14, 15] [bo18_3, br18_3] mix (by kernel_rfl) (by kernel_rfl) ?_
                refine TR.s OpY.move rfl ?_
                refine TR.s OpY.nilCheck rfl ?_
                refine TR.s OpY.fieldAddr rfl ?_
                refine TR.s (OpD.ldHq CeH.here) rfl ?_
                refine TR.s OpY.move rfl ?_
                obtain ⟨u_24, eu_24, H23⟩ := bnd H23
                obtain ⟨x_25, ex_25, H23⟩ := bnd H23
                refine TR.s (OpD.indexq (idx_in ex_25 (lenI_eq eu_24))) rfl ?_
                refine TR.t (fun g => OpT.G rfl (OpD.ldHq (RowS.atP ex_25 (by show 0 + _ * 1 = _; omega)))) rfl ?_
                refine TR.s OpY.move rfl ?_
                obtain ⟨x_26, ex_26, H23⟩ := bnd H23
                refine TR.t (fun g => OpT.G rfl (OpD.indexq (idx_in ex_26 rfl))) rfl ?_
                refine TR.t (fun g => OpT.G rfl (OpD.ldq (Pl.page ex_25 ex_26))) rfl ?_
                refine TR.s OpY.fieldAddr rfl ?_
                refine TR.s (OpD.ldq (Pl.fld (off := 3) (α := Fault) (β := UInt8) Pl.one)) rfl ?_
                refine TR.s OpY.not8 rfl ?_
                refine TR.t (fun g => OpT.G rfl OpY.or8) rfl ?_
                obtain ⟨x_27, ex_27, H23⟩ := bnd H23
                refine TR.t (fun g => OpT.G rfl (OpD.indexq (idx_in ex_27 rfl))) rfl ?_
                refine TR.tn (fun g => (OpT.storeq (y := ((x_26 ||| (~~~r_9.1.Mask)) : UInt8)) (Pl.page ex_25 ex_27))) rfl ?_
                refine TR.nil ?_
                rintro ⟨⟨⟨⟨⟨⟨_, _⟩, _⟩, _⟩, _⟩, _⟩, _⟩
                dsimp only [Fam.nextS, Fam.nextN, Fam.one, List.cons_append, List.nil_append]
                refine TE.kp [2, 8, 10, 11, 12, 95, 96] [b8_1, b10_4, b18_3, bo18_3, br18_3, b12_9] ?_
                refine TE.nmB bo18_3 (rowS_set (ys := (x_25.set (Int.toNat x_21) (x_26 ||| (~~~r_9.1.Mask)))) ex_25 (by simp)) ?_
                obtain ⟨q_28, eq_28, H23⟩ := bnd H23
                refine TE.nmB br18_3 (rowF_nm eq_28) ?_
                refine TE.nmB bo18_3 (rowS_nm eq_28) ?_
                refine TE.inBlock_normal ?_
                refine TE.then ?_
                refine TC.kp [2, 8, 10, 11, 12, 95, 96] [b8_1, b10_4, b18_3, bo18_3, br18_3, b12_9] ?_
                refine TC.regionS ?_
                obtain ⟨x_29, ex_29, H23⟩ := bnd H23
                refine TS.s (OpD.add ex_29) rfl ?_
                refine TS.s OpY.move rfl ?_
                refine TS.nil ?_
                refine TE.kp [2, 8, 10, 11, 12, 95, 96] [b8_1, b10_4, b18_3, bo18_3, br18_3, b12_9] ?_
                exact TE.backP ⟨x_29, q_28⟩ () (Option.some.inj H23).symm (Env.cv (Env.cv (Env.cv (Env.cv (Env.cv (Env.cv (Env.cv (Env.le_nil _)))))))) (Less.pk rfl (Less.pk rfl (Less.pk rfl (Less.pk rfl (Less.pk rfl (Less.pk rfl (Less.nil _)))))))
              · replace H23 := cF H23 hc
                refine TC.exit ?_
                refine TE.then_exit ?_
                refine TE.then_exit ?_
                refine TE.inBlock_here ?_
                exact TE.cutP q_22 () (he23 _ (Option.some.inj H23).symm).symm (Env.cv (Env.cv (Env.cv (Env.le_nil _)))) (Less.pk rfl (Less.pk rfl (Less.pk rfl (Less.pk rfl (Less.pk rfl (Less.pk rfl (Less.nil _)))))))
            rintro q_19 ⟨⟩ hp
            replace hp := hp.symm
            subst hp
            refine TE.then ?_
            refine TC.kp [8, 10, 12] [b8_1, b10_4, b18_3, bo18_3, br18_3, b12_9] ?_
            refine TC.seqS ?_
            refine TS.s (OpD.ldq Pl.one) rfl ?_
            obtain ⟨r_30, er_30, H⟩ := bnd H
            refine TS.s (OpY.call1 fun w v0 hA h0 => chip_struck_c w v0 hA (toD h0) er_30) rfl ?_
            refine TS.s OpY.move rfl ?_
            refine TS.s (OpY.extract rfl) rfl ?_
            refine TS.s (OpY.extract rfl) rfl ?_
            refine TS.s OpY.assign rfl ?_
            refine TS.s OpY.assign rfl ?_
            refine TS.nil ?_
            refine TE.then ?_
            refine TC.kp [8, 10, 15, 16] [b8_1, b10_4, b18_3, bo18_3, br18_3] ?_
            refine TC.seqS ?_
            refine TS.s OpY.move rfl ?_
            refine TS.s OpY.fieldAddr rfl ?_
            refine TS.un (OpT.storeq (y := (r_30.1 : Bool)) (Pl.mix (Pl.fld (off := 4) (α := Chip) (β := Bool) Pl.one) (by first | decide | omega))) ?_
            refine TS.nil ?_
            refine TE.then ?_
            refine TC.kp [8, 10, 16] [b8_1, b10_4, b18_3, bo18_3, br18_3] ?_
            obtain ⟨d_31, ed_31, H⟩ := bnd H
            refine TC.nmB b10_4 (nm_mix (nm_one ed_31)) ?_
            refine TC.seqS ?_
            refine TS.s (OpY.ldC trivial rfl rfl) rfl ?_
            refine TS.s OpY.move rfl ?_
            refine TS.un (OpT.storeC trivial rfl CtSc.h) ?_
            refine TS.s OpY.assign rfl ?_
            refine TS.nil ?_
            refine TE.then ?_
            refine TC.kp [8, 9] [b8_1, b18_3, bo18_3, br18_3] ?_
            refine TC.ret ?_
            obtain ⟨u_32, eu_32, H⟩ := bnd H
            refine TE.collS bo18_3 br18_3 rfl (lenI_eq eu_32) ?_
            obtain ⟨x_33, ex_33, H⟩ := bnd H
            refine TE.coll b18_3 bo18_3 (o := ((0 + Int.toNat block0 * Dat.sz Block) + 0)) (((Pl.fld (off := 0) (α := Block) (β := (List (List UInt8))) (Pl.rowz ex_33))).st (q_19 : List (List UInt8))) (PubC.sv PlS.all (lenI_eq eu_32)) ?_
            refine TE.nmB b8_1 (mix_n (m := l_14.length) (n := (l_14.set (Int.toNat block0) (⟨q_19, x_33.Used, x_33.Worn, x_33.Bad⟩ : Block)).length) (by simp)) ?_
            refine TE.coll b8_1 b18_3 (o := 2) (((Pl.fld (off := 2) (α := Chip) (β := (List Block)) Pl.one)).st ((l_14.set (Int.toNat block0) (⟨q_19, x_33.Used, x_33.Worn, x_33.Bad⟩ : Block)) : List Block)) (PubC.sv PlS.all (by simp)) ?_
            obtain rfl := (Option.some.inj H)
            exact TE.retN rfl rfl (.cons Cv.le (.cons Cv.le .nil))
def chip_Erase_l1 (c0 : Chip) (x_9 : Block) (x_20 : Int) (q_21 : (List (List UInt8))) : Option ((Int × (List (List UInt8))) ⊕ (List (List UInt8))) :=
  bif (decide (x_20 < c0.Pages)) then ((lenI q_21.length x_9.Pages.length).bind fun u_23 => (idx q_21 x_20).bind fun x_24 => (chip_fill x_24).bind fun x_25 => (some ((q_21.set (Int.toNat x_20) x_25) : (List (List UInt8)))).bind fun q_26 => (addI x_20 (1 : Int)).bind fun x_27 => some (.inl (x_27, q_26))) else (some (.inr q_21))
def chip_Erase_l3 (c0 : Chip) (x_9 : Block) (r_10 : (Fault × Bool)) (x_34 : Int) (x_39 : Int) (q_40 : (List (List UInt8))) : Option ((Int × (List (List UInt8))) ⊕ (List (List UInt8))) :=
  bif (decide (x_39 < c0.Size)) then ((lenI q_40.length x_9.Pages.length).bind fun u_42 => (idx q_40 x_34).bind fun x_43 => (idx x_43 x_39).bind fun x_44 => (idx x_43 x_39).bind fun x_45 => (some ((q_40.set (Int.toNat x_34) (x_43.set (Int.toNat x_39) (x_44 ||| r_10.1.Mask))) : (List (List UInt8)))).bind fun q_46 => (addI x_39 (1 : Int)).bind fun x_47 => some (.inl (x_47, q_46))) else (some (.inr q_40))
def chip_Erase_l2 (c0 : Chip) (x_9 : Block) (r_10 : (Fault × Bool)) (x_34 : Int) (q_35 : (List (List UInt8))) : Option ((Int × (List (List UInt8))) ⊕ (List (List UInt8))) :=
  bif (decide (x_34 < c0.Pages)) then ((loopO (fun s => chip_Erase_l3 c0 x_9 r_10 x_34 s.1 s.2) ((0 : Int), q_35)).bind fun q_37 => (addI x_34 (1 : Int)).bind fun x_48 => some (.inl (x_48, q_37))) else (some (.inr q_35))
def chip_Erase (c0 : Chip) (block0 : Int) : Option (Chip × Int) :=
  (chip_clone c0).bind fun x_3 => (some ((⟨x_3.Pages, x_3.Size, [], x_3.Ops, x_3.Off, x_3.Faults⟩ : Chip) : Chip)).bind fun d_6 => (chip_has c0 block0).bind fun x_7 => (gb (!((!x_7) || (decide (c0.Ops ≥ (1099511627776 : Int))))) (idx c0.Blocks block0)).bind fun x_8 => bif (((!x_7) || (decide (c0.Ops ≥ (1099511627776 : Int)))) || (decide (x_8.Worn ≥ (1099511627776 : Int)))) then (some ((⟨d_6.Pages, d_6.Size, x_3.Blocks, d_6.Ops, d_6.Off, d_6.Faults⟩ : Chip), (1 : Int))) else (bif c0.Off then (some ((⟨d_6.Pages, d_6.Size, x_3.Blocks, d_6.Ops, d_6.Off, d_6.Faults⟩ : Chip), (7 : Int))) else ((idx x_3.Blocks block0).bind fun x_9 => bif x_9.Bad then (some ((⟨d_6.Pages, d_6.Size, x_3.Blocks, d_6.Ops, d_6.Off, d_6.Faults⟩ : Chip), (9 : Int))) else ((chip_strikes c0).bind fun r_10 => (addI d_6.Ops (1 : Int)).bind fun x_12 => (some ((⟨d_6.Pages, d_6.Size, d_6.Blocks, x_12, d_6.Off, d_6.Faults⟩ : Chip) : Chip)).bind fun d_13 => (addI x_9.Worn (1 : Int)).bind fun x_14 => (some ((x_3.Blocks.set (Int.toNat block0) (⟨x_9.Pages, x_9.Used, x_14, x_9.Bad⟩ : Block)) : (List Block))).bind fun l_15 => bif (!r_10.2) then ((idx l_15 block0).bind fun x_16 => (some ((l_15.set (Int.toNat block0) (⟨x_16.Pages, (0 : Int), x_16.Worn, x_16.Bad⟩ : Block)) : (List Block))).bind fun l_17 => (loopO (fun s => chip_Erase_l1 c0 x_9 s.1 s.2) ((0 : Int), x_9.Pages)).bind fun q_18 => (lenI q_18.length x_9.Pages.length).bind fun u_28 => (idx l_17 block0).bind fun x_29 => some ((⟨d_13.Pages, d_13.Size, (l_17.set (Int.toNat block0) (⟨q_18, x_29.Used, x_29.Worn, x_29.Bad⟩ : Block)), d_13.Ops, d_13.Off, d_13.Faults⟩ : Chip), (0 : Int))) else ((idx l_15 block0).bind fun x_30 => (some ((l_15.set (Int.toNat block0) (⟨x_30.Pages, c0.Pages, x_30.Worn, x_30.Bad⟩ : Block)) : (List Block))).bind fun l_31 => (loopO (fun s => chip_Erase_l2 c0 x_9 r_10 s.1 s.2) ((0 : Int), x_9.Pages)).bind fun q_32 => (chip_struck r_10.1).bind fun r_49 => (some ((⟨d_13.Pages, d_13.Size, d_13.Blocks, d_13.Ops, r_49.1, d_13.Faults⟩ : Chip) : Chip)).bind fun d_50 => (lenI q_32.length x_9.Pages.length).bind fun u_51 => (idx l_31 block0).bind fun x_52 => some ((⟨d_50.Pages, d_50.Size, (l_31.set (Int.toNat block0) (⟨q_32, x_52.Used, x_52.Worn, x_52.Bad⟩ : Block)), d_50.Ops, d_50.Off, d_50.Faults⟩ : Chip), r_49.2)))))
/-- chip.Erase -/
theorem chip_Erase_c {A : Nat → Prop} {c0 : Chip} {block0 : Int}  {r : (Chip × Int)} (w : World) (v0 v1 : Value) (hA : ∀ k, w.heap.size ≤ k → A k)  (h0 : (D (c0 : Chip)).p A w v0) (h1 : (D (block0 : Int)).p A w v1) (H : chip_Erase c0 block0 = some r) :
    Calls Try.prog 34 #[v0, v1] w (Ret A w (Tup [D (r.1 : Chip), D (r.2 : Int)])) := by
  unfold chip_Erase at H
  refine enter2 hA Try.func34 rfl Try.ntmps34 rfl h0 h1 ?_
  rcases hgh : idx c0.Blocks block0 with _ | yg
  · skip
    refine TC.seqS ?_
    refine TS.box rfl fun b2_0 => ?_
    refine TS.alloc (α := Chip) rfl fun b4_1 => ?_
    refine TS.s OpY.assign rfl ?_
    refine TS.nil ?_
    refine TE.then ?_
    refine TC.kp [1, 2, 4] [b2_0, b4_1] ?_
    refine TC.seqS ?_
    refine TS.s (OpD.ldq Pl.one) rfl ?_
    obtain ⟨x_3, ex_3, H⟩ := bnd H
    refine TS.t (OpT.callO1 [] fun w v0 hA hO hap hks h0 => chip_clone_o w v0 hA hO hap hks (toD h0) ex_3) rfl fun ⟨b16_3, p16_3, c16_3⟩ => ?_
    dsimp only [List.cons_append, List.nil_append]
    refine TS.alloc (α := Chip) rfl fun b6_4 => ?_
    refine TS.un (OpT.storeC trivial rfl CtSc.h) ?_
    refine TS.nil ?_
    refine TE.then ?_
    refine TC.kp [1, 2, 4, 6] [b2_0, b4_1, b6_4, b16_3] ?_
    obtain ⟨d_6, ed_6, H⟩ := bnd H
    refine TC.nmB b6_4 (nm_mix (nm_one ed_6)) ?_
    refine TC.seq ?_
    refine TC.seqS ?_
    refine TS.s (OpD.ldq Pl.one) rfl ?_
    refine TS.s OpY.move rfl ?_
    obtain ⟨x_7, ex_7, H⟩ := bnd H
    refine TS.s (OpY.call2 fun w v0 v1 hA h0 h1 => chip_has_c w v0 v1 hA (toD h0) (toD h1) ex_7) rfl ?_
    refine TS.s OpY.notB rfl ?_
    refine TS.s OpY.move rfl ?_
    refine TS.g 21 rfl (fun hg => OpY.fieldAddr) rfl ?_
    refine TS.g 21 rfl (fun hg => (OpD.ldq (Pl.fld (off := 3) (α := Chip) (β := Int) Pl.one))) rfl ?_
    refine TS.g 21 rfl (fun hg => OpY.geq) rfl ?_
    refine TS.s OpY.pickOr rfl ?_
    refine TS.s OpY.move rfl ?_
    refine TS.g 26 rfl (fun hg => OpY.fieldAddr) rfl ?_
    refine TS.g 26 rfl (fun hg => (OpD.ldq (Pl.fld (off := 2) (α := Chip) (β := (List Block)) Pl.one))) rfl ?_
    refine TS.g 26 rfl (fun hg => OpY.move) rfl ?_
    obtain ⟨x_8, ex_8, H⟩ := bnd H
    refine TS.g 26 rfl (fun hg => (OpD.index (gb_some ex_8 (nF hg.h)))) rfl ?_
    refine TS.g 26 rfl (fun hg => OpY.fieldAddr) rfl ?_
    refine TS.g 26 rfl (fun hg => OpY.load) rfl ?_
    refine TS.g 26 rfl (fun hg => OpY.geq) rfl ?_
    refine TS.s OpY.pickOr rfl ?_
    refine TS.nil ?_
    refine TE.then ?_
    refine TC.kp [1, 2, 4, 6, 34] [b2_0, b4_1, b6_4, b16_3] ?_
    refine TC.cond (fun hc => ?_) (fun hc => ?_)
    · replace H := cT H hc
      refine TC.seqS ?_
      refine TS.s (OpY.ldC trivial rfl rfl) rfl ?_
      refine TS.un (OpT.storeC trivial rfl CtSc.h) ?_
      refine TS.s OpY.assign rfl ?_
      refine TS.nil ?_
      refine TE.then ?_
      refine TC.kp [4, 5] [b4_1, b16_3] ?_
      refine TC.ret ?_
      refine TE.then_ret ?_
      refine TE.coll b4_1 b16_3 (o := 2) (((Pl.fld (off := 2) (α := Chip) (β := (List Block)) Pl.one)).st (x_3.Blocks : List Block)) (PubC.sv PlS.all rfl) ?_
      obtain rfl := (Option.some.inj H)
      exact TE.retN rfl rfl (.cons Cv.le (.cons Cv.le .nil))
    · exact absurd hc (by simp [chip_has_none ex_7 hgh])
  · skip
    refine TC.seqS ?_
    refine TS.box rfl fun b2_0 => ?_
    refine TS.alloc (α := Chip) rfl fun b4_1 => ?_
    refine TS.s OpY.assign rfl ?_
    refine TS.nil ?_
    refine TE.then ?_
    refine TC.kp [1, 2, 4] [b2_0, b4_1] ?_
    refine TC.seqS ?_
    refine TS.s (OpD.ldq Pl.one) rfl ?_
    obtain ⟨x_3, ex_3, H⟩ := bnd H
    have hgz : idx x_3.Blocks block0 = some yg := (congrArg (fun c : Chip => idx c.Blocks block0) (chip_clone_eq ex_3)).trans hgh
    refine TS.t (OpT.callO1 [] fun w v0 hA hO hap hks h0 => chip_clone_g w v0 hA hO hap hks (toD h0) ex_3 hgz) rfl fun ⟨b16_3, p16_3, c16_3, bo16_3, br16_3, po16_3, co16_3, cr16_3⟩ => ?_
    dsimp only [List.cons_append, List.nil_append]
    refine TS.alloc (α := Chip) rfl fun b6_4 => ?_
    refine TS.un (OpT.storeC trivial rfl CtSc.h) ?_
    refine TS.nil ?_
    refine TE.then ?_
    refine TC.kp [1, 2, 4, 6] [b2_0, b4_1, b6_4, b16_3, bo16_3, br16_3] ?_
    obtain ⟨d_6, ed_6, H⟩ := bnd H
    refine TC.nmB b6_4 (nm_mix (nm_one ed_6)) ?_
    refine TC.seq ?_
    refine TC.seqS ?_
    refine TS.s (OpD.ldq Pl.one) rfl ?_
    refine TS.s OpY.move rfl ?_
    obtain ⟨x_7, ex_7, H⟩ := bnd H
    refine TS.s (OpY.call2 fun w v0 v1 hA h0 h1 => chip_has_c w v0 v1 hA (toD h0) (toD h1) ex_7) rfl ?_
    refine TS.s OpY.notB rfl ?_
    refine TS.s OpY.move rfl ?_
    refine TS.g 21 rfl (fun hg => OpY.fieldAddr) rfl ?_
    refine TS.g 21 rfl (fun hg => (OpD.ldq (Pl.fld (off := 3) (α := Chip) (β := Int) Pl.one))) rfl ?_
    refine TS.g 21 rfl (fun hg => OpY.geq) rfl ?_
    refine TS.s OpY.pickOr rfl ?_
    refine TS.s OpY.move rfl ?_
    refine TS.g 26 rfl (fun hg => OpY.fieldAddr) rfl ?_
    refine TS.g 26 rfl (fun hg => (OpD.ldq (Pl.fld (off := 2) (α := Chip) (β := (List Block)) Pl.one))) rfl ?_
    refine TS.g 26 rfl (fun hg => OpY.move) rfl ?_
    obtain ⟨x_8, ex_8, H⟩ := bnd H
    refine TS.g 26 rfl (fun hg => (OpD.index (gb_some ex_8 (nF hg.h)))) rfl ?_
    refine TS.g 26 rfl (fun hg => OpY.fieldAddr) rfl ?_
    refine TS.g 26 rfl (fun hg => OpY.load) rfl ?_
    refine TS.g 26 rfl (fun hg => OpY.geq) rfl ?_
    refine TS.s OpY.pickOr rfl ?_
    refine TS.nil ?_
    refine TE.then ?_
    refine TC.kp [1, 2, 4, 6, 34] [b2_0, b4_1, b6_4, b16_3, bo16_3, br16_3] ?_
    refine TC.cond (fun hc => ?_) (fun hc => ?_)
    · replace H := cT H hc
      refine TC.seqS ?_
      refine TS.s (OpY.ldC trivial rfl rfl) rfl ?_
      refine TS.un (OpT.storeC trivial rfl CtSc.h) ?_
      refine TS.s OpY.assign rfl ?_
      refine TS.nil ?_
      refine TE.then ?_
      refine TC.kp [4, 5] [b4_1, b16_3, bo16_3, br16_3] ?_
      refine TC.ret ?_
      refine TE.then_ret ?_
      refine TE.collS bo16_3 br16_3 rfl rfl ?_
      refine TE.coll b16_3 bo16_3 (o := ((0 + Int.toNat block0 * Dat.sz Block) + 0)) (block_keep hgz) (PubC.sv PlS.all rfl) ?_
      refine TE.coll b4_1 b16_3 (o := 2) (((Pl.fld (off := 2) (α := Chip) (β := (List Block)) Pl.one)).st (x_3.Blocks : List Block)) (PubC.sv PlS.all (by simp)) ?_
      obtain rfl := (Option.some.inj H)
      exact TE.retN rfl rfl (.cons Cv.le (.cons Cv.le .nil))
    · replace H := cF H hc
      refine TC.skip ?_
      refine TE.then ?_
      refine TC.kp [1, 2, 4, 6] [b2_0, b4_1, b6_4, b16_3, bo16_3, br16_3] ?_
      refine TC.seq ?_
      refine TC.seqS ?_
      refine TS.s OpY.fieldAddr rfl ?_
      refine TS.s (OpD.ldq (Pl.fld (off := 4) (α := Chip) (β := Bool) Pl.one)) rfl ?_
      refine TS.nil ?_
      refine TE.then ?_
      refine TC.kp [1, 2, 4, 6, 37] [b2_0, b4_1, b6_4, b16_3, bo16_3, br16_3] ?_
      refine TC.cond (fun hc => ?_) (fun hc => ?_)
      · replace H := cT H hc
        refine TC.seqS ?_
        refine TS.s (OpY.ldC trivial rfl rfl) rfl ?_
        refine TS.un (OpT.storeC trivial rfl CtSc.h) ?_
        refine TS.s OpY.assign rfl ?_
        refine TS.nil ?_
        refine TE.then ?_
        refine TC.kp [4, 5] [b4_1, b16_3, bo16_3, br16_3] ?_
        refine TC.ret ?_
        refine TE.then_ret ?_
        refine TE.collS bo16_3 br16_3 rfl rfl ?_
        refine TE.coll b16_3 bo16_3 (o := ((0 + Int.toNat block0 * Dat.sz Block) + 0)) (block_keep hgz) (PubC.sv PlS.all rfl) ?_
        refine TE.coll b4_1 b16_3 (o := 2) (((Pl.fld (off := 2) (α := Chip) (β := (List Block)) Pl.one)).st (x_3.Blocks : List Block)) (PubC.sv PlS.all (by simp)) ?_
        obtain rfl := (Option.some.inj H)
        exact TE.retN rfl rfl (.cons Cv.le (.cons Cv.le .nil))
      · replace H := cF H hc
        refine TC.skip ?_
        refine TE.then ?_
        refine TC.kp [1, 2, 4, 6] [b2_0, b4_1, b6_4, b16_3, bo16_3, br16_3] ?_
        refine TC.seqS ?_
        refine TS.s OpY.fieldAddr rfl ?_
        refine TS.s (OpD.ldHq CeH.here) rfl ?_
        refine TS.s OpY.move rfl ?_
        obtain ⟨x_9, ex_9, H⟩ := bnd H
        obtain rfl : x_9 = yg := Option.some.inj (ex_9.symm.trans hgz)
        refine TS.s (OpD.indexq (idx_in ex_9 (by simp))) rfl ?_
        refine TS.s OpY.assign rfl ?_
        refine TS.nil ?_
        refine TE.then ?_
        refine TC.kp [2, 4, 6, 7] [b2_0, b4_1, b6_4, b16_3, bo16_3, br16_3] ?_
        refine TC.seq ?_
        refine TC.seqS ?_
        refine TS.s OpY.move rfl ?_
        refine TS.s OpY.nilCheck rfl ?_
        refine TS.s OpY.fieldAddr rfl ?_
        refine TS.s (OpD.ldq (Pl.mix (Pl.fld (off := 3) (α := Block) (β := Bool) (Pl.rowz ex_9)) (by first | decide | omega))) rfl ?_
        refine TS.nil ?_
        refine TE.then ?_
        refine TC.kp [2, 4, 6, 7, 46] [b2_0, b4_1, b6_4, b16_3, bo16_3, br16_3] ?_
        refine TC.cond (fun hc => ?_) (fun hc => ?_)
        · replace H := cT H hc
          refine TC.seqS ?_
          refine TS.s (OpY.ldC trivial rfl rfl) rfl ?_
          refine TS.un (OpT.storeC trivial rfl CtSc.h) ?_
          refine TS.s OpY.assign rfl ?_
          refine TS.nil ?_
          refine TE.then ?_
          refine TC.kp [4, 5] [b4_1, b16_3, bo16_3, br16_3] ?_
          refine TC.ret ?_
          refine TE.then_ret ?_
          refine TE.collS bo16_3 br16_3 rfl rfl ?_
          refine TE.coll b16_3 bo16_3 (o := ((0 + Int.toNat block0 * Dat.sz Block) + 0)) (block_keep hgz) (PubC.sv PlS.all rfl) ?_
          refine TE.coll b4_1 b16_3 (o := 2) (((Pl.fld (off := 2) (α := Chip) (β := (List Block)) Pl.one)).st (x_3.Blocks : List Block)) (PubC.sv PlS.all (by simp)) ?_
          obtain rfl := (Option.some.inj H)
          exact TE.retN rfl rfl (.cons Cv.le (.cons Cv.le .nil))
        · replace H := cF H hc
          refine TC.skip ?_
          refine TE.then ?_
          refine TC.kp [2, 4, 6, 7] [b2_0, b4_1, b6_4, b16_3, bo16_3, br16_3] ?_
          refine TC.seqS ?_
          refine TS.s (OpD.ldq Pl.one) rfl ?_
          obtain ⟨r_10, er_10, H⟩ := bnd H
          refine TS.s (OpY.call1 fun w v0 hA h0 => chip_strikes_c w v0 hA (toD h0) er_10) rfl ?_
          refine TS.s OpY.move rfl ?_
          refine TS.s (OpY.extract rfl) rfl ?_
          refine TS.s (OpY.extract rfl) rfl ?_
          refine TS.alloc (α := Fault) rfl fun b8_10 => ?_
          refine TS.un (OpT.storeq (y := (r_10.1 : Fault)) Pl.one) ?_
          refine TS.s OpY.assign rfl ?_
          refine TS.nil ?_
          refine TE.then ?_
          refine TC.kp [2, 4, 6, 7, 8, 9] [b2_0, b4_1, b6_4, b16_3, bo16_3, br16_3, b8_10] ?_
          refine TC.seqS ?_
          refine TS.s OpY.fieldAddr rfl ?_
          refine TS.s (OpD.ldq (Pl.mix (Pl.fld (off := 3) (α := Chip) (β := Int) Pl.one) (by first | decide | omega))) rfl ?_
          obtain ⟨x_12, ex_12, H⟩ := bnd H
          refine TS.s (OpD.add ex_12) rfl ?_
          refine TS.s OpY.fieldAddr rfl ?_
          refine TS.un (OpT.storeq (y := (x_12 : Int)) (Pl.mix (Pl.fld (off := 3) (α := Chip) (β := Int) Pl.one) (by first | decide | omega))) ?_
          refine TS.nil ?_
          refine TE.then ?_
          refine TC.kp [2, 4, 6, 7, 8, 9] [b2_0, b4_1, b6_4, b16_3, bo16_3, br16_3, b8_10] ?_
          obtain ⟨d_13, ed_13, H⟩ := bnd H
          refine TC.nmB b6_4 (nm_mix (nm_one ed_13)) ?_
          refine TC.seqS ?_
          refine TS.s OpY.move rfl ?_
          refine TS.s OpY.nilCheck rfl ?_
          refine TS.s OpY.fieldAddr rfl ?_
          refine TS.s (OpD.ldq (Pl.mix (Pl.fld (off := 2) (α := Block) (β := Int) (Pl.rowz ex_9)) (by first | decide | omega))) rfl ?_
          obtain ⟨x_14, ex_14, H⟩ := bnd H
          refine TS.s (OpD.add ex_14) rfl ?_
          refine TS.s OpY.nilCheck rfl ?_
          refine TS.s OpY.fieldAddr rfl ?_
          refine TS.un (OpT.storeq (y := (x_14 : Int)) (Pl.mix (Pl.fld (off := 2) (α := Block) (β := Int) (Pl.rowz ex_9)) (by first | decide | omega))) ?_
          refine TS.nil ?_
          refine TE.then ?_
          refine TC.kp [2, 4, 6, 7, 8, 9] [b2_0, b4_1, b6_4, b16_3, bo16_3, br16_3, b8_10] ?_
          obtain ⟨l_15, el_15, H⟩ := bnd H
          refine TC.nmB b16_3 (nm_mix (nm_row el_15)) ?_
          refine TC.nmB b6_4 (mix_n (nm_len el_15 (by simp))) ?_
          refine TC.seq ?_
          refine TC.seqS ?_
          refine TS.s OpY.move rfl ?_
          refine TS.s OpY.notB rfl ?_
          refine TS.nil ?_
          refine TE.then ?_
          refine TC.kp [2, 4, 6, 7, 8, 65] [b2_0, b4_1, b6_4, b16_3, bo16_3, br16_3, b8_10] ?_
          refine TC.cond (fun hc => ?_) (fun hc => ?_)
          · replace H := cT H hc
            refine TC.seqS ?_
            refine TS.s OpY.move rfl ?_
            refine TS.s OpY.nilCheck rfl ?_
            refine TS.s OpY.fieldAddr rfl ?_
            obtain ⟨x_16, ex_16, H⟩ := bnd H
            refine TS.un (OpT.storeq (y := ((0 : Int) : Int)) (Pl.mix (Pl.fld (off := 1) (α := Block) (β := Int) (Pl.rowz ex_16)) (by first | decide | omega))) ?_
            refine TS.nil ?_
            refine TE.then ?_
            refine TC.kp [2, 4, 6, 7] [b2_0, b4_1, b6_4, b16_3, bo16_3, br16_3] ?_
            obtain ⟨l_17, el_17, H⟩ := bnd H
            refine TC.nmB b16_3 (nm_mix (nm_row el_17)) ?_
            refine TC.nmB b6_4 (mix_n (nm_len el_17 (by simp))) ?_
            refine TC.seq ?_
            refine TC.seqS ?_
            refine TS.s OpY.fieldAddr rfl ?_
            refine TS.s (OpD.ldq (Pl.fld (off := 0) (α := Chip) (β := Int) Pl.one)) rfl ?_
            refine TS.s OpY.move rfl ?_
            refine TS.nil ?_
            refine TE.then ?_
            refine TC.kp [4, 6, 7, 70, 71] [b4_1, b6_4, b16_3, bo16_3, br16_3] ?_
            obtain ⟨o_19, H19, H⟩ := bnd H
            refine TC.cutP (fun s : (List (List UInt8)) => o_19 = s) (fun (q_18 : (List (List UInt8))) (_ : Unit) => (Env.set (Env.set Env.nil 4 (Pt b4_1 0)) 6 (Pt b6_4 0))) (fun (q_18 : (List (List UInt8))) (_ : Unit) => [⟨b16_3, p16_3, (Ct.mix (Row (l_17 : List Block) c16_3) ((0 + Int.toNat block0 * Dat.sz Block) + 0) (Sl bo16_3 po16_3 0 x_9.Pages.length co16_3))⟩, ⟨bo16_3, po16_3, RowS br16_3 po16_3 1 (List.map List.length q_18) x_9.Pages.length⟩, ⟨br16_3, po16_3, (Row (List.flatten q_18 : List UInt8) cr16_3)⟩, ⟨b4_1, True, (One (Dat.z : Chip))⟩, ⟨b6_4, True, (Ct.mix (One (d_13 : Chip)) 2 (Sl b16_3 p16_3 0 l_17.length c16_3))⟩]) ?_ ?_
            · skip
              refine TC.block ?_
              refine TC.loopP H19 (fun ⟨x_20, q_21⟩ (_ : Unit) => (Env.set (Env.set (Env.set (Env.set (Env.set Env.nil 4 (Pt b4_1 0)) 6 (Pt b6_4 0)) 7 (Pq b16_3 (0 + Int.toNat block0 * Dat.sz Block) p16_3)) 70 (D (c0.Pages : Int))) 71 (D (x_20 : Int)))) (fun ⟨x_20, q_21⟩ (_ : Unit) => [⟨b16_3, p16_3, (Ct.mix (Row (l_17 : List Block) c16_3) ((0 + Int.toNat block0 * Dat.sz Block) + 0) (Sl bo16_3 po16_3 0 x_9.Pages.length co16_3))⟩, ⟨bo16_3, po16_3, RowS br16_3 po16_3 1 (List.map List.length q_21) x_9.Pages.length⟩, ⟨br16_3, po16_3, (Row (List.flatten q_21 : List UInt8) cr16_3)⟩, ⟨b4_1, True, (One (Dat.z : Chip))⟩, ⟨b6_4, True, (Ct.mix (One (d_13 : Chip)) 2 (Sl b16_3 p16_3 0 l_17.length c16_3))⟩]) () (Env.cv (Env.cv (Env.cv (Env.cv (Env.cv (Env.le_nil _)))))) (Less.pk rfl (Less.pk rfl (Less.pk rfl (Less.pk rfl (Less.pk rfl (Less.nil _)))))) ?_
              rintro ⟨x_20, q_21⟩ ⟨⟩ x_22 H22 he22
              replace H22 : chip_Erase_l1 c0 x_9 x_20 q_21 = some x_22 := H22
              unfold chip_Erase_l1 at H22
              refine TC.seqS ?_
              refine TS.s OpY.lss rfl ?_
              refine TS.nil ?_
              refine TE.then ?_
              refine TC.kp [4, 6, 7, 70, 71, 72] [b4_1, b6_4, b16_3, bo16_3, br16_3] ?_
              refine TC.seq ?_
              refine TC.cond (fun hc => ?_) (fun hc => ?_)
              · replace H22 := cT H22 hc
                refine TC.skip ?_
                refine TE.then ?_
                refine TC.kp [4, 6, 7, 70, 71] [b4_1, b6_4, b16_3, bo16_3, br16_3] ?_
                refine TC.seq ?_
                refine TC.block ?_
                refine TC.seqS ?_
                refine TS.s OpY.move rfl ?_
                refine TS.s OpY.assign rfl ?_
                refine TS.nil ?_
                refine TE.then ?_
                refine TC.kp [4, 6, 7, 10, 70, 71] [b4_1, b6_4, b16_3, bo16_3, br16_3] ?_
                refine TC.regionS ?_
                refine TS.s OpY.move rfl ?_
                refine TS.s OpY.nilCheck rfl ?_
                refine TS.s OpY.fieldAddr rfl ?_
                refine TS.s (OpD.ldHq CeH.here) rfl ?_
                refine TS.s OpY.move rfl ?_
                obtain ⟨u_23, eu_23, H22⟩ := bnd H22
                obtain ⟨x_24, ex_24, H22⟩ := bnd H22
                refine TS.s (OpD.indexq (idx_in ex_24 (lenI_eq eu_23))) rfl ?_
                refine TS.s (OpD.ldHq (RowS.atP ex_24 (by show 0 + _ * 1 = _; omega))) rfl ?_
                obtain ⟨x_25, ex_25, H22⟩ := bnd H22
                refine TS.t (OpT.callO1 [br16_3] fun w v0 hA hO hap hks h0 => chip_fill_p (Cf := fun ys => Row (List.flatten (q_21.set (Int.toNat x_20) ys)) cr16_3) (rowF_keep ex_24) (fun ys hy => PlS.pageF ex_24 hy) w v0 hA hO hap hks h0 ex_25) rfl fun _ => ?_
                dsimp only [List.cons_append, List.nil_append]
                refine TS.nil ?_
                refine TE.kp [4, 6, 7, 70, 71] [b4_1, b6_4, b16_3, bo16_3, br16_3] ?_
                refine TE.nmB bo16_3 (rowS_set (ys := x_25) ex_24 (chip_fill_len ex_25)) ?_
                obtain ⟨q_26, eq_26, H22⟩ := bnd H22
                refine TE.nmB br16_3 (rowF_nm eq_26) ?_
                refine TE.nmB bo16_3 (rowS_nm eq_26) ?_
                refine TE.inBlock_normal ?_
                refine TE.then ?_
                refine TC.kp [4, 6, 7, 70, 71] [b4_1, b6_4, b16_3, bo16_3, br16_3] ?_
                refine TC.regionS ?_
                obtain ⟨x_27, ex_27, H22⟩ := bnd H22
                refine TS.s (OpD.add ex_27) rfl ?_
                refine TS.s OpY.move rfl ?_
                refine TS.nil ?_
                refine TE.kp [4, 6, 7, 70, 71] [b4_1, b6_4, b16_3, bo16_3, br16_3] ?_
                exact TE.backP ⟨x_27, q_26⟩ () (Option.some.inj H22).symm (Env.cv (Env.cv (Env.cv (Env.cv (Env.cv (Env.le_nil _)))))) (Less.pk rfl (Less.pk rfl (Less.pk rfl (Less.pk rfl (Less.pk rfl (Less.nil _))))))
              · replace H22 := cF H22 hc
                refine TC.exit ?_
                refine TE.then_exit ?_
                refine TE.then_exit ?_
                refine TE.inBlock_here ?_
                exact TE.cutP q_21 () (he22 _ (Option.some.inj H22).symm).symm (Env.cv (Env.cv (Env.le_nil _))) (Less.pk rfl (Less.pk rfl (Less.pk rfl (Less.pk rfl (Less.pk rfl (Less.nil _))))))
            rintro q_18 ⟨⟩ hp
            replace hp := hp.symm
            subst hp
            refine TE.then ?_
            refine TC.kp [4, 6] [b4_1, b6_4, b16_3, bo16_3, br16_3] ?_
            refine TC.seqS ?_
            refine TS.s (OpY.ldC trivial rfl rfl) rfl ?_
            refine TS.un (OpT.storeC trivial rfl CtSc.h) ?_
            refine TS.s OpY.assign rfl ?_
            refine TS.nil ?_
            refine TE.then ?_
            refine TC.kp [4, 5] [b4_1, b16_3, bo16_3, br16_3] ?_
            refine TC.ret ?_
            refine TE.then_ret ?_
            obtain ⟨u_28, eu_28, H⟩ := bnd H
            refine TE.collS bo16_3 br16_3 rfl (lenI_eq eu_28) ?_
            obtain ⟨x_29, ex_29, H⟩ := bnd H
            refine TE.coll b16_3 bo16_3 (o := ((0 + Int.toNat block0 * Dat.sz Block) + 0)) (((Pl.fld (off := 0) (α := Block) (β := (List (List UInt8))) (Pl.rowz ex_29))).st (q_18 : List (List UInt8))) (PubC.sv PlS.all (lenI_eq eu_28)) ?_
            refine TE.nmB b4_1 (mix_n (m := l_17.length) (n := (l_17.set (Int.toNat block0) (⟨q_18, x_29.Used, x_29.Worn, x_29.Bad⟩ : Block)).length) (by simp)) ?_
            refine TE.coll b4_1 b16_3 (o := 2) (((Pl.fld (off := 2) (α := Chip) (β := (List Block)) Pl.one)).st ((l_17.set (Int.toNat block0) (⟨q_18, x_29.Used, x_29.Worn, x_29.Bad⟩ : Block)) : List Block)) (PubC.sv PlS.all (by simp)) ?_
            obtain rfl := (Option.some.inj H)
            exact TE.retN rfl rfl (.cons Cv.le (.cons Cv.le .nil))
          · replace H := cF H hc
            refine TC.skip ?_
            refine TE.then ?_
            refine TC.kp [2, 4, 6, 7, 8] [b2_0, b4_1, b6_4, b16_3, bo16_3, br16_3, b8_10] ?_
            refine TC.seqS ?_
            refine TS.s OpY.move rfl ?_
            refine TS.s OpY.fieldAddr rfl ?_
            refine TS.s (OpD.ldq (Pl.fld (off := 0) (α := Chip) (β := Int) Pl.one)) rfl ?_
            refine TS.s OpY.nilCheck rfl ?_
            refine TS.s OpY.fieldAddr rfl ?_
            obtain ⟨x_30, ex_30, H⟩ := bnd H
            refine TS.un (OpT.storeq (y := (c0.Pages : Int)) (Pl.mix (Pl.fld (off := 1) (α := Block) (β := Int) (Pl.rowz ex_30)) (by first | decide | omega))) ?_
            refine TS.nil ?_
            refine TE.then ?_
            refine TC.kp [2, 4, 6, 7, 8] [b2_0, b4_1, b6_4, b16_3, bo16_3, br16_3, b8_10] ?_
            obtain ⟨l_31, el_31, H⟩ := bnd H
            refine TC.nmB b16_3 (nm_mix (nm_row el_31)) ?_
            refine TC.nmB b6_4 (mix_n (nm_len el_31 (by simp))) ?_
            refine TC.seq ?_
            refine TC.seqS ?_
            refine TS.s OpY.fieldAddr rfl ?_
            refine TS.s (OpD.ldq (Pl.fld (off := 0) (α := Chip) (β := Int) Pl.one)) rfl ?_
            refine TS.s OpY.move rfl ?_
            refine TS.nil ?_
            refine TE.then ?_
            refine TC.kp [2, 4, 6, 7, 8, 90, 91] [b2_0, b4_1, b6_4, b16_3, bo16_3, br16_3, b8_10] ?_
            obtain ⟨o_33, H33, H⟩ := bnd H
            refine TC.cutP (fun s : (List (List UInt8)) => o_33 = s) (fun (q_32 : (List (List UInt8))) (_ : Unit) => (Env.set (Env.set (Env.set Env.nil 4 (Pt b4_1 0)) 6 (Pt b6_4 0)) 8 (Pt b8_10 0))) (fun (q_32 : (List (List UInt8))) (_ : Unit) => [⟨b16_3, p16_3, (Ct.mix (Row (l_31 : List Block) c16_3) ((0 + Int.toNat block0 * Dat.sz Block) + 0) (Sl bo16_3 po16_3 0 x_9.Pages.length co16_3))⟩, ⟨bo16_3, po16_3, RowS br16_3 po16_3 1 (List.map List.length q_32) x_9.Pages.length⟩, ⟨br16_3, po16_3, (Row (List.flatten q_32 : List UInt8) cr16_3)⟩, ⟨b4_1, True, (One (Dat.z : Chip))⟩, ⟨b6_4, True, (Ct.mix (One (d_13 : Chip)) 2 (Sl b16_3 p16_3 0 l_31.length c16_3))⟩, ⟨b8_10, True, (One (r_10.1 : Fault))⟩]) ?_ ?_
            · skip
              refine TC.block ?_
              refine TC.loopP H33 (fun ⟨x_34, q_35⟩ (_ : Unit) => (Env.set (Env.set (Env.set (Env.set (Env.set (Env.set (Env.set Env.nil 2 (Pt b2_0 0)) 4 (Pt b4_1 0)) 6 (Pt b6_4 0)) 7 (Pq b16_3 (0 + Int.toNat block0 * Dat.sz Block) p16_3)) 8 (Pt b8_10 0)) 90 (D (c0.Pages : Int))) 91 (D (x_34 : Int)))) (fun ⟨x_34, q_35⟩ (_ : Unit) => [⟨b16_3, p16_3, (Ct.mix (Row (l_31 : List Block) c16_3) ((0 + Int.toNat block0 * Dat.sz Block) + 0) (Sl bo16_3 po16_3 0 x_9.Pages.length co16_3))⟩, ⟨bo16_3, po16_3, RowS br16_3 po16_3 1 (List.map List.length q_35) x_9.Pages.length⟩, ⟨br16_3, po16_3, (Row (List.flatten q_35 : List UInt8) cr16_3)⟩, ⟨b2_0, True, (One (c0 : Chip))⟩, ⟨b4_1, True, (One (Dat.z : Chip))⟩, ⟨b6_4, True, (Ct.mix (One (d_13 : Chip)) 2 (Sl b16_3 p16_3 0 l_31.length c16_3))⟩, ⟨b8_10, True, (One (r_10.1 : Fault))⟩]) () (Env.cv (Env.cv (Env.cv (Env.cv (Env.cv (Env.cv (Env.cv (Env.le_nil _)))))))) (Less.pk rfl (Less.pk rfl (Less.pk rfl (Less.pk rfl (Less.pk rfl (Less.pk rfl (Less.pk rfl (Less.nil _)))))))) ?_
              rintro ⟨x_34, q_35⟩ ⟨⟩ x_36 H36 he36
              replace H36 : chip_Erase_l2 c0 x_9 r_10 x_34 q_35 = some x_36 := H36
              unfold chip_Erase_l2 at H36
              refine TC.seqS ?_
              refine TS.s OpY.lss rfl ?_
              refine TS.nil ?_
              refine TE.then ?_
              refine TC.kp [2, 4, 6, 7, 8, 90, 91, 92] [b2_0, b4_1, b6_4, b16_3, bo16_3, br16_3, b8_10] ?_
              refine TC.seq ?_
              refine TC.cond (fun hc => ?_) (fun hc => ?_)
              · replace H36 := cT H36 hc
                refine TC.skip ?_
                refine TE.then ?_
                refine TC.kp [2, 4, 6, 7, 8, 90, 91] [b2_0, b4_1, b6_4, b16_3, bo16_3, br16_3, b8_10] ?_
                refine TC.seq ?_
                refine TC.block ?_
                refine TC.seqS ?_
                refine TS.s OpY.move rfl ?_
                refine TS.s OpY.assign rfl ?_
                refine TS.nil ?_
                refine TE.then ?_
                refine TC.kp [2, 4, 6, 7, 8, 11, 90, 91] [b2_0, b4_1, b6_4, b16_3, bo16_3, br16_3, b8_10] ?_
                refine TC.seqS ?_
                refine TS.s OpY.fieldAddr rfl ?_
                refine TS.s (OpD.ldq (Pl.fld (off := 1) (α := Chip) (β := Int) Pl.one)) rfl ?_
                refine TS.s OpY.move rfl ?_
                refine TS.nil ?_
                refine TE.then ?_
                refine TC.kp [2, 4, 6, 7, 8, 11, 90, 91, 95, 96] [b2_0, b4_1, b6_4, b16_3, bo16_3, br16_3, b8_10] ?_
                obtain ⟨o_38, H38, H36⟩ := bnd H36
                refine TC.cutP (fun s : (List (List UInt8)) => o_38 = s) (fun (q_37 : (List (List UInt8))) (_ : Unit) => (Env.set (Env.set (Env.set (Env.set (Env.set (Env.set (Env.set Env.nil 2 (Pt b2_0 0)) 4 (Pt b4_1 0)) 6 (Pt b6_4 0)) 7 (Pq b16_3 (0 + Int.toNat block0 * Dat.sz Block) p16_3)) 8 (Pt b8_10 0)) 90 (D (c0.Pages : Int))) 91 (D (x_34 : Int)))) (fun (q_37 : (List (List UInt8))) (_ : Unit) => [⟨b16_3, p16_3, (Ct.mix (Row (l_31 : List Block) c16_3) ((0 + Int.toNat block0 * Dat.sz Block) + 0) (Sl bo16_3 po16_3 0 x_9.Pages.length co16_3))⟩, ⟨bo16_3, po16_3, RowS br16_3 po16_3 1 (List.map List.length q_37) x_9.Pages.length⟩, ⟨br16_3, po16_3, (Row (List.flatten q_37 : List UInt8) cr16_3)⟩, ⟨b2_0, True, (One (c0 : Chip))⟩, ⟨b4_1, True, (One (Dat.z : Chip))⟩, ⟨b6_4, True, (Ct.mix (One (d_13 : Chip)) 2 (Sl b16_3 p16_3 0 l_31.length c16_3))⟩, ⟨b8_10, True, (One (r_10.1 : Fault))⟩]) ?_ ?_
                · skip
                  refine TC.block ?_
                  refine TC.loopP H38 (fun ⟨x_39, q_40⟩ (_ : Unit) => (Env.set (Env.set (Env.set (Env.set (Env.set (Env.set (Env.set (Env.set (Env.set (Env.set Env.nil 2 (Pt b2_0 0)) 4 (Pt b4_1 0)) 6 (Pt b6_4 0)) 7 (Pq b16_3 (0 + Int.toNat block0 * Dat.sz Block) p16_3)) 8 (Pt b8_10 0)) 11 (D (x_34 : Int))) 90 (D (c0.Pages : Int))) 91 (D (x_34 : Int))) 95 (D (c0.Size : Int))) 96 (D (x_39 : Int)))) (fun ⟨x_39, q_40⟩ (_ : Unit) => [⟨b16_3, p16_3, (Ct.mix (Row (l_31 : List Block) c16_3) ((0 + Int.toNat block0 * Dat.sz Block) + 0) (Sl bo16_3 po16_3 0 x_9.Pages.length co16_3))⟩, ⟨bo16_3, po16_3, RowS br16_3 po16_3 1 (List.map List.length q_40) x_9.Pages.length⟩, ⟨br16_3, po16_3, (Row (List.flatten q_40 : List UInt8) cr16_3)⟩, ⟨b2_0, True, (One (c0 : Chip))⟩, ⟨b4_1, True, (One (Dat.z : Chip))⟩, ⟨b6_4, True, (Ct.mix (One (d_13 : Chip)) 2 (Sl b16_3 p16_3 0 l_31.length c16_3))⟩, ⟨b8_10, True, (One (r_10.1 : Fault))⟩]) () (Env.cv (Env.cv (Env.cv (Env.cv (Env.cv (Env.cv (Env.cv (Env.cv (Env.cv (Env.cv (Env.le_nil _))))))))))) (Less.pk rfl (Less.pk rfl (Less.pk rfl (Less.pk rfl (Less.pk rfl (Less.pk rfl (Less.pk rfl (Less.nil _)))))))) ?_
                  rintro ⟨x_39, q_40⟩ ⟨⟩ x_41 H41 he41
                  replace H41 : chip_Erase_l3 c0 x_9 r_10 x_34 x_39 q_40 = some x_41 := H41
                  unfold chip_Erase_l3 at H41
                  refine TC.seqS ?_
                  refine TS.s OpY.lss rfl ?_
                  refine TS.nil ?_
                  refine TE.then ?_
                  refine TC.kp [2, 4, 6, 7, 8, 11, 90, 91, 95, 96, 97] [b2_0, b4_1, b6_4, b16_3, bo16_3, br16_3, b8_10] ?_
                  refine TC.seq ?_
                  refine TC.cond (fun hc => ?_) (fun hc => ?_)
                  · replace H41 := cT H41 hc
                    refine TC.skip ?_
                    refine TE.then ?_
                    refine TC.kp [2, 4, 6, 7, 8, 11, 90, 91, 95, 96] [b2_0, b4_1, b6_4, b16_3, bo16_3, br16_3, b8_10] ?_
                    refine TC.seq ?_
                    refine TC.block ?_
                    refine TC.seqS ?_
                    refine TS.s OpY.move rfl ?_
                    refine TS.s OpY.assign rfl ?_
                    refine TS.nil ?_
                    refine TE.then ?_
                    refine TC.kp [2, 4, 6, 7, 8, 11, 12, 90, 91, 95, 96] [b2_0, b4_1, b6_4, b16_3, bo16_3, br16_3, b8_10] ?_
                    refine TC.regD [6, 8, 9, 12, 13, 14] [bo16_3, br16_3] mix (by kernel_rfl) (by kernel_rfl) ?_
                    refine TR.s OpY.move rfl ?_
                    refine TR.s OpY.nilCheck rfl ?_
                    refine TR.s OpY.fieldAddr rfl ?_
                    refine TR.s (OpD.ldHq CeH.here) rfl ?_
                    refine TR.s OpY.move rfl ?_
                    obtain ⟨u_42, eu_42, H41⟩ := bnd H41
                    obtain ⟨x_43, ex_43, H41⟩ := bnd H41
                    refine TR.s (OpD.indexq (idx_in ex_43 (lenI_eq eu_42))) rfl ?_
                    refine TR.t (fun g => OpT.G rfl (OpD.ldHq (RowS.atP ex_43 (by show 0 + _ * 1 = _; omega)))) rfl ?_
                    refine TR.s OpY.move rfl ?_
                    obtain ⟨x_44, ex_44, H41⟩ := bnd H41
                    refine TR.t (fun g => OpT.G rfl (OpD.indexq (idx_in ex_44 rfl))) rfl ?_
                    refine TR.t (fun g => OpT.G rfl (OpD.ldq (Pl.page ex_43 ex_44))) rfl ?_
                    refine TR.s OpY.fieldAddr rfl ?_
                    refine TR.s (OpD.ldq (Pl.fld (off := 3) (α := Fault) (β := UInt8) Pl.one)) rfl ?_
                    refine TR.t (fun g => OpT.G rfl OpY.or8) rfl ?_
                    obtain ⟨x_45, ex_45, H41⟩ := bnd H41
                    refine TR.t (fun g => OpT.G rfl (OpD.indexq (idx_in ex_45 rfl))) rfl ?_
                    refine TR.tn (fun g => (OpT.storeq (y := ((x_44 ||| r_10.1.Mask) : UInt8)) (Pl.page ex_43 ex_45))) rfl ?_
                    refine TR.nil ?_
                    rintro ⟨⟨⟨⟨⟨⟨_, _⟩, _⟩, _⟩, _⟩, _⟩, _⟩
                    dsimp only [Fam.nextS, Fam.nextN, Fam.one, List.cons_append, List.nil_append]
                    refine TE.kp [2, 4, 6, 7, 8, 11, 90, 91, 95, 96] [b2_0, b4_1, b6_4, b16_3, bo16_3, br16_3, b8_10] ?_
                    refine TE.nmB bo16_3 (rowS_set (ys := (x_43.set (Int.toNat x_39) (x_44 ||| r_10.1.Mask))) ex_43 (by simp)) ?_
                    obtain ⟨q_46, eq_46, H41⟩ := bnd H41
                    refine TE.nmB br16_3 (rowF_nm eq_46) ?_
                    refine TE.nmB bo16_3 (rowS_nm eq_46) ?_
                    refine TE.inBlock_normal ?_
                    refine TE.then ?_
                    refine TC.kp [2, 4, 6, 7, 8, 11, 90, 91, 95, 96] [b2_0, b4_1, b6_4, b16_3, bo16_3, br16_3, b8_10] ?_
                    refine TC.regionS ?_
                    obtain ⟨x_47, ex_47, H41⟩ := bnd H41
                    refine TS.s (OpD.add ex_47) rfl ?_
                    refine TS.s OpY.move rfl ?_
                    refine TS.nil ?_
                    refine TE.kp [2, 4, 6, 7, 8, 11, 90, 91, 95, 96] [b2_0, b4_1, b6_4, b16_3, bo16_3, br16_3, b8_10] ?_
                    exact TE.backP ⟨x_47, q_46⟩ () (Option.some.inj H41).symm (Env.cv (Env.cv (Env.cv (Env.cv (Env.cv (Env.cv (Env.cv (Env.cv (Env.cv (Env.cv (Env.le_nil _))))))))))) (Less.pk rfl (Less.pk rfl (Less.pk rfl (Less.pk rfl (Less.pk rfl (Less.pk rfl (Less.pk rfl (Less.nil _))))))))
                  · replace H41 := cF H41 hc
                    refine TC.exit ?_
                    refine TE.then_exit ?_
                    refine TE.then_exit ?_
                    refine TE.inBlock_here ?_
                    exact TE.cutP q_40 () (he41 _ (Option.some.inj H41).symm).symm (Env.cv (Env.cv (Env.cv (Env.cv (Env.cv (Env.cv (Env.cv (Env.le_nil _)))))))) (Less.pk rfl (Less.pk rfl (Less.pk rfl (Less.pk rfl (Less.pk rfl (Less.pk rfl (Less.pk rfl (Less.nil _))))))))
                rintro q_37 ⟨⟩ hp
                replace hp := hp.symm
                subst hp
                refine TE.inBlock_normal ?_
                refine TE.then ?_
                refine TC.kp [2, 4, 6, 7, 8, 90, 91] [b2_0, b4_1, b6_4, b16_3, bo16_3, br16_3, b8_10] ?_
                refine TC.regionS ?_
                obtain ⟨x_48, ex_48, H36⟩ := bnd H36
                refine TS.s (OpD.add ex_48) rfl ?_
                refine TS.s OpY.move rfl ?_
                refine TS.nil ?_
                refine TE.kp [2, 4, 6, 7, 8, 90, 91] [b2_0, b4_1, b6_4, b16_3, bo16_3, br16_3, b8_10] ?_
                exact TE.backP ⟨x_48, q_37⟩ () (Option.some.inj H36).symm (Env.cv (Env.cv (Env.cv (Env.cv (Env.cv (Env.cv (Env.cv (Env.le_nil _)))))))) (Less.pk rfl (Less.pk rfl (Less.pk rfl (Less.pk rfl (Less.pk rfl (Less.pk rfl (Less.pk rfl (Less.nil _))))))))
              · replace H36 := cF H36 hc
                refine TC.exit ?_
                refine TE.then_exit ?_
                refine TE.then_exit ?_
                refine TE.inBlock_here ?_
                exact TE.cutP q_35 () (he36 _ (Option.some.inj H36).symm).symm (Env.cv (Env.cv (Env.cv (Env.le_nil _)))) (Less.pk rfl (Less.pk rfl (Less.pk rfl (Less.pk rfl (Less.pk rfl (Less.pk rfl (Less.nil _)))))))
            rintro q_32 ⟨⟩ hp
            replace hp := hp.symm
            subst hp
            refine TE.then ?_
            refine TC.kp [4, 6, 8] [b4_1, b6_4, b16_3, bo16_3, br16_3, b8_10] ?_
            refine TC.seqS ?_
            refine TS.s (OpD.ldq Pl.one) rfl ?_
            obtain ⟨r_49, er_49, H⟩ := bnd H
            refine TS.s (OpY.call1 fun w v0 hA h0 => chip_struck_c w v0 hA (toD h0) er_49) rfl ?_
            refine TS.s OpY.move rfl ?_
            refine TS.s (OpY.extract rfl) rfl ?_
            refine TS.s (OpY.extract rfl) rfl ?_
            refine TS.s OpY.assign rfl ?_
            refine TS.s OpY.assign rfl ?_
            refine TS.nil ?_
            refine TE.then ?_
            refine TC.kp [4, 6, 13, 14] [b4_1, b6_4, b16_3, bo16_3, br16_3] ?_
            refine TC.seqS ?_
            refine TS.s OpY.move rfl ?_
            refine TS.s OpY.fieldAddr rfl ?_
            refine TS.un (OpT.storeq (y := (r_49.1 : Bool)) (Pl.mix (Pl.fld (off := 4) (α := Chip) (β := Bool) Pl.one) (by first | decide | omega))) ?_
            refine TS.nil ?_
            refine TE.then ?_
            refine TC.kp [4, 6, 14] [b4_1, b6_4, b16_3, bo16_3, br16_3] ?_
            obtain ⟨d_50, ed_50, H⟩ := bnd H
            refine TC.nmB b6_4 (nm_mix (nm_one ed_50)) ?_
            refine TC.seqS ?_
            refine TS.s (OpY.ldC trivial rfl rfl) rfl ?_
            refine TS.s OpY.move rfl ?_
            refine TS.un (OpT.storeC trivial rfl CtSc.h) ?_
            refine TS.s OpY.assign rfl ?_
            refine TS.nil ?_
            refine TE.then ?_
            refine TC.kp [4, 5] [b4_1, b16_3, bo16_3, br16_3] ?_
            refine TC.ret ?_
            obtain ⟨u_51, eu_51, H⟩ := bnd H
            refine TE.collS bo16_3 br16_3 rfl (lenI_eq eu_51) ?_
            obtain ⟨x_52, ex_52, H⟩ := bnd H
            refine TE.coll b16_3 bo16_3 (o := ((0 + Int.toNat block0 * Dat.sz Block) + 0)) (((Pl.fld (off := 0) (α := Block) (β := (List (List UInt8))) (Pl.rowz ex_52))).st (q_32 : List (List UInt8))) (PubC.sv PlS.all (lenI_eq eu_51)) ?_
            refine TE.nmB b4_1 (mix_n (m := l_31.length) (n := (l_31.set (Int.toNat block0) (⟨q_32, x_52.Used, x_52.Worn, x_52.Bad⟩ : Block)).length) (by simp)) ?_
            refine TE.coll b4_1 b16_3 (o := 2) (((Pl.fld (off := 2) (α := Chip) (β := (List Block)) Pl.one)).st ((l_31.set (Int.toNat block0) (⟨q_32, x_52.Used, x_52.Worn, x_52.Bad⟩ : Block)) : List Block)) (PubC.sv PlS.all (by simp)) ?_
            obtain rfl := (Option.some.inj H)
            exact TE.retN rfl rfl (.cons Cv.le (.cons Cv.le .nil))
def bywayref06_Short_l2 (c0 : Chip) (i_3 : Int) (k_8 : Int) : Option (Int ⊕ (Unit ⊕ Bool)) :=
  (idx c0.Blocks i_3).bind fun x_10 => bif (decide (k_8 < (x_10.Pages.length : Int))) then ((idx c0.Blocks i_3).bind fun x_11 => (idx x_11.Pages k_8).bind fun x_12 => bif (decide ((x_12.length : Int) > (300 : Int))) then (some (.inr (.inr false))) else ((addI k_8 (1 : Int)).bind fun x_15 => some (.inl x_15))) else (some (.inr (.inl ())))
def bywayref06_Short_l1 (c0 : Chip) (i_3 : Int) : Option (Int ⊕ (Unit ⊕ Bool)) :=
  bif (decide (i_3 < (c0.Blocks.length : Int))) then ((idx c0.Blocks i_3).bind fun x_5 => bif (decide ((x_5.Pages.length : Int) > (20 : Int))) then (some (.inr (.inr false))) else ((loopO (fun s => bywayref06_Short_l2 c0 i_3 s) (0 : Int)).bind fun o_7 => elS o_7 (fun _ => (addI i_3 (1 : Int)).bind fun x_16 => some (.inl x_16)) (fun q => some (.inr (.inr q))))) else (some (.inr (.inl ())))
def bywayref06_Short (c0 : Chip) : Option Bool :=
  bif ((decide ((c0.Blocks.length : Int) > (40 : Int))) || (decide ((c0.Faults.length : Int) > (80 : Int)))) then (some false) else ((loopO (fun s => bywayref06_Short_l1 c0 s) (0 : Int)).bind fun o_2 => elS o_2 (fun _ => some true) (fun q => some q))
/-- bywayref06.Short -/
theorem bywayref06_Short_c {A : Nat → Prop} {c0 : Chip}  {r : Bool} (w : World) (v0 : Value) (hA : ∀ k, w.heap.size ≤ k → A k)  (h0 : (D (c0 : Chip)).p A w v0) (H : bywayref06_Short c0 = some r) :
    Calls Try.prog 38 #[v0] w (Ret A w (D (r : Bool))) := by
  unfold bywayref06_Short at H
  refine enter1 hA Try.func38 rfl Try.ntmps38 rfl h0 ?_
  refine TC.seqS ?_
  refine TS.box rfl fun b1_0 => ?_
  refine TS.s OpY.assign rfl ?_
  refine TS.nil ?_
  refine TE.then ?_
  refine TC.kp [1] [b1_0] ?_
  refine TC.seq ?_
  refine TC.seqS ?_
  refine TS.s OpY.fieldAddr rfl ?_
  refine TS.s (OpD.ldq (Pl.fld (off := 2) (α := Chip) (β := (List Block)) Pl.one)) rfl ?_
  refine TS.s OpD.len rfl ?_
  refine TS.s OpY.gtr rfl ?_
  refine TS.s OpY.move rfl ?_
  refine TS.g 9 rfl (fun hg => OpY.fieldAddr) rfl ?_
  refine TS.g 9 rfl (fun hg => (OpD.ldq (Pl.fld (off := 5) (α := Chip) (β := (List Fault)) Pl.one))) rfl ?_
  refine TS.g 9 rfl (fun hg => OpD.len) rfl ?_
  refine TS.g 9 rfl (fun hg => OpY.gtr) rfl ?_
  refine TS.s OpY.pickOr rfl ?_
  refine TS.nil ?_
  refine TE.then ?_
  refine TC.kp [1, 14] [b1_0] ?_
  refine TC.cond (fun hc => ?_) (fun hc => ?_)
  · replace H := cT H hc
    refine TC.seqS ?_
    refine TS.s OpY.assign rfl ?_
    refine TS.nil ?_
    refine TE.then ?_
    refine TC.kp [2] [] ?_
    refine TC.ret ?_
    refine TE.then_ret ?_
    obtain rfl := (Option.some.inj H)
    exact TE.ret1 rfl Cv.le
  · replace H := cF H hc
    refine TC.skip ?_
    refine TE.then ?_
    refine TC.kp [1] [b1_0] ?_
    refine TC.seq ?_
    refine TC.seqS ?_
    refine TS.s OpY.assign rfl ?_
    refine TS.nil ?_
    refine TE.then ?_
    refine TC.kp [1, 3] [b1_0] ?_
    obtain ⟨o_2, H2, H⟩ := bnd H
    refine TC.cutP (fun s : Unit => o_2 = .inl s) (fun (_ : Unit) (_ : Unit) => Env.nil) (fun (_ : Unit) (_ : Unit) => []) ?_ ?_
    · skip
      refine TC.block ?_
      refine TC.loopP H2 (fun (i_3 : Int) (_ : Unit) => (Env.set (Env.set Env.nil 1 (Pt b1_0 0)) 3 (D (i_3 : Int)))) (fun (i_3 : Int) (_ : Unit) => [⟨b1_0, True, (One (c0 : Chip))⟩]) () (Env.cv (Env.cv (Env.le_nil _))) (Less.pk rfl (Less.nil _)) ?_
      rintro i_3 ⟨⟩ x_4 H4 he4
      replace H4 : bywayref06_Short_l1 c0 i_3 = some x_4 := H4
      unfold bywayref06_Short_l1 at H4
      refine TC.seq ?_
      refine TC.seqS ?_
      refine TS.s OpY.move rfl ?_
      refine TS.s OpY.fieldAddr rfl ?_
      refine TS.s (OpD.ldq (Pl.fld (off := 2) (α := Chip) (β := (List Block)) Pl.one)) rfl ?_
      refine TS.s OpD.len rfl ?_
      refine TS.s OpY.lss rfl ?_
      refine TS.nil ?_
      refine TE.then ?_
      refine TC.kp [1, 3, 19] [b1_0] ?_
      refine TC.cond (fun hc => ?_) (fun hc => ?_)
      · replace H4 := cT H4 hc
        refine TC.skip ?_
        refine TE.then ?_
        refine TC.kp [1, 3] [b1_0] ?_
        refine TC.seq ?_
        refine TC.block ?_
        refine TC.seq ?_
        refine TC.seqS ?_
        refine TS.s OpY.fieldAddr rfl ?_
        refine TS.s (OpD.ldq (Pl.fld (off := 2) (α := Chip) (β := (List Block)) Pl.one)) rfl ?_
        refine TS.s OpY.move rfl ?_
        obtain ⟨x_5, ex_5, H4⟩ := bnd H4
        refine TS.s (OpD.index ex_5) rfl ?_
        refine TS.s OpY.fieldAddr rfl ?_
        refine TS.s OpY.load rfl ?_
        refine TS.s OpD.len rfl ?_
        refine TS.s OpY.gtr rfl ?_
        refine TS.nil ?_
        refine TE.then ?_
        refine TC.kp [1, 3, 29] [b1_0] ?_
        refine TC.cond (fun hc => ?_) (fun hc => ?_)
        · replace H4 := cT H4 hc
          refine TC.seqS ?_
          refine TS.s OpY.assign rfl ?_
          refine TS.nil ?_
          refine TE.then ?_
          refine TC.kp [2] [] ?_
          refine TC.ret ?_
          refine TE.then_ret ?_
          refine TE.inBlock_ret ?_
          refine TE.then_ret ?_
          refine TE.then_ret ?_
          refine TE.inBlock_ret ?_
          refine TE.cut_ret ?_
          have R5 := elS_r (he4 _ (Option.some.inj H4).symm) H
          refine TE.then_ret ?_
          obtain rfl := (Option.some.inj R5)
          exact TE.ret1 rfl Cv.le
        · replace H4 := cF H4 hc
          refine TC.skip ?_
          refine TE.then ?_
          refine TC.kp [1, 3] [b1_0] ?_
          refine TC.seqS ?_
          refine TS.s OpY.assign rfl ?_
          refine TS.nil ?_
          refine TE.then ?_
          refine TC.kp [1, 3, 4] [b1_0] ?_
          obtain ⟨o_7, H7, H4⟩ := bnd H4
          refine TC.cutP (fun s : Unit => o_7 = .inl s) (fun (_ : Unit) (_ : Unit) => (Env.set (Env.set Env.nil 1 (Pt b1_0 0)) 3 (D (i_3 : Int)))) (fun (_ : Unit) (_ : Unit) => [⟨b1_0, True, (One (c0 : Chip))⟩]) ?_ ?_
          · skip
            refine TC.block ?_
            refine TC.loopP H7 (fun (k_8 : Int) (_ : Unit) => (Env.set (Env.set (Env.set Env.nil 1 (Pt b1_0 0)) 3 (D (i_3 : Int))) 4 (D (k_8 : Int)))) (fun (k_8 : Int) (_ : Unit) => [⟨b1_0, True, (One (c0 : Chip))⟩]) () (Env.cv (Env.cv (Env.cv (Env.le_nil _)))) (Less.pk rfl (Less.nil _)) ?_
            rintro k_8 ⟨⟩ x_9 H9 he9
            replace H9 : bywayref06_Short_l2 c0 i_3 k_8 = some x_9 := H9
            unfold bywayref06_Short_l2 at H9
            refine TC.seq ?_
            refine TC.seqS ?_
            refine TS.s OpY.move rfl ?_
            refine TS.s OpY.fieldAddr rfl ?_
            refine TS.s (OpD.ldq (Pl.fld (off := 2) (α := Chip) (β := (List Block)) Pl.one)) rfl ?_
            refine TS.s OpY.move rfl ?_
            obtain ⟨x_10, ex_10, H9⟩ := bnd H9
            refine TS.s (OpD.index ex_10) rfl ?_
            refine TS.s OpY.fieldAddr rfl ?_
            refine TS.s OpY.load rfl ?_
            refine TS.s OpD.len rfl ?_
            refine TS.s OpY.lss rfl ?_
            refine TS.nil ?_
            refine TE.then ?_
            refine TC.kp [1, 3, 4, 38] [b1_0] ?_
            refine TC.cond (fun hc => ?_) (fun hc => ?_)
            · replace H9 := cT H9 hc
              refine TC.skip ?_
              refine TE.then ?_
              refine TC.kp [1, 3, 4] [b1_0] ?_
              refine TC.seq ?_
              refine TC.block ?_
              refine TC.seqS ?_
              refine TS.s OpY.fieldAddr rfl ?_
              refine TS.s (OpD.ldq (Pl.fld (off := 2) (α := Chip) (β := (List Block)) Pl.one)) rfl ?_
              refine TS.s OpY.move rfl ?_
              obtain ⟨x_11, ex_11, H9⟩ := bnd H9
              refine TS.s (OpD.index ex_11) rfl ?_
              refine TS.s OpY.fieldAddr rfl ?_
              refine TS.s OpY.load rfl ?_
              refine TS.s OpY.move rfl ?_
              obtain ⟨x_12, ex_12, H9⟩ := bnd H9
              refine TS.s (OpD.index ex_12) rfl ?_
              refine TS.s OpY.load rfl ?_
              refine TS.s OpD.len rfl ?_
              refine TS.s OpY.gtr rfl ?_
              refine TS.nil ?_
              refine TE.then ?_
              refine TC.kp [1, 3, 4, 51] [b1_0] ?_
              refine TC.cond (fun hc => ?_) (fun hc => ?_)
              · replace H9 := cT H9 hc
                refine TC.seqS ?_
                refine TS.s OpY.assign rfl ?_
                refine TS.nil ?_
                refine TE.then ?_
                refine TC.kp [2] [] ?_
                refine TC.ret ?_
                refine TE.inBlock_ret ?_
                refine TE.then_ret ?_
                refine TE.then_ret ?_
                refine TE.inBlock_ret ?_
                refine TE.cut_ret ?_
                have R12 := elS_r (he9 _ (Option.some.inj H9).symm) H4
                refine TE.inBlock_ret ?_
                refine TE.then_ret ?_
                refine TE.then_ret ?_
                refine TE.inBlock_ret ?_
                refine TE.cut_ret ?_
                have R13 := elS_r (he4 _ (Option.some.inj R12).symm) H
                refine TE.then_ret ?_
                obtain rfl := (Option.some.inj R13)
                exact TE.ret1 rfl Cv.le
              · replace H9 := cF H9 hc
                refine TC.skip ?_
                refine TE.inBlock_normal ?_
                refine TE.then ?_
                refine TC.kp [1, 3, 4] [b1_0] ?_
                refine TC.regionS ?_
                refine TS.s OpY.move rfl ?_
                obtain ⟨x_15, ex_15, H9⟩ := bnd H9
                refine TS.s (OpD.add ex_15) rfl ?_
                refine TS.s OpY.assign rfl ?_
                refine TS.nil ?_
                refine TE.kp [1, 3, 4] [b1_0] ?_
                exact TE.backP x_15 () (Option.some.inj H9).symm (Env.cv (Env.cv (Env.cv (Env.le_nil _)))) (Less.pk rfl (Less.nil _))
            · replace H9 := cF H9 hc
              refine TC.exit ?_
              refine TE.then_exit ?_
              refine TE.then_exit ?_
              refine TE.inBlock_here ?_
              exact TE.cutP () () (he9 _ (Option.some.inj H9).symm).symm (Env.cv (Env.cv (Env.le_nil _))) (Less.pk rfl (Less.nil _))
          rintro ⟨⟩ ⟨⟩ hp
          replace H4 := elS_l hp H4
          refine TE.inBlock_normal ?_
          refine TE.then ?_
          refine TC.kp [1, 3] [b1_0] ?_
          refine TC.regionS ?_
          refine TS.s OpY.move rfl ?_
          obtain ⟨x_16, ex_16, H4⟩ := bnd H4
          refine TS.s (OpD.add ex_16) rfl ?_
          refine TS.s OpY.assign rfl ?_
          refine TS.nil ?_
          refine TE.kp [1, 3] [b1_0] ?_
          exact TE.backP x_16 () (Option.some.inj H4).symm (Env.cv (Env.cv (Env.le_nil _))) (Less.pk rfl (Less.nil _))
      · replace H4 := cF H4 hc
        refine TC.exit ?_
        refine TE.then_exit ?_
        refine TE.then_exit ?_
        refine TE.inBlock_here ?_
        exact TE.cutP () () (he4 _ (Option.some.inj H4).symm).symm (Env.le_nil _) (Less.nil _)
    rintro ⟨⟩ ⟨⟩ hp
    replace H := elS_l hp H
    refine TE.then ?_
    refine TC.kp [] [] ?_
    refine TC.seqS ?_
    refine TS.s OpY.assign rfl ?_
    refine TS.nil ?_
    refine TE.then ?_
    refine TC.kp [2] [] ?_
    refine TC.ret ?_
    obtain rfl := (Option.some.inj H)
    exact TE.ret1 rfl Cv.le
def bywayref06_Blocks_l1 (a0 : Block) (b0 : Block) (i_4 : Int) : Option (Int ⊕ (Unit ⊕ Bool)) :=
  bif (decide (i_4 < (a0.Pages.length : Int))) then ((idx a0.Pages i_4).bind fun x_6 => (idx b0.Pages i_4).bind fun x_7 => bif (decide (x_6 ≠ x_7)) then (some (.inr (.inr false))) else ((addI i_4 (1 : Int)).bind fun x_9 => some (.inl x_9))) else (some (.inr (.inl ())))
def bywayref06_Blocks (a0 : Block) (b0 : Block) : Option Bool :=
  bif ((((decide (a0.Used ≠ b0.Used)) || (decide (a0.Worn ≠ b0.Worn))) || (decide (a0.Bad ≠ b0.Bad))) || (decide ((a0.Pages.length : Int) ≠ (b0.Pages.length : Int)))) then (some false) else ((loopO (fun s => bywayref06_Blocks_l1 a0 b0 s) (0 : Int)).bind fun o_3 => elS o_3 (fun _ => some true) (fun q => some q))
/-- bywayref06.Blocks -/
theorem bywayref06_Blocks_c {A : Nat → Prop} {a0 : Block} {b0 : Block}  {r : Bool} (w : World) (v0 v1 : Value) (hA : ∀ k, w.heap.size ≤ k → A k)  (h0 : (D (a0 : Block)).p A w v0) (h1 : (D (b0 : Block)).p A w v1) (H : bywayref06_Blocks a0 b0 = some r) :
    Calls Try.prog 40 #[v0, v1] w (Ret A w (D (r : Bool))) := by
  unfold bywayref06_Blocks at H
  refine enter2 hA Try.func40 rfl Try.ntmps40 rfl h0 h1 ?_
  refine TC.seqS ?_
  refine TS.box rfl fun b2_0 => ?_
  refine TS.box rfl fun b3_1 => ?_
  refine TS.s OpY.assign rfl ?_
  refine TS.nil ?_
  refine TE.then ?_
  refine TC.kp [2, 3] [b2_0, b3_1] ?_
  refine TC.seq ?_
  refine TC.seqS ?_
  refine TS.s OpY.fieldAddr rfl ?_
  refine TS.s (OpD.ldq (Pl.fld (off := 1) (α := Block) (β := Int) Pl.one)) rfl ?_
  refine TS.s OpY.fieldAddr rfl ?_
  refine TS.s (OpD.ldq (Pl.fld (off := 1) (α := Block) (β := Int) Pl.one)) rfl ?_
  refine TS.s OpY.neq rfl ?_
  refine TS.s OpY.move rfl ?_
  refine TS.g 11 rfl (fun hg => OpY.fieldAddr) rfl ?_
  refine TS.g 11 rfl (fun hg => (OpD.ldq (Pl.fld (off := 2) (α := Block) (β := Int) Pl.one))) rfl ?_
  refine TS.g 11 rfl (fun hg => OpY.fieldAddr) rfl ?_
  refine TS.g 11 rfl (fun hg => (OpD.ldq (Pl.fld (off := 2) (α := Block) (β := Int) Pl.one))) rfl ?_
  refine TS.g 11 rfl (fun hg => OpY.neq) rfl ?_
  refine TS.s OpY.pickOr rfl ?_
  refine TS.s OpY.move rfl ?_
  refine TS.g 18 rfl (fun hg => OpY.fieldAddr) rfl ?_
  refine TS.g 18 rfl (fun hg => (OpD.ldq (Pl.fld (off := 3) (α := Block) (β := Bool) Pl.one))) rfl ?_
  refine TS.g 18 rfl (fun hg => OpY.fieldAddr) rfl ?_
  refine TS.g 18 rfl (fun hg => (OpD.ldq (Pl.fld (off := 3) (α := Block) (β := Bool) Pl.one))) rfl ?_
  refine TS.g 18 rfl (fun hg => (OpY.neq_bool Try.underlying4)) rfl ?_
  refine TS.s OpY.pickOr rfl ?_
  refine TS.s OpY.move rfl ?_
  refine TS.g 25 rfl (fun hg => OpY.fieldAddr) rfl ?_
  refine TS.g 25 rfl (fun hg => (OpD.ldq (Pl.fld (off := 0) (α := Block) (β := (List (List UInt8))) Pl.one))) rfl ?_
  refine TS.g 25 rfl (fun hg => OpD.len) rfl ?_
  refine TS.g 25 rfl (fun hg => OpY.fieldAddr) rfl ?_
  refine TS.g 25 rfl (fun hg => (OpD.ldq (Pl.fld (off := 0) (α := Block) (β := (List (List UInt8))) Pl.one))) rfl ?_
  refine TS.g 25 rfl (fun hg => OpD.len) rfl ?_
  refine TS.g 25 rfl (fun hg => OpY.neq) rfl ?_
  refine TS.s OpY.pickOr rfl ?_
  refine TS.nil ?_
  refine TE.then ?_
  refine TC.kp [2, 3, 33] [b2_0, b3_1] ?_
  refine TC.cond (fun hc => ?_) (fun hc => ?_)
  · replace H := cT H hc
    refine TC.seqS ?_
    refine TS.s OpY.assign rfl ?_
    refine TS.nil ?_
    refine TE.then ?_
    refine TC.kp [4] [] ?_
    refine TC.ret ?_
    refine TE.then_ret ?_
    obtain rfl := (Option.some.inj H)
    exact TE.ret1 rfl Cv.le
  · replace H := cF H hc
    refine TC.skip ?_
    refine TE.then ?_
    refine TC.kp [2, 3] [b2_0, b3_1] ?_
    refine TC.seq ?_
    refine TC.seqS ?_
    refine TS.s OpY.assign rfl ?_
    refine TS.nil ?_
    refine TE.then ?_
    refine TC.kp [2, 3, 5] [b2_0, b3_1] ?_
    obtain ⟨o_3, H3, H⟩ := bnd H
    refine TC.cutP (fun s : Unit => o_3 = .inl s) (fun (_ : Unit) (_ : Unit) => Env.nil) (fun (_ : Unit) (_ : Unit) => []) ?_ ?_
    · skip
      refine TC.block ?_
      refine TC.loopP H3 (fun (i_4 : Int) (_ : Unit) => (Env.set (Env.set (Env.set Env.nil 2 (Pt b2_0 0)) 3 (Pt b3_1 0)) 5 (D (i_4 : Int)))) (fun (i_4 : Int) (_ : Unit) => [⟨b2_0, True, (One (a0 : Block))⟩, ⟨b3_1, True, (One (b0 : Block))⟩]) () (Env.cv (Env.cv (Env.cv (Env.le_nil _)))) (Less.pk rfl (Less.pk rfl (Less.nil _))) ?_
      rintro i_4 ⟨⟩ x_5 H5 he5
      replace H5 : bywayref06_Blocks_l1 a0 b0 i_4 = some x_5 := H5
      unfold bywayref06_Blocks_l1 at H5
      refine TC.seq ?_
      refine TC.seqS ?_
      refine TS.s OpY.move rfl ?_
      refine TS.s OpY.fieldAddr rfl ?_
      refine TS.s (OpD.ldq (Pl.fld (off := 0) (α := Block) (β := (List (List UInt8))) Pl.one)) rfl ?_
      refine TS.s OpD.len rfl ?_
      refine TS.s OpY.lss rfl ?_
      refine TS.nil ?_
      refine TE.then ?_
      refine TC.kp [2, 3, 5, 38] [b2_0, b3_1] ?_
      refine TC.cond (fun hc => ?_) (fun hc => ?_)
      · replace H5 := cT H5 hc
        refine TC.skip ?_
        refine TE.then ?_
        refine TC.kp [2, 3, 5] [b2_0, b3_1] ?_
        refine TC.seq ?_
        refine TC.block ?_
        refine TC.seqD0 mix (by kernel_rfl) ?_
        refine TR.s OpY.fieldAddr rfl ?_
        refine TR.s (OpD.ldq (Pl.fld (off := 0) (α := Block) (β := (List (List UInt8))) Pl.one)) rfl ?_
        refine TR.s OpY.move rfl ?_
        obtain ⟨x_6, ex_6, H5⟩ := bnd H5
        refine TR.s (OpD.index ex_6) rfl ?_
        refine TR.s OpY.load rfl ?_
        refine TR.s OpY.conv_slice_string rfl ?_
        refine TR.s OpY.fieldAddr rfl ?_
        refine TR.s (OpD.ldq (Pl.fld (off := 0) (α := Block) (β := (List (List UInt8))) Pl.one)) rfl ?_
        refine TR.s OpY.move rfl ?_
        obtain ⟨x_7, ex_7, H5⟩ := bnd H5
        refine TR.s (OpD.index ex_7) rfl ?_
        refine TR.s OpY.load rfl ?_
        refine TR.s OpY.conv_slice_string rfl ?_
        refine TR.s OpY.neq_string rfl ?_
        refine TR.nil ?_
        refine TC.kp [2, 3, 5, 53] [b2_0, b3_1] ?_
        refine TC.cond (fun hc => ?_) (fun hc => ?_)
        · replace H5 := cT H5 hc
          refine TC.seqS ?_
          refine TS.s OpY.assign rfl ?_
          refine TS.nil ?_
          refine TE.then ?_
          refine TC.kp [4] [] ?_
          refine TC.ret ?_
          refine TE.inBlock_ret ?_
          refine TE.then_ret ?_
          refine TE.then_ret ?_
          refine TE.inBlock_ret ?_
          refine TE.cut_ret ?_
          have R7 := elS_r (he5 _ (Option.some.inj H5).symm) H
          refine TE.then_ret ?_
          obtain rfl := (Option.some.inj R7)
          exact TE.ret1 rfl Cv.le
        · replace H5 := cF H5 hc
          refine TC.skip ?_
          refine TE.inBlock_normal ?_
          refine TE.then ?_
          refine TC.kp [2, 3, 5] [b2_0, b3_1] ?_
          refine TC.regionS ?_
          refine TS.s OpY.move rfl ?_
          obtain ⟨x_9, ex_9, H5⟩ := bnd H5
          refine TS.s (OpD.add ex_9) rfl ?_
          refine TS.s OpY.assign rfl ?_
          refine TS.nil ?_
          refine TE.kp [2, 3, 5] [b2_0, b3_1] ?_
          exact TE.backP x_9 () (Option.some.inj H5).symm (Env.cv (Env.cv (Env.cv (Env.le_nil _)))) (Less.pk rfl (Less.pk rfl (Less.nil _)))
      · replace H5 := cF H5 hc
        refine TC.exit ?_
        refine TE.then_exit ?_
        refine TE.then_exit ?_
        refine TE.inBlock_here ?_
        exact TE.cutP () () (he5 _ (Option.some.inj H5).symm).symm (Env.le_nil _) (Less.nil _)
    rintro ⟨⟩ ⟨⟩ hp
    replace H := elS_l hp H
    refine TE.then ?_
    refine TC.kp [] [] ?_
    refine TC.seqS ?_
    refine TS.s OpY.assign rfl ?_
    refine TS.nil ?_
    refine TE.then ?_
    refine TC.kp [4] [] ?_
    refine TC.ret ?_
    obtain rfl := (Option.some.inj H)
    exact TE.ret1 rfl Cv.le
def bywayref06_Same_l1 (a0 : Chip) (b0 : Chip) (i_4 : Int) : Option (Int ⊕ (Unit ⊕ Bool)) :=
  bif (decide (i_4 < (a0.Faults.length : Int))) then ((idx a0.Faults i_4).bind fun x_6 => (idx b0.Faults i_4).bind fun x_7 => bif (decide (x_6 ≠ x_7)) then (some (.inr (.inr false))) else ((addI i_4 (1 : Int)).bind fun x_9 => some (.inl x_9))) else (some (.inr (.inl ())))
def bywayref06_Same_l2 (a0 : Chip) (b0 : Chip) (i_11 : Int) : Option (Int ⊕ (Unit ⊕ Bool)) :=
  bif (decide (i_11 < (a0.Blocks.length : Int))) then ((idx a0.Blocks i_11).bind fun x_13 => (idx b0.Blocks i_11).bind fun x_14 => (bywayref06_Blocks x_13 x_14).bind fun x_15 => bif (!x_15) then (some (.inr (.inr false))) else ((addI i_11 (1 : Int)).bind fun x_17 => some (.inl x_17))) else (some (.inr (.inl ())))
def bywayref06_Same (a0 : Chip) (b0 : Chip) : Option Bool :=
  bif ((((((decide (a0.Pages ≠ b0.Pages)) || (decide (a0.Size ≠ b0.Size))) || (decide (a0.Ops ≠ b0.Ops))) || (decide (a0.Off ≠ b0.Off))) || (decide ((a0.Blocks.length : Int) ≠ (b0.Blocks.length : Int)))) || (decide ((a0.Faults.length : Int) ≠ (b0.Faults.length : Int)))) then (some false) else ((loopO (fun s => bywayref06_Same_l1 a0 b0 s) (0 : Int)).bind fun o_3 => elS o_3 (fun _ => (loopO (fun s => bywayref06_Same_l2 a0 b0 s) (0 : Int)).bind fun o_10 => elS o_10 (fun _ => some true) (fun q => some q)) (fun q => some q))
/-- bywayref06.Same -/
theorem bywayref06_Same_c {A : Nat → Prop} {a0 : Chip} {b0 : Chip}  {r : Bool} (w : World) (v0 v1 : Value) (hA : ∀ k, w.heap.size ≤ k → A k)  (h0 : (D (a0 : Chip)).p A w v0) (h1 : (D (b0 : Chip)).p A w v1) (H : bywayref06_Same a0 b0 = some r) :
    Calls Try.prog 35 #[v0, v1] w (Ret A w (D (r : Bool))) := by
  unfold bywayref06_Same at H
  refine enter2 hA Try.func35 rfl Try.ntmps35 rfl h0 h1 ?_
  refine TC.seqS ?_
  refine TS.box rfl fun b2_0 => ?_
  refine TS.box rfl fun b3_1 => ?_
  refine TS.s OpY.assign rfl ?_
  refine TS.nil ?_
  refine TE.then ?_
  refine TC.kp [2, 3] [b2_0, b3_1] ?_
  refine TC.seq ?_
  refine TC.seqS ?_
  refine TS.s OpY.fieldAddr rfl ?_
  refine TS.s (OpD.ldq (Pl.fld (off := 0) (α := Chip) (β := Int) Pl.one)) rfl ?_
  refine TS.s OpY.fieldAddr rfl ?_
  refine TS.s (OpD.ldq (Pl.fld (off := 0) (α := Chip) (β := Int) Pl.one)) rfl ?_
  refine TS.s OpY.neq rfl ?_
  refine TS.s OpY.move rfl ?_
  refine TS.g 12 rfl (fun hg => OpY.fieldAddr) rfl ?_
  refine TS.g 12 rfl (fun hg => (OpD.ldq (Pl.fld (off := 1) (α := Chip) (β := Int) Pl.one))) rfl ?_
  refine TS.g 12 rfl (fun hg => OpY.fieldAddr) rfl ?_
  refine TS.g 12 rfl (fun hg => (OpD.ldq (Pl.fld (off := 1) (α := Chip) (β := Int) Pl.one))) rfl ?_
  refine TS.g 12 rfl (fun hg => OpY.neq) rfl ?_
  refine TS.s OpY.pickOr rfl ?_
  refine TS.s OpY.move rfl ?_
  refine TS.g 19 rfl (fun hg => OpY.fieldAddr) rfl ?_
  refine TS.g 19 rfl (fun hg => (OpD.ldq (Pl.fld (off := 3) (α := Chip) (β := Int) Pl.one))) rfl ?_
  refine TS.g 19 rfl (fun hg => OpY.fieldAddr) rfl ?_
  refine TS.g 19 rfl (fun hg => (OpD.ldq (Pl.fld (off := 3) (α := Chip) (β := Int) Pl.one))) rfl ?_
  refine TS.g 19 rfl (fun hg => OpY.neq) rfl ?_
  refine TS.s OpY.pickOr rfl ?_
  refine TS.s OpY.move rfl ?_
  refine TS.g 26 rfl (fun hg => OpY.fieldAddr) rfl ?_
  refine TS.g 26 rfl (fun hg => (OpD.ldq (Pl.fld (off := 4) (α := Chip) (β := Bool) Pl.one))) rfl ?_
  refine TS.g 26 rfl (fun hg => OpY.fieldAddr) rfl ?_
  refine TS.g 26 rfl (fun hg => (OpD.ldq (Pl.fld (off := 4) (α := Chip) (β := Bool) Pl.one))) rfl ?_
  refine TS.g 26 rfl (fun hg => (OpY.neq_bool Try.underlying4)) rfl ?_
  refine TS.s OpY.pickOr rfl ?_
  refine TS.s OpY.move rfl ?_
  refine TS.g 33 rfl (fun hg => OpY.fieldAddr) rfl ?_
  refine TS.g 33 rfl (fun hg => (OpD.ldq (Pl.fld (off := 2) (α := Chip) (β := (List Block)) Pl.one))) rfl ?_
  refine TS.g 33 rfl (fun hg => OpD.len) rfl ?_
  refine TS.g 33 rfl (fun hg => OpY.fieldAddr) rfl ?_
  refine TS.g 33 rfl (fun hg => (OpD.ldq (Pl.fld (off := 2) (α := Chip) (β := (List Block)) Pl.one))) rfl ?_
  refine TS.g 33 rfl (fun hg => OpD.len) rfl ?_
  refine TS.g 33 rfl (fun hg => OpY.neq) rfl ?_
  refine TS.s OpY.pickOr rfl ?_
  refine TS.s OpY.move rfl ?_
  refine TS.g 42 rfl (fun hg => OpY.fieldAddr) rfl ?_
  refine TS.g 42 rfl (fun hg => (OpD.ldq (Pl.fld (off := 5) (α := Chip) (β := (List Fault)) Pl.one))) rfl ?_
  refine TS.g 42 rfl (fun hg => OpD.len) rfl ?_
  refine TS.g 42 rfl (fun hg => OpY.fieldAddr) rfl ?_
  refine TS.g 42 rfl (fun hg => (OpD.ldq (Pl.fld (off := 5) (α := Chip) (β := (List Fault)) Pl.one))) rfl ?_
  refine TS.g 42 rfl (fun hg => OpD.len) rfl ?_
  refine TS.g 42 rfl (fun hg => OpY.neq) rfl ?_
  refine TS.s OpY.pickOr rfl ?_
  refine TS.nil ?_
  refine TE.then ?_
  refine TC.kp [2, 3, 50] [b2_0, b3_1] ?_
  refine TC.cond (fun hc => ?_) (fun hc => ?_)
  · replace H := cT H hc
    refine TC.seqS ?_
    refine TS.s OpY.assign rfl ?_
    refine TS.nil ?_
    refine TE.then ?_
    refine TC.kp [4] [] ?_
    refine TC.ret ?_
    refine TE.then_ret ?_
    obtain rfl := (Option.some.inj H)
    exact TE.ret1 rfl Cv.le
  · replace H := cF H hc
    refine TC.skip ?_
    refine TE.then ?_
    refine TC.kp [2, 3] [b2_0, b3_1] ?_
    refine TC.seq ?_
    refine TC.seqS ?_
    refine TS.s OpY.assign rfl ?_
    refine TS.nil ?_
    refine TE.then ?_
    refine TC.kp [2, 3, 5] [b2_0, b3_1] ?_
    obtain ⟨o_3, H3, H⟩ := bnd H
    refine TC.cutP (fun s : Unit => o_3 = .inl s) (fun (_ : Unit) (_ : Unit) => (Env.set (Env.set Env.nil 2 (Pt b2_0 0)) 3 (Pt b3_1 0))) (fun (_ : Unit) (_ : Unit) => [⟨b2_0, True, (One (a0 : Chip))⟩, ⟨b3_1, True, (One (b0 : Chip))⟩]) ?_ ?_
    · skip
      refine TC.block ?_
      refine TC.loopP H3 (fun (i_4 : Int) (_ : Unit) => (Env.set (Env.set (Env.set Env.nil 2 (Pt b2_0 0)) 3 (Pt b3_1 0)) 5 (D (i_4 : Int)))) (fun (i_4 : Int) (_ : Unit) => [⟨b2_0, True, (One (a0 : Chip))⟩, ⟨b3_1, True, (One (b0 : Chip))⟩]) () (Env.cv (Env.cv (Env.cv (Env.le_nil _)))) (Less.pk rfl (Less.pk rfl (Less.nil _))) ?_
      rintro i_4 ⟨⟩ x_5 H5 he5
      replace H5 : bywayref06_Same_l1 a0 b0 i_4 = some x_5 := H5
      unfold bywayref06_Same_l1 at H5
      refine TC.seq ?_
      refine TC.seqS ?_
      refine TS.s OpY.move rfl ?_
      refine TS.s OpY.fieldAddr rfl ?_
      refine TS.s (OpD.ldq (Pl.fld (off := 5) (α := Chip) (β := (List Fault)) Pl.one)) rfl ?_
      refine TS.s OpD.len rfl ?_
      refine TS.s OpY.lss rfl ?_
      refine TS.nil ?_
      refine TE.then ?_
      refine TC.kp [2, 3, 5, 55] [b2_0, b3_1] ?_
      refine TC.cond (fun hc => ?_) (fun hc => ?_)
      · replace H5 := cT H5 hc
        refine TC.skip ?_
        refine TE.then ?_
        refine TC.kp [2, 3, 5] [b2_0, b3_1] ?_
        refine TC.seq ?_
        refine TC.block ?_
        refine TC.seqD0 mix (by kernel_rfl) ?_
        refine TR.s OpY.fieldAddr rfl ?_
        refine TR.s (OpD.ldq (Pl.fld (off := 5) (α := Chip) (β := (List Fault)) Pl.one)) rfl ?_
        refine TR.s OpY.move rfl ?_
        obtain ⟨x_6, ex_6, H5⟩ := bnd H5
        refine TR.s (OpD.index ex_6) rfl ?_
        refine TR.s OpY.load rfl ?_
        refine TR.s OpY.fieldAddr rfl ?_
        refine TR.s (OpD.ldq (Pl.fld (off := 5) (α := Chip) (β := (List Fault)) Pl.one)) rfl ?_
        refine TR.s OpY.move rfl ?_
        obtain ⟨x_7, ex_7, H5⟩ := bnd H5
        refine TR.s (OpD.index ex_7) rfl ?_
        refine TR.s OpY.load rfl ?_
        refine TR.s (OpY.neq_agg EqV_106 (by decide) EqG_106 rfl) rfl ?_
        refine TR.nil ?_
        refine TC.kp [2, 3, 5, 68] [b2_0, b3_1] ?_
        refine TC.cond (fun hc => ?_) (fun hc => ?_)
        · replace H5 := cT H5 hc
          refine TC.seqS ?_
          refine TS.s OpY.assign rfl ?_
          refine TS.nil ?_
          refine TE.then ?_
          refine TC.kp [4] [] ?_
          refine TC.ret ?_
          refine TE.inBlock_ret ?_
          refine TE.then_ret ?_
          refine TE.then_ret ?_
          refine TE.inBlock_ret ?_
          refine TE.cut_ret ?_
          have R7 := elS_r (he5 _ (Option.some.inj H5).symm) H
          refine TE.then_ret ?_
          obtain rfl := (Option.some.inj R7)
          exact TE.ret1 rfl Cv.le
        · replace H5 := cF H5 hc
          refine TC.skip ?_
          refine TE.inBlock_normal ?_
          refine TE.then ?_
          refine TC.kp [2, 3, 5] [b2_0, b3_1] ?_
          refine TC.regionS ?_
          refine TS.s OpY.move rfl ?_
          obtain ⟨x_9, ex_9, H5⟩ := bnd H5
          refine TS.s (OpD.add ex_9) rfl ?_
          refine TS.s OpY.assign rfl ?_
          refine TS.nil ?_
          refine TE.kp [2, 3, 5] [b2_0, b3_1] ?_
          exact TE.backP x_9 () (Option.some.inj H5).symm (Env.cv (Env.cv (Env.cv (Env.le_nil _)))) (Less.pk rfl (Less.pk rfl (Less.nil _)))
      · replace H5 := cF H5 hc
        refine TC.exit ?_
        refine TE.then_exit ?_
        refine TE.then_exit ?_
        refine TE.inBlock_here ?_
        exact TE.cutP () () (he5 _ (Option.some.inj H5).symm).symm (Env.cv (Env.cv (Env.le_nil _))) (Less.pk rfl (Less.pk rfl (Less.nil _)))
    rintro ⟨⟩ ⟨⟩ hp
    replace H := elS_l hp H
    refine TE.then ?_
    refine TC.kp [2, 3] [b2_0, b3_1] ?_
    refine TC.seq ?_
    refine TC.seqS ?_
    refine TS.s OpY.assign rfl ?_
    refine TS.nil ?_
    refine TE.then ?_
    refine TC.kp [2, 3, 6] [b2_0, b3_1] ?_
    obtain ⟨o_10, H10, H⟩ := bnd H
    refine TC.cutP (fun s : Unit => o_10 = .inl s) (fun (_ : Unit) (_ : Unit) => Env.nil) (fun (_ : Unit) (_ : Unit) => []) ?_ ?_
    · skip
      refine TC.block ?_
      refine TC.loopP H10 (fun (i_11 : Int) (_ : Unit) => (Env.set (Env.set (Env.set Env.nil 2 (Pt b2_0 0)) 3 (Pt b3_1 0)) 6 (D (i_11 : Int)))) (fun (i_11 : Int) (_ : Unit) => [⟨b2_0, True, (One (a0 : Chip))⟩, ⟨b3_1, True, (One (b0 : Chip))⟩]) () (Env.cv (Env.cv (Env.cv (Env.le_nil _)))) (Less.pk rfl (Less.pk rfl (Less.nil _))) ?_
      rintro i_11 ⟨⟩ x_12 H12 he12
      replace H12 : bywayref06_Same_l2 a0 b0 i_11 = some x_12 := H12
      unfold bywayref06_Same_l2 at H12
      refine TC.seq ?_
      refine TC.seqS ?_
      refine TS.s OpY.move rfl ?_
      refine TS.s OpY.fieldAddr rfl ?_
      refine TS.s (OpD.ldq (Pl.fld (off := 2) (α := Chip) (β := (List Block)) Pl.one)) rfl ?_
      refine TS.s OpD.len rfl ?_
      refine TS.s OpY.lss rfl ?_
      refine TS.nil ?_
      refine TE.then ?_
      refine TC.kp [2, 3, 6, 73] [b2_0, b3_1] ?_
      refine TC.cond (fun hc => ?_) (fun hc => ?_)
      · replace H12 := cT H12 hc
        refine TC.skip ?_
        refine TE.then ?_
        refine TC.kp [2, 3, 6] [b2_0, b3_1] ?_
        refine TC.seq ?_
        refine TC.block ?_
        refine TC.seqD0 mix (by kernel_rfl) ?_
        refine TR.s OpY.fieldAddr rfl ?_
        refine TR.s (OpD.ldq (Pl.fld (off := 2) (α := Chip) (β := (List Block)) Pl.one)) rfl ?_
        refine TR.s OpY.move rfl ?_
        obtain ⟨x_13, ex_13, H12⟩ := bnd H12
        refine TR.s (OpD.index ex_13) rfl ?_
        refine TR.s OpY.load rfl ?_
        refine TR.s OpY.fieldAddr rfl ?_
        refine TR.s (OpD.ldq (Pl.fld (off := 2) (α := Chip) (β := (List Block)) Pl.one)) rfl ?_
        refine TR.s OpY.move rfl ?_
        obtain ⟨x_14, ex_14, H12⟩ := bnd H12
        refine TR.s (OpD.index ex_14) rfl ?_
        refine TR.s OpY.load rfl ?_
        obtain ⟨x_15, ex_15, H12⟩ := bnd H12
        refine TR.s (OpY.call2 fun w v0 v1 hA h0 h1 => bywayref06_Blocks_c w v0 v1 hA (toD h0) (toD h1) ex_15) rfl ?_
        refine TR.s OpY.notB rfl ?_
        refine TR.nil ?_
        refine TC.kp [2, 3, 6, 87] [b2_0, b3_1] ?_
        refine TC.cond (fun hc => ?_) (fun hc => ?_)
        · replace H12 := cT H12 hc
          refine TC.seqS ?_
          refine TS.s OpY.assign rfl ?_
          refine TS.nil ?_
          refine TE.then ?_
          refine TC.kp [4] [] ?_
          refine TC.ret ?_
          refine TE.inBlock_ret ?_
          refine TE.then_ret ?_
          refine TE.then_ret ?_
          refine TE.inBlock_ret ?_
          refine TE.cut_ret ?_
          have R15 := elS_r (he12 _ (Option.some.inj H12).symm) H
          refine TE.then_ret ?_
          obtain rfl := (Option.some.inj R15)
          exact TE.ret1 rfl Cv.le
        · replace H12 := cF H12 hc
          refine TC.skip ?_
          refine TE.inBlock_normal ?_
          refine TE.then ?_
          refine TC.kp [2, 3, 6] [b2_0, b3_1] ?_
          refine TC.regionS ?_
          refine TS.s OpY.move rfl ?_
          obtain ⟨x_17, ex_17, H12⟩ := bnd H12
          refine TS.s (OpD.add ex_17) rfl ?_
          refine TS.s OpY.assign rfl ?_
          refine TS.nil ?_
          refine TE.kp [2, 3, 6] [b2_0, b3_1] ?_
          exact TE.backP x_17 () (Option.some.inj H12).symm (Env.cv (Env.cv (Env.cv (Env.le_nil _)))) (Less.pk rfl (Less.pk rfl (Less.nil _)))
      · replace H12 := cF H12 hc
        refine TC.exit ?_
        refine TE.then_exit ?_
        refine TE.then_exit ?_
        refine TE.inBlock_here ?_
        exact TE.cutP () () (he12 _ (Option.some.inj H12).symm).symm (Env.le_nil _) (Less.nil _)
    rintro ⟨⟩ ⟨⟩ hp
    replace H := elS_l hp H
    refine TE.then ?_
    refine TC.kp [] [] ?_
    refine TC.seqS ?_
    refine TS.s OpY.assign rfl ?_
    refine TS.nil ?_
    refine TE.then ?_
    refine TC.kp [4] [] ?_
    refine TC.ret ?_
    obtain rfl := (Option.some.inj H)
    exact TE.ret1 rfl Cv.le
def bywaylaw06_awake : Option Bool :=
  (chip_New (1 : Int) (2 : Int) (2 : Int)).bind fun r_1 => (chip_Program r_1.1 (0 : Int) (0 : Int) ([(UInt8.ofNat 1), (UInt8.ofNat 2)] : List UInt8)).bind fun r_3 => (chip_Program r_3.1 (0 : Int) (0 : Int) ([(UInt8.ofNat 1), (UInt8.ofNat 2)] : List UInt8)).bind fun r_4 => (chip_Read r_3.1 (0 : Int) (0 : Int)).bind fun r_6 => (chip_Erase r_3.1 (0 : Int)).bind fun r_7 => (chip_Read r_7.1 (0 : Int) (0 : Int)).bind fun r_9 => (gb ((((((((decide (r_1.2 = (0 : Int))) && (decide (r_3.2 = (0 : Int)))) && (decide (r_4.2 = (9 : Int)))) && (decide (r_6.2 = (0 : Int)))) && (decide (r_6.1 = ([1, 2] : List UInt8)))) && (decide (r_7.2 = (0 : Int)))) && (decide (r_9.2 = (0 : Int)))) && (decide (r_9.1 = ([255, 255] : List UInt8)))) (idx r_7.1.Blocks (0 : Int))).bind fun x_10 => (gb (((((((((decide (r_1.2 = (0 : Int))) && (decide (r_3.2 = (0 : Int)))) && (decide (r_4.2 = (9 : Int)))) && (decide (r_6.2 = (0 : Int)))) && (decide (r_6.1 = ([1, 2] : List UInt8)))) && (decide (r_7.2 = (0 : Int)))) && (decide (r_9.2 = (0 : Int)))) && (decide (r_9.1 = ([255, 255] : List UInt8)))) && (decide (x_10.Worn = (1 : Int)))) (chip_Right r_7.1)).bind fun x_11 => some ((((((((((decide (r_1.2 = (0 : Int))) && (decide (r_3.2 = (0 : Int)))) && (decide (r_4.2 = (9 : Int)))) && (decide (r_6.2 = (0 : Int)))) && (decide (r_6.1 = ([1, 2] : List UInt8)))) && (decide (r_7.2 = (0 : Int)))) && (decide (r_9.2 = (0 : Int)))) && (decide (r_9.1 = ([255, 255] : List UInt8)))) && (decide (x_10.Worn = (1 : Int)))) && x_11)
/-- bywaylaw06.awake -/
theorem bywaylaw06_awake_c {A : Nat → Prop}   {r : Bool} (w : World)  (hA : ∀ k, w.heap.size ≤ k → A k)   (H : bywaylaw06_awake = some r) :
    Calls Try.prog 30 #[] w (Ret A w (D (r : Bool))) := by
  unfold bywaylaw06_awake at H
  refine enter0 hA Try.func30 rfl Try.ntmps30 rfl  ?_
  refine TC.seqS ?_
  refine TS.s OpY.assign rfl ?_
  refine TS.nil ?_
  refine TE.then ?_
  refine TC.kp [] [] ?_
  refine TC.seqS ?_
  obtain ⟨r_1, er_1, H⟩ := bnd H
  refine TS.s (OpY.call3 fun w v0 v1 v2 hA h0 h1 h2 => chip_New_c w v0 v1 v2 hA (toD h0) (toD h1) (toD h2) er_1) rfl ?_
  refine TS.s OpY.move rfl ?_
  refine TS.s (OpY.extract rfl) rfl ?_
  refine TS.s (OpY.extract rfl) rfl ?_
  refine TS.alloc (α := Chip) rfl fun b1_1 => ?_
  refine TS.un (OpT.storeq (y := (r_1.1 : Chip)) Pl.one) ?_
  refine TS.s OpY.assign rfl ?_
  refine TS.nil ?_
  refine TE.then ?_
  refine TC.kp [1, 2] [b1_1] ?_
  refine TC.seqS ?_
  refine TS.s (OpD.ldq Pl.one) rfl ?_
  refine TS.s (OpY.buildSlice [.const (.int .u8 1), .const (.int .u8 2)] rfl rfl (by decide)) rfl ?_
  obtain ⟨r_3, er_3, H⟩ := bnd H
  refine TS.s (OpY.call4 fun w v0 v1 v2 v3 hA h0 h1 h2 h3 => chip_Program_c w v0 v1 v2 v3 hA (toD h0) (toD h1) (toD h2) (toD h3) er_3) rfl ?_
  refine TS.s OpY.move rfl ?_
  refine TS.s (OpY.extract rfl) rfl ?_
  refine TS.s (OpY.extract rfl) rfl ?_
  refine TS.un (OpT.storeq (y := (r_3.1 : Chip)) Pl.one) ?_
  refine TS.s OpY.assign rfl ?_
  refine TS.nil ?_
  refine TE.then ?_
  refine TC.kp [1, 2, 3] [b1_1] ?_
  refine TC.seqS ?_
  refine TS.s (OpD.ldq Pl.one) rfl ?_
  refine TS.s (OpY.buildSlice [.const (.int .u8 1), .const (.int .u8 2)] rfl rfl (by decide)) rfl ?_
  obtain ⟨r_4, er_4, H⟩ := bnd H
  refine TS.s (OpY.call4 fun w v0 v1 v2 v3 hA h0 h1 h2 h3 => chip_Program_c w v0 v1 v2 v3 hA (toD h0) (toD h1) (toD h2) (toD h3) er_4) rfl ?_
  refine TS.s OpY.move rfl ?_
  refine TS.s (OpY.extract rfl) rfl ?_
  refine TS.s (OpY.extract rfl) rfl ?_
  refine TS.alloc (α := Chip) rfl fun b4_4 => ?_
  refine TS.un (OpT.storeq (y := (r_4.1 : Chip)) Pl.one) ?_
  refine TS.s OpY.assign rfl ?_
  refine TS.nil ?_
  refine TE.then ?_
  refine TC.kp [1, 2, 3, 5] [b1_1] ?_
  refine TC.seqS ?_
  refine TS.s (OpD.ldq Pl.one) rfl ?_
  obtain ⟨r_6, er_6, H⟩ := bnd H
  refine TS.s (OpY.call3 fun w v0 v1 v2 hA h0 h1 h2 => chip_Read_c w v0 v1 v2 hA (toD h0) (toD h1) (toD h2) er_6) rfl ?_
  refine TS.s OpY.move rfl ?_
  refine TS.s (OpY.extract rfl) rfl ?_
  refine TS.s (OpY.extract rfl) rfl ?_
  refine TS.s OpY.assign rfl ?_
  refine TS.s OpY.assign rfl ?_
  refine TS.nil ?_
  refine TE.then ?_
  refine TC.kp [1, 2, 3, 5, 6, 7] [b1_1] ?_
  refine TC.seqS ?_
  refine TS.s (OpD.ldq Pl.one) rfl ?_
  obtain ⟨r_7, er_7, H⟩ := bnd H
  refine TS.s (OpY.call2 fun w v0 v1 hA h0 h1 => chip_Erase_c w v0 v1 hA (toD h0) (toD h1) er_7) rfl ?_
  refine TS.s OpY.move rfl ?_
  refine TS.s (OpY.extract rfl) rfl ?_
  refine TS.s (OpY.extract rfl) rfl ?_
  refine TS.alloc (α := Chip) rfl fun b8_7 => ?_
  refine TS.un (OpT.storeq (y := (r_7.1 : Chip)) Pl.one) ?_
  refine TS.s OpY.assign rfl ?_
  refine TS.nil ?_
  refine TE.then ?_
  refine TC.kp [2, 3, 5, 6, 7, 8, 9] [b8_7] ?_
  refine TC.seqS ?_
  refine TS.s (OpD.ldq Pl.one) rfl ?_
  obtain ⟨r_9, er_9, H⟩ := bnd H
  refine TS.s (OpY.call3 fun w v0 v1 v2 hA h0 h1 h2 => chip_Read_c w v0 v1 v2 hA (toD h0) (toD h1) (toD h2) er_9) rfl ?_
  refine TS.s OpY.move rfl ?_
  refine TS.s (OpY.extract rfl) rfl ?_
  refine TS.s (OpY.extract rfl) rfl ?_
  refine TS.s OpY.assign rfl ?_
  refine TS.s OpY.assign rfl ?_
  refine TS.nil ?_
  refine TE.then ?_
  refine TC.kp [2, 3, 5, 6, 7, 8, 9, 10, 11] [b8_7] ?_
  refine TC.seqS ?_
  refine TS.s OpY.move rfl ?_
  refine TS.s OpY.eql rfl ?_
  refine TS.s OpY.move rfl ?_
  refine TS.g 45 rfl (fun hg => OpY.move) rfl ?_
  refine TS.g 45 rfl (fun hg => OpY.eql) rfl ?_
  refine TS.s OpY.pickAnd rfl ?_
  refine TS.s OpY.move rfl ?_
  refine TS.g 49 rfl (fun hg => OpY.move) rfl ?_
  refine TS.g 49 rfl (fun hg => OpY.eql) rfl ?_
  refine TS.s OpY.pickAnd rfl ?_
  refine TS.s OpY.move rfl ?_
  refine TS.g 53 rfl (fun hg => OpY.move) rfl ?_
  refine TS.g 53 rfl (fun hg => OpY.eql) rfl ?_
  refine TS.s OpY.pickAnd rfl ?_
  refine TS.s OpY.move rfl ?_
  refine TS.g 57 rfl (fun hg => OpY.move) rfl ?_
  refine TS.g 57 rfl (fun hg => OpY.conv_slice_string) rfl ?_
  refine TS.g 57 rfl (fun hg => OpY.eql_string) rfl ?_
  refine TS.s OpY.pickAnd rfl ?_
  refine TS.s OpY.move rfl ?_
  refine TS.g 62 rfl (fun hg => OpY.move) rfl ?_
  refine TS.g 62 rfl (fun hg => OpY.eql) rfl ?_
  refine TS.s OpY.pickAnd rfl ?_
  refine TS.s OpY.move rfl ?_
  refine TS.g 66 rfl (fun hg => OpY.move) rfl ?_
  refine TS.g 66 rfl (fun hg => OpY.eql) rfl ?_
  refine TS.s OpY.pickAnd rfl ?_
  refine TS.s OpY.move rfl ?_
  refine TS.g 70 rfl (fun hg => OpY.move) rfl ?_
  refine TS.g 70 rfl (fun hg => OpY.conv_slice_string) rfl ?_
  refine TS.g 70 rfl (fun hg => OpY.eql_string) rfl ?_
  refine TS.s OpY.pickAnd rfl ?_
  refine TS.s OpY.move rfl ?_
  refine TS.g 75 rfl (fun hg => OpY.fieldAddr) rfl ?_
  refine TS.g 75 rfl (fun hg => (OpD.ldq (Pl.fld (off := 2) (α := Chip) (β := (List Block)) Pl.one))) rfl ?_
  obtain ⟨x_10, ex_10, H⟩ := bnd H
  refine TS.g 75 rfl (fun hg => (OpD.index (gb_some ex_10 hg.h))) rfl ?_
  refine TS.g 75 rfl (fun hg => OpY.fieldAddr) rfl ?_
  refine TS.g 75 rfl (fun hg => OpY.load) rfl ?_
  refine TS.g 75 rfl (fun hg => OpY.eql) rfl ?_
  refine TS.s OpY.pickAnd rfl ?_
  refine TS.s OpY.move rfl ?_
  refine TS.g 83 rfl (fun hg => (OpD.ldq Pl.one)) rfl ?_
  obtain ⟨x_11, ex_11, H⟩ := bnd H
  refine TS.g 83 rfl (fun hg => (OpY.call1 fun w v0 hA h0 => chip_Right_c w v0 hA (toD h0) (gb_some ex_11 hg.h))) rfl ?_
  refine TS.s OpY.pickAnd rfl ?_
  refine TS.s OpY.assign rfl ?_
  refine TS.nil ?_
  refine TE.then ?_
  refine TC.kp [0] [] ?_
  refine TC.ret ?_
  obtain rfl := (Option.some.inj H)
  exact TE.ret1 rfl Cv.le
end Go.Proofs.Ytfdmajkeihdhnaa.Tr
