/- What the proof leans on. Conditions: none. -/
import Derived.Test.YtefmfhbkihplgaaZR5
set_option linter.all false
set_option linter.unusedSimpArgs false
set_option linter.unusedVariables false
set_option linter.unusedSectionVars false
namespace Go.Proofs.Ytefmfhbkihplgaa.Tr
open Go Go.RowKit
set_option maxRecDepth 100000
set_option synthInstance.maxHeartbeats 400000
set_option synthInstance.maxSize 4096
def image_look (b0 : (List UInt8)) (used0 : Bool) : Option image_sheet :=
  (page_Blank b0).bind fun x_2 => bif x_2 then (bif used0 then ((some ((⟨(1 : Int), 0, 0⟩ : image_sheet) : image_sheet)).bind fun k_3 => some k_3) else ((some ((⟨(0 : Int), 0, 0⟩ : image_sheet) : image_sheet)).bind fun k_4 => some k_4)) else ((root_Read b0).bind fun r_5 => bif (decide (r_5.2 = (0 : Int))) then ((some ((⟨(2 : Int), 0, r_5.1.Gen⟩ : image_sheet) : image_sheet)).bind fun k_7 => some k_7) else ((page_Read b0).bind fun r_8 => bif ((decide (r_8.2 = (0 : Int))) && (decide (r_8.1.Kind = (1 : Int)))) then ((some ((⟨(3 : Int), r_8.1.Id, r_8.1.Gen⟩ : image_sheet) : image_sheet)).bind fun k_10 => some k_10) else ((some ((⟨(4 : Int), 0, 0⟩ : image_sheet) : image_sheet)).bind fun k_11 => some k_11)))
theorem image_look_c {A : Nat → Prop} {b0 : (List UInt8)} {used0 : Bool}  {r : image_sheet} (w : World) (v0 v1 : Value) (hA : ∀ k, w.heap.size ≤ k → A k)  (h0 : (D (b0 : (List UInt8))).p A w v0) (h1 : (D (used0 : Bool)).p A w v1) (H : image_look b0 used0 = some r) :
    Calls Try.prog 102 #[v0, v1] w (Ret A w (D (r : image_sheet))) := by
  unfold image_look at H
  refine enter2 hA Try.func102 rfl Try.ntmps102 rfl h0 h1 ?_; refine TC.seqS ?_; refine TS.alloc (α := image_sheet) rfl fun b4_0 => ?_; refine TS.nil ?_; refine TE.then ?_; refine TC.kp [0, 1, 4] [b4_0] ?_; refine TC.seq ?_; refine TC.seqS ?_; refine TS.s OpY.move rfl ?_
  obtain ⟨x_2, ex_2, H⟩ := bnd H
  refine TS.s (OpY.call1 fun w v0 hA h0 => page_Blank_c w v0 hA (toD h0) ex_2) rfl ?_; refine TS.nil ?_; refine TE.then ?_; refine TC.kp [0, 1, 4, 10] [b4_0] ?_; refine TC.cond (fun hc => ?_) (fun hc => ?_)
  · replace H := cT H hc
    refine TC.seq ?_; refine TC.seqS ?_; refine TS.s OpY.move rfl ?_; refine TS.nil ?_; refine TE.then ?_; refine TC.kp [4, 11] [b4_0] ?_; refine TC.cond (fun hc => ?_) (fun hc => ?_)
    · replace H := cT H hc
      refine TC.seqS ?_; refine TS.s (OpY.buildAs (⟨(1 : Int), 0, 0⟩ : image_sheet) rfl ⟨_, Try.underlying138, by kernel_rfl⟩ rfl rfl) rfl ?_; refine TS.un (OpT.storeq (y := ((⟨(1 : Int), 0, 0⟩ : image_sheet) : image_sheet)) Pl.one) ?_; refine TS.nil ?_; refine TE.then ?_; refine TC.kp [4] [b4_0] ?_
      obtain ⟨k_3, ek_3, H⟩ := bnd H
      refine TC.nmB b4_0 (nm_one ek_3) ?_; refine TC.ret ?_; refine TE.then_ret ?_; refine TE.then_ret ?_
      obtain rfl := (Option.some.inj H)
      exact TE.ret1 rfl Cv.le
    · replace H := cF H hc
      refine TC.skip ?_; refine TE.then ?_; refine TC.kp [4] [b4_0] ?_; refine TC.seqS ?_; refine TS.s (OpY.buildAs (⟨(0 : Int), 0, 0⟩ : image_sheet) rfl ⟨_, Try.underlying138, by kernel_rfl⟩ rfl rfl) rfl ?_; refine TS.un (OpT.storeq (y := ((⟨(0 : Int), 0, 0⟩ : image_sheet) : image_sheet)) Pl.one) ?_; refine TS.nil ?_; refine TE.then ?_; refine TC.kp [4] [b4_0] ?_
      obtain ⟨k_4, ek_4, H⟩ := bnd H
      refine TC.nmB b4_0 (nm_one ek_4) ?_; refine TC.ret ?_; refine TE.then_ret ?_
      obtain rfl := (Option.some.inj H)
      exact TE.ret1 rfl Cv.le
  · replace H := cF H hc
    refine TC.skip ?_; refine TE.then ?_; refine TC.kp [0, 4] [b4_0] ?_; refine TC.seq ?_; refine TC.seqS ?_; refine TS.s OpY.move rfl ?_
    obtain ⟨r_5, er_5, H⟩ := bnd H
    refine TS.s (OpY.call1 fun w v0 hA h0 => root_Read_c w v0 hA (toD h0) er_5) rfl ?_; refine TS.s OpY.move rfl ?_; refine TS.s (OpY.extract rfl) rfl ?_; refine TS.s (OpY.extract rfl) rfl ?_; refine TS.alloc (α := Roots) rfl fun b5_5 => ?_; refine TS.un (OpT.storeq (y := (r_5.1 : Roots)) Pl.one) ?_; refine TS.s OpY.assign rfl ?_; refine TS.nil ?_; refine TE.then ?_; refine TC.kp [0, 4, 5, 6] [b4_0, b5_5] ?_; refine TC.seqS ?_; refine TS.s OpY.move rfl ?_; refine TS.s OpY.eql rfl ?_; refine TS.nil ?_; refine TE.then ?_; refine TC.kp [0, 4, 5, 20] [b4_0, b5_5] ?_; refine TC.cond (fun hc => ?_) (fun hc => ?_)
    · replace H := cT H hc
      refine TC.seqS ?_; refine TS.s OpY.fieldAddr rfl ?_; refine TS.s (OpD.ldq (Pl.fld (off := 0) (α := Roots) (β := UInt64) Pl.one)) rfl ?_; refine TS.s (OpY.buildAs (⟨(2 : Int), 0, r_5.1.Gen⟩ : image_sheet) rfl ⟨_, Try.underlying138, by kernel_rfl⟩ rfl rfl) rfl ?_; refine TS.un (OpT.storeq (y := ((⟨(2 : Int), 0, r_5.1.Gen⟩ : image_sheet) : image_sheet)) Pl.one) ?_; refine TS.nil ?_; refine TE.then ?_; refine TC.kp [4] [b4_0] ?_
      obtain ⟨k_7, ek_7, H⟩ := bnd H
      refine TC.nmB b4_0 (nm_one ek_7) ?_; refine TC.ret ?_; refine TE.then_ret ?_
      obtain rfl := (Option.some.inj H)
      exact TE.ret1 rfl Cv.le
    · replace H := cF H hc
      refine TC.skip ?_; refine TE.then ?_; refine TC.kp [0, 4] [b4_0] ?_; refine TC.seq ?_; refine TC.seqS ?_; refine TS.s OpY.move rfl ?_
      obtain ⟨r_8, er_8, H⟩ := bnd H
      refine TS.s (OpY.call1 fun w v0 hA h0 => page_Read_c w v0 hA (toD h0) er_8) rfl ?_; refine TS.s OpY.move rfl ?_; refine TS.s (OpY.extract rfl) rfl ?_; refine TS.s (OpY.extract rfl) rfl ?_; refine TS.alloc (α := Page) rfl fun b7_8 => ?_; refine TS.un (OpT.storeq (y := (r_8.1 : Page)) Pl.one) ?_; refine TS.s OpY.assign rfl ?_; refine TS.nil ?_; refine TE.then ?_; refine TC.kp [4, 7, 8] [b4_0, b7_8] ?_; refine TC.seqS ?_; refine TS.s OpY.move rfl ?_; refine TS.s OpY.eql rfl ?_; refine TS.s OpY.move rfl ?_; refine TS.g 31 rfl (fun hg => OpY.fieldAddr) rfl ?_; refine TS.g 31 rfl (fun hg => (OpD.ldq (Pl.fld (off := 0) (α := Page) (β := Int) Pl.one))) rfl ?_; refine TS.g 31 rfl (fun hg => OpY.eql) rfl ?_; refine TS.s OpY.pickAnd rfl ?_; refine TS.nil ?_; refine TE.then ?_; refine TC.kp [4, 7, 35] [b4_0, b7_8] ?_; refine TC.cond (fun hc => ?_) (fun hc => ?_)
      · replace H := cT H hc
        refine TC.seqS ?_; refine TS.s OpY.fieldAddr rfl ?_; refine TS.s (OpD.ldq (Pl.fld (off := 1) (α := Page) (β := Int) Pl.one)) rfl ?_; refine TS.s OpY.fieldAddr rfl ?_; refine TS.s (OpD.ldq (Pl.fld (off := 2) (α := Page) (β := UInt64) Pl.one)) rfl ?_; refine TS.s (OpY.buildAs (⟨(3 : Int), r_8.1.Id, r_8.1.Gen⟩ : image_sheet) rfl ⟨_, Try.underlying138, by kernel_rfl⟩ rfl rfl) rfl ?_; refine TS.un (OpT.storeq (y := ((⟨(3 : Int), r_8.1.Id, r_8.1.Gen⟩ : image_sheet) : image_sheet)) Pl.one) ?_; refine TS.nil ?_; refine TE.then ?_; refine TC.kp [4] [b4_0] ?_
        obtain ⟨k_10, ek_10, H⟩ := bnd H
        refine TC.nmB b4_0 (nm_one ek_10) ?_; refine TC.ret ?_; refine TE.then_ret ?_
        obtain rfl := (Option.some.inj H)
        exact TE.ret1 rfl Cv.le
      · replace H := cF H hc
        refine TC.skip ?_; refine TE.then ?_; refine TC.kp [4] [b4_0] ?_; refine TC.seqS ?_; refine TS.s (OpY.buildAs (⟨(4 : Int), 0, 0⟩ : image_sheet) rfl ⟨_, Try.underlying138, by kernel_rfl⟩ rfl rfl) rfl ?_; refine TS.un (OpT.storeq (y := ((⟨(4 : Int), 0, 0⟩ : image_sheet) : image_sheet)) Pl.one) ?_; refine TS.nil ?_; refine TE.then ?_; refine TC.kp [4] [b4_0] ?_
        obtain ⟨k_11, ek_11, H⟩ := bnd H
        refine TC.nmB b4_0 (nm_one ek_11) ?_; refine TC.ret ?_
        obtain rfl := (Option.some.inj H)
        exact TE.ret1 rfl Cv.le
def image_sheets_1_l2 {σ : Type} (yy : σ → Int → image_sheet → Option (σ × Bool)) (x_9 : Block) (n_15 : Int) (x_16 : Int) (Y_17 : σ) : Option ((Int × Int × σ) ⊕ ((Int × σ) ⊕ σ)) :=
  bif (decide (x_16 < (x_9.Pages.length : Int))) then ((idx x_9.Pages x_16).bind fun x_20 => (addI n_15 (1 : Int)).bind fun x_21 => (image_look x_20 (decide (x_16 < x_9.Used))).bind fun x_22 => (yy Y_17 x_21 x_22).bind fun y_23 => bif (!y_23.2) then (some (.inr (.inr y_23.1))) else ((addI x_16 (1 : Int)).bind fun x_27 => some (.inl (x_21, x_27, y_23.1)))) else (some (.inr (.inl (n_15, Y_17))))
def image_sheets_1_l1 {σ : Type} (cap1 : Chip) (yy : σ → Int → image_sheet → Option (σ × Bool)) (n_4 : Int) (x_5 : Int) (Y_6 : σ) : Option ((Int × Int × σ) ⊕ (σ ⊕ σ)) :=
  bif (decide (x_5 < (cap1.Blocks.length : Int))) then ((idx cap1.Blocks x_5).bind fun x_9 => (loopO (fun s => image_sheets_1_l2 yy x_9 s.1 s.2.1 s.2.2) (n_4, (0 : Int), Y_6)).bind fun o_14 => elS o_14 (fun s => el2 s (fun n_11 Y_12 => (addI x_5 (1 : Int)).bind fun x_28 => some (.inl (n_11, x_28, Y_12)))) (fun q => some (.inr (.inr q)))) else (some (.inr (.inl Y_6)))
def image_sheets_1 {σ : Type} (yy : σ → Int → image_sheet → Option (σ × Bool)) (Y0 : σ) (cap1 : Chip) : Option σ :=
  (loopO (fun s => image_sheets_1_l1 cap1 yy s.1 s.2.1 s.2.2) ((0 : Int), (0 : Int), Y0)).bind fun o_3 => elS o_3 (fun Y_1 => some Y_1) (fun q => some q)
theorem image_sheets_1_it {A : Nat → Prop} {cap1 : Chip} (w : World) (v1 : Value) (h1 : (PtrD (cap1 : Chip)).p A w v1) :
    Iter2 Try.prog 101 [v1] A w (fun {σ} y s => image_sheets_1 y s cap1) := by
  refine enterY1 (it := fun {σ} y s => image_sheets_1 y s cap1) Try.func101 rfl Try.ntmps101 rfl h1 ?_; intro σ yy Y0 q l J X0 r0 H hY hop
  haveI := hop
  unfold image_sheets_1 at H
  refine TC.seqS ?_; refine TS.s OpY.assign rfl ?_; refine TS.nil ?_; refine TE.then ?_; refine TC.kp [0, 1, 3] [] ?_; refine TC.seqS ?_; refine TS.s OpY.fieldAddr rfl ?_; refine TS.s OpY.load rfl ?_; refine TS.s OpD.len rfl ?_; refine TS.s OpY.move rfl ?_; refine TS.nil ?_; refine TE.then ?_; refine TC.kp [0, 3, 9, 10, 11] [] ?_
  obtain ⟨o_3, H3, H⟩ := bnd H
  refine TC.cutY hY (fun s : σ => o_3 = .inl s) (fun (Y_1 : σ) => Y_1) (fun (Y_1 : σ) (_ : Unit) => Env.nil) (fun (Y_1 : σ) (_ : Unit) => []) ?_ ?_
  · skip
    refine TC.block ?_; refine TC.loopY H3 hY (fun ⟨n_4, x_5, Y_6⟩ => Y_6) (fun ⟨n_4, x_5, Y_6⟩ (_ : Unit) => (Env.set (Env.set (Env.set (Env.set (Env.set Env.nil 0 (YldT l)) 3 (D (n_4 : Int))) 9 (D (cap1.Blocks : (List Block)))) 10 (D ((cap1.Blocks.length : Int) : Int))) 11 (D (x_5 : Int)))) (fun ⟨n_4, x_5, Y_6⟩ (_ : Unit) => []) () rfl (Env.cv (Env.cv (Env.cv (Env.cv (Env.cv (Env.le_nil _)))))) (Less.nil _) ?_
    rintro ⟨n_4, x_5, Y_6⟩ ⟨⟩ x_8 H8 he8 r_6 hr_6
    haveI := hr_6.op
    replace H8 : image_sheets_1_l1 cap1 yy n_4 x_5 Y_6 = some x_8 := H8
    unfold image_sheets_1_l1 at H8
    refine TC.seqS ?_; refine TS.s OpY.lss rfl ?_; refine TS.nil ?_; refine TE.then ?_; refine TC.kp [0, 3, 9, 10, 11, 12] [] ?_; refine TC.seq ?_; refine TC.cond (fun hc => ?_) (fun hc => ?_)
    · replace H8 := cT H8 hc
      refine TC.skip ?_; refine TE.then ?_; refine TC.kp [0, 3, 9, 10, 11] [] ?_; refine TC.seq ?_; refine TC.block ?_; refine TC.seqS ?_
      obtain ⟨x_9, ex_9, H8⟩ := bnd H8
      refine TS.s (OpD.index ex_9) rfl ?_; refine TS.s OpY.load rfl ?_; refine TS.alloc (α := Block) rfl fun b5_9 => ?_; refine TS.un (OpT.storeq (y := (x_9 : Block)) Pl.one) ?_; refine TS.nil ?_; refine TE.then ?_; refine TC.kp [0, 3, 5, 9, 10, 11] [b5_9] ?_; refine TC.seqS ?_; refine TS.s OpY.fieldAddr rfl ?_; refine TS.s (OpD.ldq (Pl.fld (off := 0) (α := Block) (β := (List (List UInt8))) Pl.one)) rfl ?_; refine TS.s OpD.len rfl ?_; refine TS.s OpY.move rfl ?_; refine TS.nil ?_; refine TE.then ?_; refine TC.kp [0, 3, 5, 9, 10, 11, 16, 17, 18] [b5_9] ?_
      obtain ⟨o_14, H14, H8⟩ := bnd H8
      refine TC.cutY hr_6 (fun s : (Int × σ) => o_14 = .inl s) (fun ⟨n_11, Y_12⟩ => Y_12) (fun ⟨n_11, Y_12⟩ (_ : Unit) => (Env.set (Env.set (Env.set (Env.set (Env.set Env.nil 0 (YldT l)) 3 (D (n_11 : Int))) 9 (D (cap1.Blocks : (List Block)))) 10 (D ((cap1.Blocks.length : Int) : Int))) 11 (D (x_5 : Int)))) (fun ⟨n_11, Y_12⟩ (_ : Unit) => []) ?_ ?_
      · skip
        refine TC.block ?_; refine TC.loopY H14 hr_6 (fun ⟨n_15, x_16, Y_17⟩ => Y_17) (fun ⟨n_15, x_16, Y_17⟩ (_ : Unit) => (Env.set (Env.set (Env.set (Env.set (Env.set (Env.set (Env.set (Env.set (Env.set Env.nil 0 (YldT l)) 3 (D (n_15 : Int))) 5 (Pt b5_9 0)) 9 (D (cap1.Blocks : (List Block)))) 10 (D ((cap1.Blocks.length : Int) : Int))) 11 (D (x_5 : Int))) 16 (D (x_9.Pages : (List (List UInt8))))) 17 (D ((x_9.Pages.length : Int) : Int))) 18 (D (x_16 : Int)))) (fun ⟨n_15, x_16, Y_17⟩ (_ : Unit) => [⟨b5_9, True, (One (x_9 : Block))⟩]) () rfl (Env.cv (Env.cv (Env.cv (Env.cv (Env.cv (Env.cv (Env.cv (Env.cv (Env.cv (Env.le_nil _)))))))))) (Less.pk rfl (Less.nil _)) ?_
        rintro ⟨n_15, x_16, Y_17⟩ ⟨⟩ x_19 H19 he19 r_17 hr_17
        haveI := hr_17.op
        replace H19 : image_sheets_1_l2 yy x_9 n_15 x_16 Y_17 = some x_19 := H19
        unfold image_sheets_1_l2 at H19
        refine TC.seqS ?_; refine TS.s OpY.lss rfl ?_; refine TS.nil ?_; refine TE.then ?_; refine TC.kp [0, 3, 5, 9, 10, 11, 16, 17, 18, 19] [b5_9] ?_; refine TC.seq ?_; refine TC.cond (fun hc => ?_) (fun hc => ?_)
        · replace H19 := cT H19 hc
          refine TC.skip ?_; refine TE.then ?_; refine TC.kp [0, 3, 5, 9, 10, 11, 16, 17, 18] [b5_9] ?_; refine TC.seq ?_; refine TC.block ?_; refine TC.seqS ?_; refine TS.s OpY.move rfl ?_
          obtain ⟨x_20, ex_20, H19⟩ := bnd H19
          refine TS.s (OpD.index ex_20) rfl ?_; refine TS.s OpY.load rfl ?_; refine TS.s OpY.assign rfl ?_; refine TS.s OpY.assign rfl ?_; refine TS.nil ?_; refine TE.then ?_; refine TC.kp [0, 3, 5, 6, 7, 9, 10, 11, 16, 17, 18] [b5_9] ?_; refine TC.seqS ?_; refine TS.s OpY.move rfl ?_
          obtain ⟨x_21, ex_21, H19⟩ := bnd H19
          refine TS.s (OpD.add ex_21) rfl ?_; refine TS.s OpY.assign rfl ?_; refine TS.nil ?_; refine TE.then ?_; refine TC.kp [0, 3, 5, 6, 7, 9, 10, 11, 16, 17, 18] [b5_9] ?_; refine TC.seqS ?_; refine TS.s OpY.move rfl ?_; refine TS.s OpY.move rfl ?_; refine TS.s OpY.move rfl ?_; refine TS.s OpY.move rfl ?_; refine TS.s OpY.fieldAddr rfl ?_; refine TS.s (OpD.ldq (Pl.fld (off := 1) (α := Block) (β := Int) Pl.one)) rfl ?_; refine TS.s OpY.lss rfl ?_
          obtain ⟨x_22, ex_22, H19⟩ := bnd H19
          refine TS.s (OpY.call2 fun w v0 v1 hA h0 h1 => image_look_c w v0 v1 hA (toD h0) (toD h1) ex_22) rfl ?_
          obtain ⟨y_23, ey_23, H19⟩ := bnd H19
          refine TS.yield2 (s' := y_23.1) (t := y_23.2) hr_17 ey_23 Cv.le Cv.le rfl fun r_23 hr_23 => ?_
          haveI := hr_23.op
          refine TS.s OpY.notB rfl ?_; refine TS.nil ?_; refine TE.thenE (hr_23.rh.trans hr_17.rh.symm) ?_; refine TC.kp [0, 3, 5, 9, 10, 11, 16, 17, 18, 34] [b5_9] ?_; refine TC.cond (fun hc => ?_) (fun hc => ?_)
          · replace H19 := cT H19 hc
            refine TC.ret ?_; refine TE.inBlock_ret ?_; refine TE.then_ret ?_; refine TE.then_ret ?_; refine TE.inBlock_ret ?_; refine TE.cutY_ret ?_
            have R24 := elS_r (he19 _ (Option.some.inj H19).symm) H8
            refine TE.inBlock_ret ?_; refine TE.then_ret ?_; refine TE.then_ret ?_; refine TE.inBlock_ret ?_; refine TE.cutY_ret ?_
            have R25 := elS_r (he8 _ (Option.some.inj R24).symm) H
            obtain rfl := (Option.some.inj R25)
            exact TE.retY rfl hr_23
          · replace H19 := cF H19 hc
            refine TC.skip ?_; refine TE.inBlock_normal ?_; refine TE.thenE (hr_23.rh.trans hr_17.rh.symm) ?_; refine TC.kp [0, 3, 5, 9, 10, 11, 16, 17, 18] [b5_9] ?_; refine TC.regionS ?_
            obtain ⟨x_27, ex_27, H19⟩ := bnd H19
            refine TS.s (OpD.add ex_27) rfl ?_; refine TS.s OpY.move rfl ?_; refine TS.nil ?_; refine TE.kp [0, 3, 5, 9, 10, 11, 16, 17, 18] [b5_9] ?_; exact TE.backY hr_23 ⟨x_21, x_27, y_23.1⟩ () (Option.some.inj H19).symm rfl (Env.cv (Env.cv (Env.cv (Env.cv (Env.cv (Env.cv (Env.cv (Env.cv (Env.cv (Env.le_nil _)))))))))) (Less.pk rfl (Less.nil _))
        · replace H19 := cF H19 hc
          refine TC.exit ?_; refine TE.then_exit ?_; refine TE.then_exit ?_; refine TE.inBlock_here ?_; exact TE.cutY hr_17 ⟨n_15, Y_17⟩ () (he19 _ (Option.some.inj H19).symm).symm rfl (Env.cv (Env.cv (Env.cv (Env.cv (Env.cv (Env.le_nil _)))))) (Less.nil _)
      rintro ⟨n_11, Y_12⟩ ⟨⟩ hp r_12 hr_12
      haveI := hr_12.op
      replace H8 := elS_l hp H8
      replace H8 := el2_mk H8
      refine TE.inBlock_normal ?_; refine TE.thenE (hr_12.rh.trans hr_6.rh.symm) ?_; refine TC.kp [0, 3, 9, 10, 11] [] ?_; refine TC.regionS ?_
      obtain ⟨x_28, ex_28, H8⟩ := bnd H8
      refine TS.s (OpD.add ex_28) rfl ?_; refine TS.s OpY.move rfl ?_; refine TS.nil ?_; refine TE.kp [0, 3, 9, 10, 11] [] ?_; exact TE.backY hr_12 ⟨n_11, x_28, Y_12⟩ () (Option.some.inj H8).symm rfl (Env.cv (Env.cv (Env.cv (Env.cv (Env.cv (Env.le_nil _)))))) (Less.nil _)
    · replace H8 := cF H8 hc
      refine TC.exit ?_; refine TE.then_exit ?_; refine TE.then_exit ?_; refine TE.inBlock_here ?_; exact TE.cutY hr_6 Y_6 () (he8 _ (Option.some.inj H8).symm).symm rfl (Env.le_nil _) (Less.nil _)
  rintro Y_1 ⟨⟩ hp r_1 hr_1
  haveI := hr_1.op
  replace H := elS_l hp H
  obtain rfl := (Option.some.inj H)
  exact TE.endY rfl hr_1
def image_sheets (c0 : Chip) : Option Chip :=
  some c0
theorem image_sheets_c {A : Nat → Prop} {c0 : Chip}  {r : Chip} (w : World) (v0 : Value) (hA : ∀ k, w.heap.size ≤ k → A k)  (h0 : (D (c0 : Chip)).p A w v0) (H : image_sheets c0 = some r) :
    Calls Try.prog 85 #[v0] w (Ret A w (Clo1 101 (PtrD (r : Chip)))) := by
  unfold image_sheets at H
  refine enter1 hA Try.func85 rfl Try.ntmps85 rfl h0 ?_; refine TC.seqS ?_; refine TS.box rfl fun b1_0 => ?_; refine TS.s OpY.assignAny rfl ?_; refine TS.nil ?_; refine TE.then ?_; refine TC.kp [1] [b1_0] ?_; refine TC.seqS ?_; refine TS.pub b1_0 (PubE.set 1 (PubC.pq Pl.one) PubE.refl) ?_; refine TS.s (OpY.clo1 (σ1 := PtrD (c0 : Chip)) Cv.le) rfl ?_; refine TS.s OpY.assign rfl ?_; refine TS.nil ?_; refine TE.then ?_; refine TC.kp [2] [] ?_; refine TC.ret ?_
  obtain rfl := (Option.some.inj H)
  exact TE.ret1 rfl Cv.le
def image_Count_l1 (t_7 : Tally) (n_9 : Int) (v_10 : image_sheet) : Option (Tally ⊕ Empty) :=
  bif (decide (v_10.kind = (0 : Int))) then ((addI t_7.Blank (1 : Int)).bind fun x_15 => (some ((⟨x_15, t_7.Data, t_7.Roots, t_7.Torn, t_7.Lost⟩ : Tally) : Tally)).bind fun t_16 => some (.inl t_16)) else (bif (decide (v_10.kind = (1 : Int))) then ((addI t_7.Lost (1 : Int)).bind fun x_17 => (some ((⟨t_7.Blank, t_7.Data, t_7.Roots, t_7.Torn, x_17⟩ : Tally) : Tally)).bind fun t_18 => some (.inl t_18)) else (bif (decide (v_10.kind = (2 : Int))) then ((addI t_7.Roots (1 : Int)).bind fun x_19 => (some ((⟨t_7.Blank, t_7.Data, x_19, t_7.Torn, t_7.Lost⟩ : Tally) : Tally)).bind fun t_20 => some (.inl t_20)) else (bif (decide (v_10.kind = (3 : Int))) then ((addI t_7.Data (1 : Int)).bind fun x_21 => (some ((⟨t_7.Blank, x_21, t_7.Roots, t_7.Torn, t_7.Lost⟩ : Tally) : Tally)).bind fun t_22 => some (.inl t_22)) else ((addI t_7.Torn (1 : Int)).bind fun x_23 => (some ((⟨t_7.Blank, t_7.Data, t_7.Roots, x_23, t_7.Lost⟩ : Tally) : Tally)).bind fun t_24 => some (.inl t_24)))))
def image_Count (c0 : Chip) : Option (Tally × Int) :=
  (chip_Right c0).bind fun x_3 => bif (!x_3) then ((some ((⟨0, 0, 0, 0, 0⟩ : Tally) : Tally)).bind fun k_4 => some (k_4, (1 : Int))) else ((image_sheets c0).bind fun x_6 => (image_sheets_1 (yT2 (fun (s : Tally) n_9 v_10 => image_Count_l1 s n_9 v_10)) (.inl Dat.z : Tally ⊕ Empty) x_6).bind fun o_8 => elS o_8 (fun s => (fun t_7 => some (t_7, (0 : Int))) s) (fun e => nomatch e))
theorem image_Count_c {A : Nat → Prop} {c0 : Chip}  {r : (Tally × Int)} (w : World) (v0 : Value) (hA : ∀ k, w.heap.size ≤ k → A k)  (h0 : (D (c0 : Chip)).p A w v0) (H : image_Count c0 = some r) :
    Calls Try.prog 49 #[v0] w (Ret A w (Tup [D (r.1 : Tally), D (r.2 : Int)])) := by
  unfold image_Count at H
  refine enterM1 hA Try.func49 rfl Try.ntmps49 rfl h0 ?_; refine TC.seqS ?_; refine TS.box rfl fun b1_0 => ?_; refine TS.alloc (α := Tally) rfl fun b2_1 => ?_; refine TS.s OpY.assign rfl ?_; refine TS.nil ?_; refine TE.then ?_; refine TC.kp [1, 2] [b1_0, b2_1] ?_; refine TC.seq ?_; refine TC.seqS ?_; refine TS.s (OpD.ldq Pl.one) rfl ?_
  obtain ⟨x_3, ex_3, H⟩ := bnd H
  refine TS.s (OpY.call1 fun w v0 hA h0 => chip_Right_c w v0 hA (toD h0) ex_3) rfl ?_; refine TS.s OpY.notB rfl ?_; refine TS.nil ?_; refine TE.then ?_; refine TC.kp [1, 2, 9] [b1_0, b2_1] ?_; refine TC.cond (fun hc => ?_) (fun hc => ?_)
  · replace H := cT H hc
    refine TC.seqS ?_; refine TS.s (OpY.buildAs (⟨0, 0, 0, 0, 0⟩ : Tally) rfl ⟨_, Try.underlying91, by kernel_rfl⟩ rfl rfl) rfl ?_; refine TS.un (OpT.storeq (y := ((⟨0, 0, 0, 0, 0⟩ : Tally) : Tally)) Pl.one) ?_; refine TS.s OpY.assign rfl ?_; refine TS.nil ?_; refine TE.then ?_; refine TC.kp [2, 3] [b2_1] ?_
    obtain ⟨k_4, ek_4, H⟩ := bnd H
    refine TC.nmB b2_1 (nm_one ek_4) ?_; refine TC.ret ?_; refine TE.then_ret ?_; refine TE.noMarks rfl ?_
    obtain rfl := (Option.some.inj H)
    exact TE.retN rfl rfl (.cons Cv.le (.cons Cv.le .nil))
  · replace H := cF H hc
    refine TC.skip ?_; refine TE.then ?_; refine TC.kp [1, 2] [b1_0, b2_1] ?_; refine TC.seqS ?_; refine TS.alloc (α := Tally) rfl fun b4_4 => ?_; refine TS.nil ?_; refine TE.then ?_; refine TC.kp [1, 2, 4] [b1_0, b2_1, b4_4] ?_; refine TC.seq ?_; refine TC.seqS ?_; refine TS.s (OpD.ldq Pl.one) rfl ?_
    obtain ⟨x_6, ex_6, H⟩ := bnd H
    refine TS.s (OpY.call1 fun w v0 hA h0 => image_sheets_c w v0 hA (toD h0) ex_6) rfl ?_; refine TS.nil ?_; refine TE.then ?_; refine TC.kp [2, 4, 12] [b2_1, b4_4] ?_; refine TC.block ?_; refine TC.kp [2, 4, 12] [b2_1, b4_4] ?_
    obtain ⟨o_8, H8, H⟩ := bnd H
    refine TC.range2 (it := fun {σ} y s => image_sheets_1 y s x_6) H8 rfl rfl (fun A w v h => by obtain ⟨c0, rfl, k0⟩ := h; exact ⟨[c0], by simp, image_sheets_1_it w c0 k0⟩) rfl rfl (fun (t_7 : Tally) (_ : Unit) => [⟨b2_1, True, (One (Dat.z : Tally))⟩, ⟨b4_4, True, (One (t_7 : Tally))⟩]) (fun e _ => nomatch e) () (Less.pk rfl (Less.pk rfl (Less.nil _))) ?_ ?_ ?_
    · skip
      rintro t_7 ⟨⟩ n_9 v_10 x_11 H11 R_11 r_11 hR_11 hop_11
      haveI := hop_11
      replace H11 : image_Count_l1 t_7 n_9 v_10 = some x_11 := H11
      unfold image_Count_l1 at H11
      refine TC.regionS ?_; refine TS.alloc (α := image_sheet) rfl fun b6_12 => ?_; refine TS.un (OpT.storeq (y := (v_10 : image_sheet)) Pl.one) ?_; refine TS.nil ?_; refine TE.kp [2, 4, 6, 12] [b2_1, b4_4, b6_12] ?_; refine TE.kp [2, 4, 6, 12] [b2_1, b4_4, b6_12] ?_; refine TE.begin hR_11 ?_; intro r_13 hR_13 hop_13
      haveI := hop_13
      refine TC.block ?_; refine TC.seqS ?_; refine TS.s OpY.fieldAddr rfl ?_; refine TS.s (OpD.ldq (Pl.fld (off := 0) (α := image_sheet) (β := Int) Pl.one)) rfl ?_; refine TS.nil ?_; refine TE.then ?_; refine TC.kp [2, 4, 12, 16] [b2_1, b4_4] ?_; refine TC.block ?_; refine TC.seqS ?_; refine TS.s OpY.eql rfl ?_; refine TS.s OpY.assign rfl ?_; refine TS.nil ?_; refine TE.then ?_; refine TC.kp [2, 4, 12, 16, 21] [b2_1, b4_4] ?_; refine TC.cond (fun hc => ?_) (fun hc => ?_)
      · replace H11 := cT H11 hc
        refine TC.regionS ?_; refine TS.s OpY.fieldAddr rfl ?_; refine TS.s (OpD.ldq (Pl.fld (off := 0) (α := Tally) (β := Int) Pl.one)) rfl ?_
        obtain ⟨x_15, ex_15, H11⟩ := bnd H11
        refine TS.s (OpD.add ex_15) rfl ?_; refine TS.s OpY.fieldAddr rfl ?_; refine TS.un (OpT.storeq (y := (x_15 : Int)) (Pl.fld (off := 0) (α := Tally) (β := Int) Pl.one)) ?_; refine TS.nil ?_; refine TE.kp [2, 4, 12] [b2_1, b4_4] ?_
        obtain ⟨t_16, et_16, H11⟩ := bnd H11
        refine TE.nmB b4_4 (nm_one et_16) ?_; refine TE.inBlock_normal ?_; refine TE.inBlock_normal ?_; exact TE.roundN hR_13 t_16 () (Option.some.inj H11).symm (Less.pk rfl (Less.pk rfl (Less.nil _)))
      · replace H11 := cF H11 hc
        refine TC.seqS ?_; refine TS.s OpY.eql rfl ?_; refine TS.s OpY.assign rfl ?_; refine TS.nil ?_; refine TE.then ?_; refine TC.kp [2, 4, 12, 16, 27] [b2_1, b4_4] ?_; refine TC.cond (fun hc => ?_) (fun hc => ?_)
        · replace H11 := cT H11 hc
          refine TC.regionS ?_; refine TS.s OpY.fieldAddr rfl ?_; refine TS.s (OpD.ldq (Pl.fld (off := 4) (α := Tally) (β := Int) Pl.one)) rfl ?_
          obtain ⟨x_17, ex_17, H11⟩ := bnd H11
          refine TS.s (OpD.add ex_17) rfl ?_; refine TS.s OpY.fieldAddr rfl ?_; refine TS.un (OpT.storeq (y := (x_17 : Int)) (Pl.fld (off := 4) (α := Tally) (β := Int) Pl.one)) ?_; refine TS.nil ?_; refine TE.kp [2, 4, 12] [b2_1, b4_4] ?_
          obtain ⟨t_18, et_18, H11⟩ := bnd H11
          refine TE.nmB b4_4 (nm_one et_18) ?_; refine TE.inBlock_normal ?_; refine TE.inBlock_normal ?_; exact TE.roundN hR_13 t_18 () (Option.some.inj H11).symm (Less.pk rfl (Less.pk rfl (Less.nil _)))
        · replace H11 := cF H11 hc
          refine TC.seqS ?_; refine TS.s OpY.eql rfl ?_; refine TS.s OpY.assign rfl ?_; refine TS.nil ?_; refine TE.then ?_; refine TC.kp [2, 4, 12, 16, 33] [b2_1, b4_4] ?_; refine TC.cond (fun hc => ?_) (fun hc => ?_)
          · replace H11 := cT H11 hc
            refine TC.regionS ?_; refine TS.s OpY.fieldAddr rfl ?_; refine TS.s (OpD.ldq (Pl.fld (off := 2) (α := Tally) (β := Int) Pl.one)) rfl ?_
            obtain ⟨x_19, ex_19, H11⟩ := bnd H11
            refine TS.s (OpD.add ex_19) rfl ?_; refine TS.s OpY.fieldAddr rfl ?_; refine TS.un (OpT.storeq (y := (x_19 : Int)) (Pl.fld (off := 2) (α := Tally) (β := Int) Pl.one)) ?_; refine TS.nil ?_; refine TE.kp [2, 4, 12] [b2_1, b4_4] ?_
            obtain ⟨t_20, et_20, H11⟩ := bnd H11
            refine TE.nmB b4_4 (nm_one et_20) ?_; refine TE.inBlock_normal ?_; refine TE.inBlock_normal ?_; exact TE.roundN hR_13 t_20 () (Option.some.inj H11).symm (Less.pk rfl (Less.pk rfl (Less.nil _)))
          · replace H11 := cF H11 hc
            refine TC.seqS ?_; refine TS.s OpY.eql rfl ?_; refine TS.s OpY.assign rfl ?_; refine TS.nil ?_; refine TE.then ?_; refine TC.kp [2, 4, 12, 39] [b2_1, b4_4] ?_; refine TC.cond (fun hc => ?_) (fun hc => ?_)
            · replace H11 := cT H11 hc
              refine TC.regionS ?_; refine TS.s OpY.fieldAddr rfl ?_; refine TS.s (OpD.ldq (Pl.fld (off := 1) (α := Tally) (β := Int) Pl.one)) rfl ?_
              obtain ⟨x_21, ex_21, H11⟩ := bnd H11
              refine TS.s (OpD.add ex_21) rfl ?_; refine TS.s OpY.fieldAddr rfl ?_; refine TS.un (OpT.storeq (y := (x_21 : Int)) (Pl.fld (off := 1) (α := Tally) (β := Int) Pl.one)) ?_; refine TS.nil ?_; refine TE.kp [2, 4, 12] [b2_1, b4_4] ?_
              obtain ⟨t_22, et_22, H11⟩ := bnd H11
              refine TE.nmB b4_4 (nm_one et_22) ?_; refine TE.inBlock_normal ?_; refine TE.inBlock_normal ?_; exact TE.roundN hR_13 t_22 () (Option.some.inj H11).symm (Less.pk rfl (Less.pk rfl (Less.nil _)))
            · replace H11 := cF H11 hc
              refine TC.regionS ?_; refine TS.s OpY.fieldAddr rfl ?_; refine TS.s (OpD.ldq (Pl.fld (off := 3) (α := Tally) (β := Int) Pl.one)) rfl ?_
              obtain ⟨x_23, ex_23, H11⟩ := bnd H11
              refine TS.s (OpD.add ex_23) rfl ?_; refine TS.s OpY.fieldAddr rfl ?_; refine TS.un (OpT.storeq (y := (x_23 : Int)) (Pl.fld (off := 3) (α := Tally) (β := Int) Pl.one)) ?_; refine TS.nil ?_; refine TE.kp [2, 4, 12] [b2_1, b4_4] ?_
              obtain ⟨t_24, et_24, H11⟩ := bnd H11
              refine TE.nmB b4_4 (nm_one et_24) ?_; refine TE.inBlock_normal ?_; refine TE.inBlock_normal ?_; exact TE.roundN hR_13 t_24 () (Option.some.inj H11).symm (Less.pk rfl (Less.pk rfl (Less.nil _)))
    · skip
      rintro t_7 ⟨⟩ D_24 r_24 hx_24 hD_24
      haveI := hD_24.op
      have H_24 := elS_l hx_24 H
      refine TE.inBlock_normal ?_; refine TE.thenE hD_24.rh ?_; refine TC.kp [2, 4] [b2_1, b4_4] ?_; refine TC.seqS ?_; refine TS.s (OpD.ldq Pl.one) rfl ?_; refine TS.un (OpT.storeq (y := (t_7 : Tally)) Pl.one) ?_; refine TS.s OpY.assign rfl ?_; refine TS.nil ?_; refine TE.then ?_; refine TC.kp [2, 3] [b2_1] ?_; refine TC.ret ?_; refine TE.marks hD_24 ?_
      obtain rfl := (Option.some.inj H_24)
      exact TE.retN rfl rfl (.cons Cv.le (.cons Cv.le .nil))
    · skip
      exact fun e => nomatch e
def image_Newest_l1 (id0 : Int) (newest_7 : Int) (gen_8 : UInt64) (n_10 : Int) (v_11 : image_sheet) : Option ((Int × UInt64) ⊕ Empty) :=
  bif (((decide (v_11.kind = (3 : Int))) && (decide (v_11.id = id0))) && (decide (gen_8 ≤ v_11.gen))) then (some (.inl (n_10, v_11.gen))) else (some (.inl (newest_7, gen_8)))
def image_Newest (c0 : Chip) (id0 : Int) : Option (Int × Int) :=
  (chip_Right c0).bind fun x_3 => bif (!x_3) then (some ((0 : Int), (1 : Int))) else ((image_sheets c0).bind fun x_6 => (image_sheets_1 (yT2 (fun (s : (Int × UInt64)) n_10 v_11 => image_Newest_l1 id0 s.1 s.2 n_10 v_11)) (.inl ((0 : Int), (UInt64.ofNat 0)) : (Int × UInt64) ⊕ Empty) x_6).bind fun o_9 => elS o_9 (fun s => el2 s (fun newest_7 gen_8 => bif (decide (newest_7 = (0 : Int))) then (some ((0 : Int), (6 : Int))) else (some (newest_7, (0 : Int))))) (fun e => nomatch e))
theorem image_Newest_c {A : Nat → Prop} {c0 : Chip} {id0 : Int}  {r : (Int × Int)} (w : World) (v0 v1 : Value) (hA : ∀ k, w.heap.size ≤ k → A k)  (h0 : (D (c0 : Chip)).p A w v0) (h1 : (D (id0 : Int)).p A w v1) (H : image_Newest c0 id0 = some r) :
    Calls Try.prog 50 #[v0, v1] w (Ret A w (Tup [D (r.1 : Int), D (r.2 : Int)])) := by
  unfold image_Newest at H
  refine enterM2 hA Try.func50 rfl Try.ntmps50 rfl h0 h1 ?_; refine TC.seqS ?_; refine TS.box rfl fun b2_0 => ?_; refine TS.box rfl fun b3_1 => ?_; refine TS.s OpY.assign rfl ?_; refine TS.s OpY.assign rfl ?_; refine TS.nil ?_; refine TE.then ?_; refine TC.kp [2, 3] [b2_0, b3_1] ?_; refine TC.seq ?_; refine TC.seqS ?_; refine TS.s (OpD.ldq Pl.one) rfl ?_
  obtain ⟨x_3, ex_3, H⟩ := bnd H
  refine TS.s (OpY.call1 fun w v0 hA h0 => chip_Right_c w v0 hA (toD h0) ex_3) rfl ?_; refine TS.s OpY.notB rfl ?_; refine TS.nil ?_; refine TE.then ?_; refine TC.kp [2, 3, 12] [b2_0, b3_1] ?_; refine TC.cond (fun hc => ?_) (fun hc => ?_)
  · replace H := cT H hc
    refine TC.seqS ?_; refine TS.s OpY.assign rfl ?_; refine TS.s OpY.assign rfl ?_; refine TS.nil ?_; refine TE.then ?_; refine TC.kp [4, 5] [] ?_; refine TC.ret ?_; refine TE.then_ret ?_; refine TE.noMarks rfl ?_
    obtain rfl := (Option.some.inj H)
    exact TE.retN rfl rfl (.cons Cv.le (.cons Cv.le .nil))
  · replace H := cF H hc
    refine TC.skip ?_; refine TE.then ?_; refine TC.kp [2, 3] [b2_0, b3_1] ?_; refine TC.seqS ?_; refine TS.alloc (α := Int) rfl fun b6_3 => ?_; refine TS.alloc (α := UInt64) rfl fun b7_4 => ?_; refine TS.un (OpT.storeq (y := ((0 : Int) : Int)) Pl.one) ?_; refine TS.un (OpT.storeq (y := ((UInt64.ofNat 0) : UInt64)) Pl.one) ?_; refine TS.nil ?_; refine TE.then ?_; refine TC.kp [2, 3, 6, 7] [b2_0, b3_1, b6_3, b7_4] ?_; refine TC.seq ?_; refine TC.seqS ?_; refine TS.s (OpD.ldq Pl.one) rfl ?_
    obtain ⟨x_6, ex_6, H⟩ := bnd H
    refine TS.s (OpY.call1 fun w v0 hA h0 => image_sheets_c w v0 hA (toD h0) ex_6) rfl ?_; refine TS.nil ?_; refine TE.then ?_; refine TC.kp [3, 6, 7, 14] [b3_1, b6_3, b7_4] ?_; refine TC.block ?_; refine TC.kp [3, 6, 7, 14] [b3_1, b6_3, b7_4] ?_
    obtain ⟨o_9, H9, H⟩ := bnd H
    refine TC.range2 (it := fun {σ} y s => image_sheets_1 y s x_6) H9 rfl rfl (fun A w v h => by obtain ⟨c0, rfl, k0⟩ := h; exact ⟨[c0], by simp, image_sheets_1_it w c0 k0⟩) rfl rfl (fun ⟨newest_7, gen_8⟩ (_ : Unit) => [⟨b3_1, True, (One (id0 : Int))⟩, ⟨b6_3, True, (One (newest_7 : Int))⟩, ⟨b7_4, True, (One (gen_8 : UInt64))⟩]) (fun e _ => nomatch e) () (Less.pk rfl (Less.pk rfl (Less.pk rfl (Less.nil _)))) ?_ ?_ ?_
    · skip
      rintro ⟨newest_7, gen_8⟩ ⟨⟩ n_10 v_11 x_12 H12 R_12 r_12 hR_12 hop_12
      haveI := hop_12
      replace H12 : image_Newest_l1 id0 newest_7 gen_8 n_10 v_11 = some x_12 := H12
      unfold image_Newest_l1 at H12
      refine TC.seqS ?_; refine TS.s OpY.assign rfl ?_; refine TS.nil ?_; refine TE.then ?_; refine TC.kp [3, 6, 7, 8, 14, 16] [b3_1, b6_3, b7_4] ?_; refine TC.regionS ?_; refine TS.alloc (α := image_sheet) rfl fun b9_13 => ?_; refine TS.un (OpT.storeq (y := (v_11 : image_sheet)) Pl.one) ?_; refine TS.nil ?_; refine TE.kp [3, 6, 7, 8, 9, 14] [b3_1, b6_3, b7_4, b9_13] ?_; refine TE.kp [3, 6, 7, 8, 9, 14] [b3_1, b6_3, b7_4, b9_13] ?_; refine TE.begin hR_12 ?_; intro r_14 hR_14 hop_14
      haveI := hop_14
      refine TC.block ?_; refine TC.seqS ?_; refine TS.s OpY.fieldAddr rfl ?_; refine TS.s (OpD.ldq (Pl.fld (off := 0) (α := image_sheet) (β := Int) Pl.one)) rfl ?_; refine TS.s OpY.eql rfl ?_; refine TS.s OpY.move rfl ?_; refine TS.g 20 rfl (fun hg => OpY.fieldAddr) rfl ?_; refine TS.g 20 rfl (fun hg => (OpD.ldq (Pl.fld (off := 1) (α := image_sheet) (β := Int) Pl.one))) rfl ?_; refine TS.g 20 rfl (fun hg => (OpD.ldq Pl.one)) rfl ?_; refine TS.g 20 rfl (fun hg => OpY.eql) rfl ?_; refine TS.s OpY.pickAnd rfl ?_; refine TS.s OpY.move rfl ?_; refine TS.g 26 rfl (fun hg => OpY.fieldAddr) rfl ?_; refine TS.g 26 rfl (fun hg => (OpD.ldq (Pl.fld (off := 2) (α := image_sheet) (β := UInt64) Pl.one))) rfl ?_; refine TS.g 26 rfl (fun hg => (OpD.ldq Pl.one)) rfl ?_; refine TS.g 26 rfl (fun hg => OpY.geq64) rfl ?_; refine TS.s OpY.pickAnd rfl ?_; refine TS.nil ?_; refine TE.then ?_; refine TC.kp [3, 6, 7, 8, 9, 14, 31] [b3_1, b6_3, b7_4, b9_13] ?_; refine TC.cond (fun hc => ?_) (fun hc => ?_)
      · replace H12 := cT H12 hc
        refine TC.regD [3, 4] [b6_3, b7_4] mix (by kernel_rfl) (by kernel_rfl) ?_; refine TR.s OpY.move rfl ?_; refine TR.s OpY.fieldAddr rfl ?_; refine TR.s (OpD.ldq (Pl.fld (off := 2) (α := image_sheet) (β := UInt64) Pl.one)) rfl ?_; refine TR.tn (fun g => (OpT.storeq (y := (n_10 : Int)) Pl.one)) rfl ?_; refine TR.tn (fun g => (OpT.storeq (y := (v_11.gen : UInt64)) Pl.one)) rfl ?_; refine TR.nil ?_
        rintro ⟨⟨_, _⟩, _⟩
        dsimp only [Fam.nextS, Fam.nextN, Fam.one, List.cons_append, List.nil_append]
        refine TE.kp [3, 6, 7, 14] [b3_1, b6_3, b7_4] ?_; refine TE.inBlock_normal ?_; exact TE.roundN hR_14 ⟨n_10, v_11.gen⟩ () (Option.some.inj H12).symm (Less.pk rfl (Less.pk rfl (Less.pk rfl (Less.nil _))))
      · replace H12 := cF H12 hc
        refine TC.skip ?_; refine TE.inBlock_normal ?_; exact TE.roundN hR_14 ⟨newest_7, gen_8⟩ () (Option.some.inj H12).symm (Less.pk rfl (Less.pk rfl (Less.pk rfl (Less.nil _))))
    · skip
      rintro ⟨newest_7, gen_8⟩ ⟨⟩ D_15 r_15 hx_15 hD_15
      haveI := hD_15.op
      have H_15 := elS_l hx_15 H
      replace H_15 := el2_mk H_15
      refine TE.inBlock_normal ?_; refine TE.thenE hD_15.rh ?_; refine TC.kp [6] [b6_3] ?_; refine TC.seq ?_; refine TC.seqS ?_; refine TS.s (OpD.ldq Pl.one) rfl ?_; refine TS.s OpY.eql rfl ?_; refine TS.nil ?_; refine TE.then ?_; refine TC.kp [6, 36] [b6_3] ?_; refine TC.cond (fun hc => ?_) (fun hc => ?_)
      · replace H_15 := cT H_15 hc
        refine TC.seqS ?_; refine TS.s OpY.assign rfl ?_; refine TS.s OpY.assign rfl ?_; refine TS.nil ?_; refine TE.then ?_; refine TC.kp [4, 5] [] ?_; refine TC.ret ?_; refine TE.then_ret ?_; refine TE.marks hD_15 ?_
        obtain rfl := (Option.some.inj H_15)
        exact TE.retN rfl rfl (.cons Cv.le (.cons Cv.le .nil))
      · replace H_15 := cF H_15 hc
        refine TC.skip ?_; refine TE.then ?_; refine TC.kp [6] [b6_3] ?_; refine TC.seqS ?_; refine TS.s (OpD.ldq Pl.one) rfl ?_; refine TS.s OpY.assign rfl ?_; refine TS.s OpY.assign rfl ?_; refine TS.nil ?_; refine TE.then ?_; refine TC.kp [4, 5] [] ?_; refine TC.ret ?_; refine TE.marks hD_15 ?_
        obtain rfl := (Option.some.inj H_15)
        exact TE.retN rfl rfl (.cons Cv.le (.cons Cv.le .nil))
    · skip
      exact fun e => nomatch e
def slices_Index_int_l1 (s0 : (List Int)) (v0x : Int) (x_2 : Int) : Option (Int ⊕ (Unit ⊕ Int)) :=
  bif (decide (x_2 < (s0.length : Int))) then ((idx s0 x_2).bind fun x_4 => bif (decide (v0x = x_4)) then (some (.inr (.inr x_2))) else ((addI x_2 (1 : Int)).bind fun x_6 => some (.inl x_6))) else (some (.inr (.inl ())))
def slices_Index_int (s0 : (List Int)) (v0x : Int) : Option Int :=
  (loopO (fun s => slices_Index_int_l1 s0 v0x s) (0 : Int)).bind fun o_1 => elS o_1 (fun _ => some (-1 : Int)) (fun q => some q)
theorem slices_Index_int_c {A : Nat → Prop} {s0 : (List Int)} {v0x : Int}  {r : Int} (w : World) (v0 v1 : Value) (hA : ∀ k, w.heap.size ≤ k → A k)  (h0 : (D (s0 : (List Int))).p A w v0) (h1 : (D (v0x : Int)).p A w v1) (H : slices_Index_int s0 v0x = some r) :
    Calls Try.prog 103 #[v0, v1] w (Ret A w (D (r : Int))) := by
  unfold slices_Index_int at H
  refine enter2 hA Try.func103 rfl Try.ntmps103 rfl h0 h1 ?_; refine TC.seqS ?_; refine TS.s OpY.assign rfl ?_; refine TS.nil ?_; refine TE.then ?_; refine TC.kp [0, 1] [] ?_; refine TC.seq ?_; refine TC.seqS ?_; refine TS.s OpY.move rfl ?_; refine TS.s OpD.len rfl ?_; refine TS.s OpY.move rfl ?_; refine TS.nil ?_; refine TE.then ?_; refine TC.kp [0, 1, 7, 8] [] ?_
  obtain ⟨o_1, H1, H⟩ := bnd H
  refine TC.cutP (fun s : Unit => o_1 = .inl s) (fun (_ : Unit) (_ : Unit) => Env.nil) (fun (_ : Unit) (_ : Unit) => []) ?_ ?_
  · skip
    refine TC.block ?_; refine TC.loopP H1 (fun (x_2 : Int) (_ : Unit) => (Env.set (Env.set (Env.set (Env.set Env.nil 0 (D (s0 : (List Int)))) 1 (D (v0x : Int))) 7 (D ((s0.length : Int) : Int))) 8 (D (x_2 : Int)))) (fun (x_2 : Int) (_ : Unit) => []) () (Env.cv (Env.cv (Env.cv (Env.cv (Env.le_nil _))))) (Less.nil _) ?_
    rintro x_2 ⟨⟩ x_3 H3 he3
    replace H3 : slices_Index_int_l1 s0 v0x x_2 = some x_3 := H3
    unfold slices_Index_int_l1 at H3
    refine TC.seqS ?_; refine TS.s OpY.lss rfl ?_; refine TS.nil ?_; refine TE.then ?_; refine TC.kp [0, 1, 7, 8, 9] [] ?_; refine TC.seq ?_; refine TC.cond (fun hc => ?_) (fun hc => ?_)
    · replace H3 := cT H3 hc
      refine TC.skip ?_; refine TE.then ?_; refine TC.kp [0, 1, 7, 8] [] ?_; refine TC.seq ?_; refine TC.block ?_; refine TC.seqS ?_; refine TS.s OpY.move rfl ?_; refine TS.s OpY.assign rfl ?_; refine TS.nil ?_; refine TE.then ?_; refine TC.kp [0, 1, 5, 7, 8] [] ?_; refine TC.seqS ?_; refine TS.s OpY.move rfl ?_; refine TS.s OpY.move rfl ?_; refine TS.s OpY.move rfl ?_
      obtain ⟨x_4, ex_4, H3⟩ := bnd H3
      refine TS.s (OpD.index ex_4) rfl ?_; refine TS.s OpY.load rfl ?_; refine TS.s OpY.eql rfl ?_; refine TS.nil ?_; refine TE.then ?_; refine TC.kp [0, 1, 5, 7, 8, 16] [] ?_; refine TC.cond (fun hc => ?_) (fun hc => ?_)
      · replace H3 := cT H3 hc
        refine TC.seqS ?_; refine TS.s OpY.move rfl ?_; refine TS.s OpY.assign rfl ?_; refine TS.nil ?_; refine TE.then ?_; refine TC.kp [4] [] ?_; refine TC.ret ?_; refine TE.inBlock_ret ?_; refine TE.then_ret ?_; refine TE.then_ret ?_; refine TE.inBlock_ret ?_; refine TE.cut_ret ?_
        have R4 := elS_r (he3 _ (Option.some.inj H3).symm) H
        refine TE.then_ret ?_
        obtain rfl := (Option.some.inj R4)
        exact TE.ret1 rfl Cv.le
      · replace H3 := cF H3 hc
        refine TC.skip ?_; refine TE.inBlock_normal ?_; refine TE.then ?_; refine TC.kp [0, 1, 7, 8] [] ?_; refine TC.regionS ?_
        obtain ⟨x_6, ex_6, H3⟩ := bnd H3
        refine TS.s (OpD.add ex_6) rfl ?_; refine TS.s OpY.move rfl ?_; refine TS.nil ?_; refine TE.kp [0, 1, 7, 8] [] ?_; exact TE.backP x_6 () (Option.some.inj H3).symm (Env.cv (Env.cv (Env.cv (Env.cv (Env.le_nil _))))) (Less.nil _)
    · replace H3 := cF H3 hc
      refine TC.exit ?_; refine TE.then_exit ?_; refine TE.then_exit ?_; refine TE.inBlock_here ?_; exact TE.cutP () () (he3 _ (Option.some.inj H3).symm).symm (Env.le_nil _) (Less.nil _)
  rintro ⟨⟩ ⟨⟩ hp
  replace H := elS_l hp H
  refine TE.then ?_; refine TC.kp [] [] ?_; refine TC.seqS ?_; refine TS.s OpY.assign rfl ?_; refine TS.nil ?_; refine TE.then ?_; refine TC.kp [4] [] ?_; refine TC.ret ?_
  obtain rfl := (Option.some.inj H)
  exact TE.ret1 rfl Cv.le
def slices_Contains_int (s0 : (List Int)) (v0x : Int) : Option Bool :=
  (slices_Index_int s0 v0x).bind fun x_1 => some (decide (x_1 ≥ (0 : Int)))
theorem slices_Contains_int_c {A : Nat → Prop} {s0 : (List Int)} {v0x : Int}  {r : Bool} (w : World) (v0 v1 : Value) (hA : ∀ k, w.heap.size ≤ k → A k)  (h0 : (D (s0 : (List Int))).p A w v0) (h1 : (D (v0x : Int)).p A w v1) (H : slices_Contains_int s0 v0x = some r) :
    Calls Try.prog 86 #[v0, v1] w (Ret A w (D (r : Bool))) := by
  unfold slices_Contains_int at H
  refine enter2 hA Try.func86 rfl Try.ntmps86 rfl h0 h1 ?_; refine TC.seqS ?_; refine TS.s OpY.assign rfl ?_; refine TS.nil ?_; refine TE.then ?_; refine TC.kp [0, 1] [] ?_; refine TC.seqS ?_; refine TS.s OpY.move rfl ?_; refine TS.s OpY.move rfl ?_
  obtain ⟨x_1, ex_1, H⟩ := bnd H
  refine TS.s (OpY.call2 fun w v0 v1 hA h0 h1 => slices_Index_int_c w v0 v1 hA (toD h0) (toD h1) ex_1) rfl ?_; refine TS.s OpY.geq rfl ?_; refine TS.s OpY.assign rfl ?_; refine TS.nil ?_; refine TE.then ?_; refine TC.kp [4] [] ?_; refine TC.ret ?_
  obtain rfl := (Option.some.inj H)
  exact TE.ret1 rfl Cv.le
def image_Stale_l1 (at0 : (List Int)) (l_9 : (List Int)) (n_11 : Int) (v_12 : image_sheet) : Option ((List Int) ⊕ Empty) :=
  (gb (decide (v_12.kind = (3 : Int))) (slices_Contains_int at0 n_11)).bind fun x_17 => bif ((decide (v_12.kind = (3 : Int))) && (!x_17)) then ((room 8 ((l_9.length + ([n_11] : List Int).length : Nat) : Int)).bind fun u_19 => (some ((l_9 ++ ([n_11] : List Int)) : (List Int))).bind fun l_20 => some (.inl l_20)) else (some (.inl l_9))
def image_Stale (c0 : Chip) (at0 : (List Int)) : Option (List Int) :=
  (chip_Right c0).bind fun x_3 => bif (!x_3) then (some ([] : List Int)) else ((some ((Dat.z : (List Int)) : (List Int))).bind fun l_5 => (some (([] : List Int) : (List Int))).bind fun l_6 => (image_sheets c0).bind fun x_7 => (image_sheets_1 (yT2 (fun (s : (List Int)) n_11 v_12 => image_Stale_l1 at0 s n_11 v_12)) (.inl l_6 : (List Int) ⊕ Empty) x_7).bind fun o_10 => elS o_10 (fun s => (fun l_9 => some l_9) s) (fun e => nomatch e))
theorem image_Stale_c {A : Nat → Prop} {c0 : Chip} {at0 : (List Int)}  {r : (List Int)} (w : World) (v0 v1 : Value) (hA : ∀ k, w.heap.size ≤ k → A k)  (h0 : (D (c0 : Chip)).p A w v0) (h1 : (D (at0 : (List Int))).p A w v1) (H : image_Stale c0 at0 = some r) :
    Calls Try.prog 51 #[v0, v1] w (Ret A w (D (r : (List Int)))) := by
  unfold image_Stale at H
  refine enterM2 hA Try.func51 rfl Try.ntmps51 rfl h0 h1 ?_; refine TC.seqS ?_; refine TS.box rfl fun b2_0 => ?_; refine TS.box rfl fun b3_1 => ?_; refine TS.s OpY.assign rfl ?_; refine TS.nil ?_; refine TE.then ?_; refine TC.kp [2, 3] [b2_0, b3_1] ?_; refine TC.seq ?_; refine TC.seqS ?_; refine TS.s (OpD.ldq Pl.one) rfl ?_
  obtain ⟨x_3, ex_3, H⟩ := bnd H
  refine TS.s (OpY.call1 fun w v0 hA h0 => chip_Right_c w v0 hA (toD h0) ex_3) rfl ?_; refine TS.s OpY.notB rfl ?_; refine TS.nil ?_; refine TE.then ?_; refine TC.kp [2, 3, 10] [b2_0, b3_1] ?_; refine TC.cond (fun hc => ?_) (fun hc => ?_)
  · replace H := cT H hc
    refine TC.seqS ?_; refine TS.s OpY.assign rfl ?_; refine TS.nil ?_; refine TE.then ?_; refine TC.kp [4] [] ?_; refine TC.ret ?_; refine TE.then_ret ?_; refine TE.noMarks rfl ?_
    obtain rfl := (Option.some.inj H)
    exact TE.ret1 rfl Cv.le
  · replace H := cF H hc
    refine TC.skip ?_; refine TE.then ?_; refine TC.kp [2, 3] [b2_0, b3_1] ?_; refine TC.seqS ?_; refine TS.nilE 0 Int ?_; refine TS.allocZ (α := (List Int)) (ZeroC.mix (α := (List Int)) (o := 0) (b := 0) (ZeroC.one (α := (List Int))) rfl) rfl fun b5_3 => ?_; refine TS.nil ?_; refine TE.then ?_; refine TC.kp [2, 3, 5] [b2_0, b3_1, b5_3, 0] ?_
    obtain ⟨l_5, el_5, H⟩ := bnd H
    refine TC.nmB b5_3 (nm_mix (nm_one el_5)) ?_
    obtain ⟨l_6, el_6, H⟩ := bnd H
    refine TC.nmB 0 (nm_row el_6) ?_; refine TC.nmB b5_3 (mix_n (nm_len el_6 (by simp))) ?_; refine TC.seq ?_; refine TC.seqS ?_; refine TS.s (OpD.ldq Pl.one) rfl ?_
    obtain ⟨x_7, ex_7, H⟩ := bnd H
    refine TS.s (OpY.call1 fun w v0 hA h0 => image_sheets_c w v0 hA (toD h0) ex_7) rfl ?_; refine TS.nil ?_; refine TE.then ?_; refine TC.kp [3, 5, 12] [b3_1, b5_3, 0] ?_; refine TC.block ?_; refine TC.kp [3, 5, 12] [b3_1, b5_3, 0] ?_
    obtain ⟨o_10, H10, H⟩ := bnd H
    refine TC.range2 (it := fun {σ} y s => image_sheets_1 y s x_7) H10 rfl rfl (fun A w v h => by obtain ⟨c0, rfl, k0⟩ := h; exact ⟨[c0], by simp, image_sheets_1_it w c0 k0⟩) rfl rfl (fun (l_9 : (List Int)) (⟨b_7, p_7, c_7⟩ : Nat × Prop × Nat) => [⟨b_7, p_7, (Row (l_9 : List Int) c_7)⟩, ⟨b3_1, True, (One (at0 : (List Int)))⟩, ⟨b5_3, True, (Ct.mix (One (l_5 : (List Int))) 0 (Sl b_7 p_7 0 l_9.length c_7))⟩]) (fun e _ => nomatch e) ⟨0, False, 0⟩ (Less.pk rfl (Less.pk rfl (Less.pk rfl (Less.nil _)))) ?_ ?_ ?_
    · skip
      rintro l_9 ⟨b_7, p_7, c_7⟩ n_11 v_12 x_13 H13 R_13 r_13 hR_13 hop_13
      haveI := hop_13
      replace H13 : image_Stale_l1 at0 l_9 n_11 v_12 = some x_13 := H13
      unfold image_Stale_l1 at H13
      refine TC.seqS ?_; refine TS.s OpY.assign rfl ?_; refine TS.nil ?_; refine TE.then ?_; refine TC.kp [3, 5, 6, 12, 14] [b3_1, b5_3, b_7] ?_; refine TC.regionS ?_; refine TS.alloc (α := image_sheet) rfl fun b7_14 => ?_; refine TS.un (OpT.storeq (y := (v_12 : image_sheet)) Pl.one) ?_; refine TS.nil ?_; refine TE.kp [3, 5, 6, 7, 12] [b3_1, b5_3, b_7, b7_14] ?_; refine TE.kp [3, 5, 6, 7, 12] [b3_1, b5_3, b_7, b7_14] ?_; refine TE.begin hR_13 ?_; intro r_15 hR_15 hop_15
      haveI := hop_15
      refine TC.block ?_; refine TC.seqS ?_; refine TS.s OpY.fieldAddr rfl ?_; refine TS.s (OpD.ldq (Pl.fld (off := 0) (α := image_sheet) (β := Int) Pl.one)) rfl ?_; refine TS.s OpY.eql rfl ?_; refine TS.s OpY.move rfl ?_; refine TS.g 18 rfl (fun hg => (OpD.ldq Pl.one)) rfl ?_; refine TS.g 18 rfl (fun hg => OpY.move) rfl ?_
      obtain ⟨x_17, ex_17, H13⟩ := bnd H13
      refine TS.g 18 rfl (fun hg => (OpY.call2 fun w v0 v1 hA h0 h1 => slices_Contains_int_c w v0 v1 hA (toD h0) (toD h1) (gb_some ex_17 hg.h))) rfl ?_; refine TS.g 18 rfl (fun hg => OpY.notB) rfl ?_; refine TS.s OpY.pickAnd rfl ?_; refine TS.nil ?_; refine TE.then ?_; refine TC.kp [3, 5, 6, 12, 23] [b3_1, b5_3, b_7] ?_; refine TC.cond (fun hc => ?_) (fun hc => ?_)
      · replace H13 := cT H13 hc
        refine TC.regionS ?_; refine TS.s (OpD.ldHq CeH.here) rfl ?_; refine TS.s OpY.move rfl ?_; refine TS.s (OpY.buildSlice [.tmp 25] rfl rfl (by decide)) rfl ?_
        obtain ⟨u_19, eu_19, H13⟩ := bnd H13
        refine TS.app (ys := ([n_11] : List Int)) inferInstance eu_19 rfl rfl rfl fun b27_17 p27_17 c27_17 => ?_; refine TS.un (OpT.storeHq CtH.same) ?_; refine TS.nil ?_; refine TE.kp [3, 5, 12] [b3_1, b5_3, b27_17] ?_
        obtain ⟨l_20, el_20, H13⟩ := bnd H13
        refine TE.nmB b27_17 (nm_row el_20) ?_; refine TE.nmB b5_3 (mix_n (nm_len el_20 rfl)) ?_; refine TE.inBlock_normal ?_; exact TE.roundN hR_15 l_20 ⟨b27_17, p27_17, c27_17⟩ (Option.some.inj H13).symm (Less.pk rfl (Less.pk rfl (Less.pk rfl (Less.nil _))))
      · replace H13 := cF H13 hc
        refine TC.skip ?_; refine TE.inBlock_normal ?_; exact TE.roundN hR_15 l_9 ⟨b_7, p_7, c_7⟩ (Option.some.inj H13).symm (Less.pk rfl (Less.pk rfl (Less.pk rfl (Less.nil _))))
    · skip
      rintro l_9 ⟨b_7, p_7, c_7⟩ D_20 r_20 hx_20 hD_20
      haveI := hD_20.op
      have H_20 := elS_l hx_20 H
      refine TE.inBlock_normal ?_; refine TE.thenE hD_20.rh ?_; refine TC.kp [5] [b5_3, b_7] ?_; refine TC.seqS ?_; refine TS.s (OpD.ldHq CeH.here) rfl ?_; refine TS.s OpY.assign rfl ?_; refine TS.nil ?_; refine TE.then ?_; refine TC.kp [4] [b_7] ?_; refine TC.ret ?_; refine TE.marks hD_20 ?_; refine TE.pub b_7 (PubE.set 4 (PubC.sv PlS.all rfl) PubE.refl) ?_
      obtain rfl := (Option.some.inj H_20)
      exact TE.ret1 rfl Cv.le
    · skip
      exact fun e => nomatch e
def image_Gens_l1 (l_8 : (List UInt64)) (n_10 : Int) (v_11 : image_sheet) : Option ((List UInt64) ⊕ Empty) :=
  bif (decide (v_11.kind = (2 : Int))) then ((room 8 ((l_8.length + ([v_11.gen] : List UInt64).length : Nat) : Int)).bind fun u_17 => (some ((l_8 ++ ([v_11.gen] : List UInt64)) : (List UInt64))).bind fun l_18 => some (.inl l_18)) else (some (.inl l_8))
def image_Gens (c0 : Chip) : Option (List UInt64) :=
  (chip_Right c0).bind fun x_2 => bif (!x_2) then (some ([] : List UInt64)) else ((some ((Dat.z : (List UInt64)) : (List UInt64))).bind fun l_4 => (some (([] : List UInt64) : (List UInt64))).bind fun l_5 => (image_sheets c0).bind fun x_6 => (image_sheets_1 (yT2 (fun (s : (List UInt64)) n_10 v_11 => image_Gens_l1 s n_10 v_11)) (.inl l_5 : (List UInt64) ⊕ Empty) x_6).bind fun o_9 => elS o_9 (fun s => (fun l_8 => (slices_Sort_uint64 l_8).bind fun x_20 => (lenI x_20.length l_8.length).bind fun u_22 => (slices_Compact_uint64 x_20).bind fun x_23 => some x_23) s) (fun e => nomatch e))
theorem image_Gens_c {A : Nat → Prop} {c0 : Chip}  {r : (List UInt64)} (w : World) (v0 : Value) (hA : ∀ k, w.heap.size ≤ k → A k)  (h0 : (D (c0 : Chip)).p A w v0) (H : image_Gens c0 = some r) :
    Calls Try.prog 52 #[v0] w (Ret A w (D (r : (List UInt64)))) := by
  unfold image_Gens at H
  refine enterM1 hA Try.func52 rfl Try.ntmps52 rfl h0 ?_; refine TC.seqS ?_; refine TS.box rfl fun b1_0 => ?_; refine TS.s OpY.assign rfl ?_; refine TS.nil ?_; refine TE.then ?_; refine TC.kp [1] [b1_0] ?_; refine TC.seq ?_; refine TC.seqS ?_; refine TS.s (OpD.ldq Pl.one) rfl ?_
  obtain ⟨x_2, ex_2, H⟩ := bnd H
  refine TS.s (OpY.call1 fun w v0 hA h0 => chip_Right_c w v0 hA (toD h0) ex_2) rfl ?_; refine TS.s OpY.notB rfl ?_; refine TS.nil ?_; refine TE.then ?_; refine TC.kp [1, 8] [b1_0] ?_; refine TC.cond (fun hc => ?_) (fun hc => ?_)
  · replace H := cT H hc
    refine TC.seqS ?_; refine TS.s OpY.assign rfl ?_; refine TS.nil ?_; refine TE.then ?_; refine TC.kp [2] [] ?_; refine TC.ret ?_; refine TE.then_ret ?_; refine TE.noMarks rfl ?_
    obtain rfl := (Option.some.inj H)
    exact TE.ret1 rfl Cv.le
  · replace H := cF H hc
    refine TC.skip ?_; refine TE.then ?_; refine TC.kp [1] [b1_0] ?_; refine TC.seqS ?_; refine TS.nilE 0 UInt64 ?_; refine TS.allocZ (α := (List UInt64)) (ZeroC.mix (α := (List UInt64)) (o := 0) (b := 0) (ZeroC.one (α := (List UInt64))) rfl) rfl fun b3_2 => ?_; refine TS.nil ?_; refine TE.then ?_; refine TC.kp [1, 3] [b1_0, b3_2, 0] ?_
    obtain ⟨l_4, el_4, H⟩ := bnd H
    refine TC.nmB b3_2 (nm_mix (nm_one el_4)) ?_
    obtain ⟨l_5, el_5, H⟩ := bnd H
    refine TC.nmB 0 (nm_row el_5) ?_; refine TC.nmB b3_2 (mix_n (nm_len el_5 (by simp))) ?_; refine TC.seq ?_; refine TC.seqS ?_; refine TS.s (OpD.ldq Pl.one) rfl ?_
    obtain ⟨x_6, ex_6, H⟩ := bnd H
    refine TS.s (OpY.call1 fun w v0 hA h0 => image_sheets_c w v0 hA (toD h0) ex_6) rfl ?_; refine TS.nil ?_; refine TE.then ?_; refine TC.kp [3, 10] [b3_2, 0] ?_; refine TC.block ?_; refine TC.kp [3, 10] [b3_2, 0] ?_
    obtain ⟨o_9, H9, H⟩ := bnd H
    refine TC.range2 (it := fun {σ} y s => image_sheets_1 y s x_6) H9 rfl rfl (fun A w v h => by obtain ⟨c0, rfl, k0⟩ := h; exact ⟨[c0], by simp, image_sheets_1_it w c0 k0⟩) rfl rfl (fun (l_8 : (List UInt64)) (⟨b_6, p_6, c_6⟩ : Nat × Prop × Nat) => [⟨b_6, p_6, (Row (l_8 : List UInt64) c_6)⟩, ⟨b3_2, True, (Ct.mix (One (l_4 : (List UInt64))) 0 (Sl b_6 p_6 0 l_8.length c_6))⟩]) (fun e _ => nomatch e) ⟨0, False, 0⟩ (Less.pk rfl (Less.pk rfl (Less.nil _))) ?_ ?_ ?_
    · skip
      rintro l_8 ⟨b_6, p_6, c_6⟩ n_10 v_11 x_12 H12 R_12 r_12 hR_12 hop_12
      haveI := hop_12
      replace H12 : image_Gens_l1 l_8 n_10 v_11 = some x_12 := H12
      unfold image_Gens_l1 at H12
      refine TC.regionS ?_; refine TS.alloc (α := image_sheet) rfl fun b5_13 => ?_; refine TS.un (OpT.storeq (y := (v_11 : image_sheet)) Pl.one) ?_; refine TS.nil ?_; refine TE.kp [3, 5, 10] [b3_2, b_6, b5_13] ?_; refine TE.kp [3, 5, 10] [b3_2, b_6, b5_13] ?_; refine TE.begin hR_12 ?_; intro r_14 hR_14 hop_14
      haveI := hop_14
      refine TC.block ?_; refine TC.seqS ?_; refine TS.s OpY.fieldAddr rfl ?_; refine TS.s (OpD.ldq (Pl.fld (off := 0) (α := image_sheet) (β := Int) Pl.one)) rfl ?_; refine TS.s OpY.eql rfl ?_; refine TS.nil ?_; refine TE.then ?_; refine TC.kp [3, 5, 10, 15] [b3_2, b_6, b5_13] ?_; refine TC.cond (fun hc => ?_) (fun hc => ?_)
      · replace H12 := cT H12 hc
        refine TC.regionS ?_; refine TS.s (OpD.ldHq CeH.here) rfl ?_; refine TS.s OpY.fieldAddr rfl ?_; refine TS.s (OpD.ldq (Pl.fld (off := 2) (α := image_sheet) (β := UInt64) Pl.one)) rfl ?_; refine TS.s (OpY.buildSlice [.tmp 18] rfl rfl (by decide)) rfl ?_
        obtain ⟨u_17, eu_17, H12⟩ := bnd H12
        refine TS.app (ys := ([v_11.gen] : List UInt64)) inferInstance eu_17 rfl rfl rfl fun b20_15 p20_15 c20_15 => ?_; refine TS.un (OpT.storeHq CtH.same) ?_; refine TS.nil ?_; refine TE.kp [3, 10] [b3_2, b20_15] ?_
        obtain ⟨l_18, el_18, H12⟩ := bnd H12
        refine TE.nmB b20_15 (nm_row el_18) ?_; refine TE.nmB b3_2 (mix_n (nm_len el_18 rfl)) ?_; refine TE.inBlock_normal ?_; exact TE.roundN hR_14 l_18 ⟨b20_15, p20_15, c20_15⟩ (Option.some.inj H12).symm (Less.pk rfl (Less.pk rfl (Less.nil _)))
      · replace H12 := cF H12 hc
        refine TC.skip ?_; refine TE.inBlock_normal ?_; exact TE.roundN hR_14 l_8 ⟨b_6, p_6, c_6⟩ (Option.some.inj H12).symm (Less.pk rfl (Less.pk rfl (Less.nil _)))
    · skip
      rintro l_8 ⟨b_6, p_6, c_6⟩ D_18 r_18 hx_18 hD_18
      haveI := hD_18.op
      have H_18 := elS_l hx_18 H
      refine TE.inBlock_normal ?_; refine TE.thenE hD_18.rh ?_; refine TC.kp [3] [b3_2, b_6] ?_; refine TC.seqS ?_; refine TS.s (OpD.ldHq CeH.here) rfl ?_
      obtain ⟨x_20, ex_20, H_18⟩ := bnd H_18
      refine TS.t (OpT.callO1 [b_6] fun w v0 hA hO hap hks h0 => slices_Sort_uint64_o w v0 hA hO hap hks (slD rfl h0) ex_20) rfl fun _ => ?_; dsimp only [List.cons_append, List.nil_append]
      obtain ⟨u_22, eu_22, H_18⟩ := bnd H_18
      refine TS.nil ?_; refine TE.then ?_; refine TC.kp [3] [b3_2, b_6] ?_; refine TC.seqS ?_; refine TS.s (OpD.ldHq CeH.here) rfl ?_
      obtain ⟨x_23, ex_23, H_18⟩ := bnd H_18
      refine TS.t (OpT.callO1 [b_6] fun w v0 hA hO hap hks h0 => slices_Compact_uint64_o w v0 hA hO hap hks (slD (lenI_eq eu_22) h0) ex_23) rfl fun _ => ?_; dsimp only [List.cons_append, List.nil_append]
      refine TS.s OpY.assign rfl ?_; refine TS.nil ?_; refine TE.then ?_; refine TC.kp [2] [] ?_; refine TC.ret ?_; refine TE.marks hD_18 ?_
      obtain rfl := (Option.some.inj H_18)
      exact TE.ret1 rfl Cv.le
    · skip
      exact fun e => nomatch e
def image_Sound_l1 (c0 : Chip) (n_6 : Int) (v_7 : image_sheet) : Option (Unit ⊕ Unit) :=
  (subI n_6 (1 : Int)).bind fun x_12 => (remI x_12 c0.Pages).bind fun x_13 => (subI n_6 (1 : Int)).bind fun x_14 => (quoI x_14 c0.Pages).bind fun x_15 => (idx c0.Blocks x_15).bind fun x_16 => (some ((decide (x_13 < x_16.Used)) : Bool)).bind fun used_17 => bif (((decide (v_7.kind = (4 : Int))) || (decide (v_7.kind = (1 : Int)))) || ((!used_17) && (decide (v_7.kind ≠ (0 : Int))))) then (some (.inr ())) else (some (.inl ()))
def image_Sound (c0 : Chip) : Option Bool :=
  (chip_Right c0).bind fun x_3 => bif (!x_3) then (some false) else ((image_sheets c0).bind fun x_4 => (image_sheets_1 (yT2 (fun (s : Unit) n_6 v_7 => image_Sound_l1 c0 n_6 v_7)) (.inl () : Unit ⊕ Unit) x_4).bind fun o_5 => elS o_5 (fun s => some true) (fun s => some false))
theorem image_Sound_c {A : Nat → Prop} {c0 : Chip}  {r : Bool} (w : World) (v0 : Value) (hA : ∀ k, w.heap.size ≤ k → A k)  (h0 : (D (c0 : Chip)).p A w v0) (H : image_Sound c0 = some r) :
    Calls Try.prog 53 #[v0] w (Ret A w (D (r : Bool))) := by
  unfold image_Sound at H
  refine enterM1 hA Try.func53 rfl Try.ntmps53 rfl h0 ?_; refine TC.seqS ?_; refine TS.box rfl fun b1_0 => ?_; refine TS.alloc (α := Bool) rfl fun b2_1 => ?_; refine TS.nil ?_; refine TE.then ?_; refine TC.kp [1, 2] [b1_0, b2_1] ?_; refine TC.seq ?_; refine TC.seqS ?_; refine TS.s (OpD.ldq Pl.one) rfl ?_
  obtain ⟨x_3, ex_3, H⟩ := bnd H
  refine TS.s (OpY.call1 fun w v0 hA h0 => chip_Right_c w v0 hA (toD h0) ex_3) rfl ?_; refine TS.s OpY.notB rfl ?_; refine TS.nil ?_; refine TE.then ?_; refine TC.kp [1, 2, 8] [b1_0, b2_1] ?_; refine TC.cond (fun hc => ?_) (fun hc => ?_)
  · replace H := cT H hc
    refine TC.seqS ?_; refine TS.un (OpT.storeq (y := (false : Bool)) Pl.one) ?_; refine TS.nil ?_; refine TE.then ?_; refine TC.kp [2] [b2_1] ?_; refine TC.ret ?_; refine TE.then_ret ?_; refine TE.noMarks rfl ?_
    obtain rfl := (Option.some.inj H)
    exact TE.ret1 rfl Cv.le
  · replace H := cF H hc
    refine TC.skip ?_; refine TE.then ?_; refine TC.kp [1, 2] [b1_0, b2_1] ?_; refine TC.seq ?_; refine TC.seqS ?_; refine TS.s (OpD.ldq Pl.one) rfl ?_
    obtain ⟨x_4, ex_4, H⟩ := bnd H
    refine TS.s (OpY.call1 fun w v0 hA h0 => image_sheets_c w v0 hA (toD h0) ex_4) rfl ?_; refine TS.nil ?_; refine TE.then ?_; refine TC.kp [1, 2, 10] [b1_0, b2_1] ?_; refine TC.block ?_; refine TC.kp [1, 2, 10] [b1_0, b2_1] ?_
    obtain ⟨o_5, H5, H⟩ := bnd H
    refine TC.range2 (it := fun {σ} y s => image_sheets_1 y s x_4) H5 rfl rfl (fun A w v h => by obtain ⟨c0, rfl, k0⟩ := h; exact ⟨[c0], by simp, image_sheets_1_it w c0 k0⟩) rfl rfl (fun (_ : Unit) (_ : Unit) => [⟨b1_0, True, (One (c0 : Chip))⟩, ⟨b2_1, True, (One (Dat.z : Bool))⟩]) (fun (_ : Unit) (_ : Unit) => [⟨b2_1, True, (One (false : Bool))⟩]) () (Less.pk rfl (Less.pk rfl (Less.nil _))) ?_ ?_ ?_
    · skip
      rintro ⟨⟩ ⟨⟩ n_6 v_7 x_8 H8 R_8 r_8 hR_8 hop_8
      haveI := hop_8
      replace H8 : image_Sound_l1 c0 n_6 v_7 = some x_8 := H8
      unfold image_Sound_l1 at H8
      refine TC.seqS ?_; refine TS.s OpY.assign rfl ?_; refine TS.nil ?_; refine TE.then ?_; refine TC.kp [1, 2, 3, 10, 12] [b1_0, b2_1] ?_; refine TC.regionS ?_; refine TS.alloc (α := image_sheet) rfl fun b4_9 => ?_; refine TS.un (OpT.storeq (y := (v_7 : image_sheet)) Pl.one) ?_; refine TS.nil ?_; refine TE.kp [1, 2, 3, 4, 10] [b1_0, b2_1, b4_9] ?_; refine TE.kp [1, 2, 3, 4, 10] [b1_0, b2_1, b4_9] ?_; refine TE.begin hR_8 ?_; intro r_10 hR_10 hop_10
      haveI := hop_10
      refine TC.block ?_; refine TC.seqD0 mix (by kernel_rfl) ?_; refine TR.s OpY.move rfl ?_
      obtain ⟨x_12, ex_12, H8⟩ := bnd H8
      refine TR.s (OpD.sub ex_12) rfl ?_; refine TR.s OpY.fieldAddr rfl ?_; refine TR.s (OpD.ldq (Pl.fld (off := 0) (α := Chip) (β := Int) Pl.one)) rfl ?_
      obtain ⟨x_13, ex_13, H8⟩ := bnd H8
      refine TR.s (OpD.rem ex_13) rfl ?_; refine TR.s OpY.fieldAddr rfl ?_; refine TR.s (OpD.ldq (Pl.fld (off := 2) (α := Chip) (β := (List Block)) Pl.one)) rfl ?_; refine TR.s OpY.move rfl ?_
      obtain ⟨x_14, ex_14, H8⟩ := bnd H8
      refine TR.s (OpD.sub ex_14) rfl ?_; refine TR.s OpY.fieldAddr rfl ?_; refine TR.s (OpD.ldq (Pl.fld (off := 0) (α := Chip) (β := Int) Pl.one)) rfl ?_
      obtain ⟨x_15, ex_15, H8⟩ := bnd H8
      refine TR.s (OpD.quo ex_15) rfl ?_
      obtain ⟨x_16, ex_16, H8⟩ := bnd H8
      refine TR.s (OpD.index ex_16) rfl ?_; refine TR.s OpY.fieldAddr rfl ?_; refine TR.s OpY.load rfl ?_; refine TR.s OpY.lss rfl ?_; refine TR.s OpY.assign rfl ?_; refine TR.nil ?_; refine TC.kp [1, 2, 4, 5, 10] [b1_0, b2_1, b4_9] ?_
      obtain ⟨used_17, eused_17, H8⟩ := bnd H8
      refine TC.see 5 (D (used_17 : Bool)) (nm_cv eused_17) ?_; refine TC.seqS ?_; refine TS.s OpY.fieldAddr rfl ?_; refine TS.s (OpD.ldq (Pl.fld (off := 0) (α := image_sheet) (β := Int) Pl.one)) rfl ?_; refine TS.s OpY.eql rfl ?_; refine TS.s OpY.move rfl ?_; refine TS.g 32 rfl (fun hg => OpY.fieldAddr) rfl ?_; refine TS.g 32 rfl (fun hg => (OpD.ldq (Pl.fld (off := 0) (α := image_sheet) (β := Int) Pl.one))) rfl ?_; refine TS.g 32 rfl (fun hg => OpY.eql) rfl ?_; refine TS.s OpY.pickOr rfl ?_; refine TS.s OpY.move rfl ?_; refine TS.g 37 rfl (fun hg => OpY.move) rfl ?_; refine TS.g 37 rfl (fun hg => OpY.notB) rfl ?_; refine TS.g 37 rfl (fun hg => OpY.move) rfl ?_; refine TS.gg 40 rfl (fun hp hg => OpY.fieldAddr) rfl ?_; refine TS.gg 40 rfl (fun hp hg => (OpD.ldq (Pl.fld (off := 0) (α := image_sheet) (β := Int) Pl.one))) rfl ?_; refine TS.gg 40 rfl (fun hp hg => OpY.neq) rfl ?_; refine TS.g 37 rfl (fun hg => OpY.pickAnd) rfl ?_; refine TS.s OpY.pickOr rfl ?_; refine TS.nil ?_; refine TE.then ?_; refine TC.kp [1, 2, 10, 45] [b1_0, b2_1] ?_; refine TC.cond (fun hc => ?_) (fun hc => ?_)
      · replace H8 := cT H8 hc
        refine TC.seqS ?_; refine TS.un (OpT.storeq (y := (false : Bool)) Pl.one) ?_; refine TS.nil ?_; refine TE.then ?_; refine TC.kp [2] [b2_1] ?_; refine TC.ret ?_; refine TE.inBlock_ret ?_; exact TE.roundR hR_10 () () (Option.some.inj H8).symm (Less.pk rfl (Less.nil _))
      · replace H8 := cF H8 hc
        refine TC.skip ?_; refine TE.inBlock_normal ?_; exact TE.roundN hR_10 () () (Option.some.inj H8).symm (Less.pk rfl (Less.pk rfl (Less.nil _)))
    · skip
      rintro ⟨⟩ ⟨⟩ D_17 r_17 hx_17 hD_17
      haveI := hD_17.op
      have H_17 := elS_l hx_17 H
      refine TE.inBlock_normal ?_; refine TE.thenE hD_17.rh ?_; refine TC.kp [2] [b2_1] ?_; refine TC.seqS ?_; refine TS.un (OpT.storeq (y := (true : Bool)) Pl.one) ?_; refine TS.nil ?_; refine TE.then ?_; refine TC.kp [2] [b2_1] ?_; refine TC.ret ?_; refine TE.marks hD_17 ?_
      obtain rfl := (Option.some.inj H_17)
      exact TE.ret1 rfl Cv.le
    · skip
      rintro ⟨⟩ ⟨⟩ D_18 r_18 hx_18 hD_18
      haveI := hD_18.op
      have H_18 := elS_r hx_18.symm H
      refine TE.inBlock_ret ?_; refine TE.then_ret ?_; refine TE.marks hD_18 ?_
      obtain rfl := (Option.some.inj H_18)
      exact TE.ret1 rfl Cv.le
def bywayref21_Kind (b0 : (List UInt8)) : Option Int :=
  (bywayref07_Blank b0).bind fun x_1 => bif x_1 then (some (0 : Int)) else ((bywayref10_Read b0).bind fun r_2 => bif (decide (r_2.2 = (0 : Int))) then (some (2 : Int)) else ((bywayref07_Read b0).bind fun r_4 => bif ((decide (r_4.2 = (0 : Int))) && (decide (r_4.1.Kind = (1 : Int)))) then (some (1 : Int)) else (some (3 : Int))))
theorem bywayref21_Kind_c {A : Nat → Prop} {b0 : (List UInt8)}  {r : Int} (w : World) (v0 : Value) (hA : ∀ k, w.heap.size ≤ k → A k)  (h0 : (D (b0 : (List UInt8))).p A w v0) (H : bywayref21_Kind b0 = some r) :
    Calls Try.prog 91 #[v0] w (Ret A w (D (r : Int))) := by
  unfold bywayref21_Kind at H
  refine enter1 hA Try.func91 rfl Try.ntmps91 rfl h0 ?_; refine TC.seqS ?_; refine TS.s OpY.assign rfl ?_; refine TS.nil ?_; refine TE.then ?_; refine TC.kp [0] [] ?_; refine TC.seq ?_; refine TC.seqS ?_; refine TS.s OpY.move rfl ?_
  obtain ⟨x_1, ex_1, H⟩ := bnd H
  refine TS.s (OpY.call1 fun w v0 hA h0 => bywayref07_Blank_c w v0 hA (toD h0) ex_1) rfl ?_; refine TS.nil ?_; refine TE.then ?_; refine TC.kp [0, 8] [] ?_; refine TC.cond (fun hc => ?_) (fun hc => ?_)
  · replace H := cT H hc
    refine TC.seqS ?_; refine TS.s OpY.assign rfl ?_; refine TS.nil ?_; refine TE.then ?_; refine TC.kp [2] [] ?_; refine TC.ret ?_; refine TE.then_ret ?_
    obtain rfl := (Option.some.inj H)
    exact TE.ret1 rfl Cv.le
  · replace H := cF H hc
    refine TC.skip ?_; refine TE.then ?_; refine TC.kp [0] [] ?_; refine TC.seqS ?_; refine TS.s OpY.move rfl ?_
    obtain ⟨r_2, er_2, H⟩ := bnd H
    refine TS.s (OpY.call1 fun w v0 hA h0 => bywayref10_Read_c w v0 hA (toD h0) er_2) rfl ?_; refine TS.s OpY.move rfl ?_; refine TS.s (OpY.extract rfl) rfl ?_; refine TS.s (OpY.extract rfl) rfl ?_; refine TS.alloc (α := Roots) rfl fun b3_2 => ?_; refine TS.un (OpT.storeq (y := (r_2.1 : Roots)) Pl.one) ?_; refine TS.s OpY.assign rfl ?_; refine TS.nil ?_; refine TE.then ?_; refine TC.kp [0, 4] [] ?_; refine TC.seq ?_; refine TC.seqS ?_; refine TS.s OpY.move rfl ?_; refine TS.s OpY.eql rfl ?_; refine TS.nil ?_; refine TE.then ?_; refine TC.kp [0, 15] [] ?_; refine TC.cond (fun hc => ?_) (fun hc => ?_)
    · replace H := cT H hc
      refine TC.seqS ?_; refine TS.s OpY.assign rfl ?_; refine TS.nil ?_; refine TE.then ?_; refine TC.kp [2] [] ?_; refine TC.ret ?_; refine TE.then_ret ?_
      obtain rfl := (Option.some.inj H)
      exact TE.ret1 rfl Cv.le
    · replace H := cF H hc
      refine TC.skip ?_; refine TE.then ?_; refine TC.kp [0] [] ?_; refine TC.seqS ?_; refine TS.s OpY.move rfl ?_
      obtain ⟨r_4, er_4, H⟩ := bnd H
      refine TS.s (OpY.call1 fun w v0 hA h0 => bywayref07_Read_c w v0 hA (toD h0) er_4) rfl ?_; refine TS.s OpY.move rfl ?_; refine TS.s (OpY.extract rfl) rfl ?_; refine TS.s (OpY.extract rfl) rfl ?_; refine TS.alloc (α := Page) rfl fun b5_4 => ?_; refine TS.un (OpT.storeq (y := (r_4.1 : Page)) Pl.one) ?_; refine TS.s OpY.assign rfl ?_; refine TS.nil ?_; refine TE.then ?_; refine TC.kp [5, 6] [b5_4] ?_; refine TC.seq ?_; refine TC.seqS ?_; refine TS.s OpY.move rfl ?_; refine TS.s OpY.eql rfl ?_; refine TS.s OpY.move rfl ?_; refine TS.g 23 rfl (fun hg => OpY.fieldAddr) rfl ?_; refine TS.g 23 rfl (fun hg => (OpD.ldq (Pl.fld (off := 0) (α := Page) (β := Int) Pl.one))) rfl ?_; refine TS.g 23 rfl (fun hg => OpY.eql) rfl ?_; refine TS.s OpY.pickAnd rfl ?_; refine TS.nil ?_; refine TE.then ?_; refine TC.kp [27] [] ?_; refine TC.cond (fun hc => ?_) (fun hc => ?_)
      · replace H := cT H hc
        refine TC.seqS ?_; refine TS.s OpY.assign rfl ?_; refine TS.nil ?_; refine TE.then ?_; refine TC.kp [2] [] ?_; refine TC.ret ?_; refine TE.then_ret ?_
        obtain rfl := (Option.some.inj H)
        exact TE.ret1 rfl Cv.le
      · replace H := cF H hc
        refine TC.skip ?_; refine TE.then ?_; refine TC.kp [] [] ?_; refine TC.seqS ?_; refine TS.s OpY.assign rfl ?_; refine TS.nil ?_; refine TE.then ?_; refine TC.kp [2] [] ?_; refine TC.ret ?_
        obtain rfl := (Option.some.inj H)
        exact TE.ret1 rfl Cv.le
def bywayref21_Page (c0 : Chip) (num0 : Int) : Option (Page × Bool) :=
  (quoI num0 c0.Pages).bind fun x_3 => (idx c0.Blocks x_3).bind fun x_4 => (remI num0 c0.Pages).bind fun x_5 => (idx x_4.Pages x_5).bind fun x_6 => (bywayref07_Read x_6).bind fun r_7 => (bywayref21_Kind x_6).bind fun x_9 => some (r_7.1, (decide (x_9 = (1 : Int))))
theorem bywayref21_Page_c {A : Nat → Prop} {c0 : Chip} {num0 : Int}  {r : (Page × Bool)} (w : World) (v0 v1 : Value) (hA : ∀ k, w.heap.size ≤ k → A k)  (h0 : (D (c0 : Chip)).p A w v0) (h1 : (D (num0 : Int)).p A w v1) (H : bywayref21_Page c0 num0 = some r) :
    Calls Try.prog 89 #[v0, v1] w (Ret A w (Tup [D (r.1 : Page), D (r.2 : Bool)])) := by
  unfold bywayref21_Page at H
  refine enter2 hA Try.func89 rfl Try.ntmps89 rfl h0 h1 ?_; refine TC.seqS ?_; refine TS.box rfl fun b2_0 => ?_; refine TS.alloc (α := Page) rfl fun b4_1 => ?_; refine TS.s OpY.assign rfl ?_; refine TS.nil ?_; refine TE.then ?_; refine TC.kp [1, 2, 4] [b2_0, b4_1] ?_; refine TC.seqD0 mix (by kernel_rfl) ?_; refine TR.s OpY.fieldAddr rfl ?_; refine TR.s (OpD.ldq (Pl.fld (off := 2) (α := Chip) (β := (List Block)) Pl.one)) rfl ?_; refine TR.s OpY.move rfl ?_; refine TR.s OpY.fieldAddr rfl ?_; refine TR.s (OpD.ldq (Pl.fld (off := 0) (α := Chip) (β := Int) Pl.one)) rfl ?_
  obtain ⟨x_3, ex_3, H⟩ := bnd H
  refine TR.s (OpD.quo ex_3) rfl ?_
  obtain ⟨x_4, ex_4, H⟩ := bnd H
  refine TR.s (OpD.index ex_4) rfl ?_; refine TR.s OpY.fieldAddr rfl ?_; refine TR.s OpY.load rfl ?_; refine TR.s OpY.move rfl ?_; refine TR.s OpY.fieldAddr rfl ?_; refine TR.s (OpD.ldq (Pl.fld (off := 0) (α := Chip) (β := Int) Pl.one)) rfl ?_
  obtain ⟨x_5, ex_5, H⟩ := bnd H
  refine TR.s (OpD.rem ex_5) rfl ?_
  obtain ⟨x_6, ex_6, H⟩ := bnd H
  refine TR.s (OpD.index ex_6) rfl ?_; refine TR.s OpY.load rfl ?_; refine TR.s OpY.assign rfl ?_; refine TR.nil ?_; refine TC.kp [4, 6] [b4_1] ?_; refine TC.seqS ?_; refine TS.s OpY.move rfl ?_
  obtain ⟨r_7, er_7, H⟩ := bnd H
  refine TS.s (OpY.call1 fun w v0 hA h0 => bywayref07_Read_c w v0 hA (toD h0) er_7) rfl ?_; refine TS.s OpY.move rfl ?_; refine TS.s (OpY.extract rfl) rfl ?_; refine TS.s (OpY.extract rfl) rfl ?_; refine TS.alloc (α := Page) rfl fun b7_7 => ?_; refine TS.un (OpT.storeq (y := (r_7.1 : Page)) Pl.one) ?_; refine TS.s OpY.assign rfl ?_; refine TS.nil ?_; refine TE.then ?_; refine TC.kp [4, 6, 7] [b4_1, b7_7] ?_; refine TC.seqD [4] [b4_1] mix (by kernel_rfl) (by kernel_rfl) ?_; refine TR.s (OpD.ldq Pl.one) rfl ?_; refine TR.s OpY.move rfl ?_
  obtain ⟨x_9, ex_9, H⟩ := bnd H
  refine TR.s (OpY.call1 fun w v0 hA h0 => bywayref21_Kind_c w v0 hA (toD h0) ex_9) rfl ?_; refine TR.s OpY.eql rfl ?_; refine TR.tn (fun g => (OpT.storeq (y := (r_7.1 : Page)) Pl.one)) rfl ?_; refine TR.s OpY.assign rfl ?_; refine TR.nil ?_
  rintro ⟨_, _⟩
  dsimp only [Fam.nextS, Fam.nextN, Fam.one, List.cons_append, List.nil_append]
  refine TC.kp [4, 5] [b4_1] ?_; refine TC.ret ?_
  obtain rfl := (Option.some.inj H)
  exact TE.retN rfl rfl (.cons Cv.le (.cons Cv.le .nil))
def bywayref21_Newest_l1 (c0 : Chip) (id0 : Int) (best_4 : Int) (num_5 : Int) : Option ((Int × Int) ⊕ Int) :=
  (mulI (c0.Blocks.length : Int) c0.Pages).bind fun x_7 => bif (decide (num_5 < x_7)) then (((bywayref21_Page c0 num_5).bind fun r_10 => bif ((!r_10.2) || (decide (r_10.1.Id ≠ id0))) then (some best_4) else (bif (decide (best_4 ≥ (0 : Int))) then ((bywayref21_Page c0 best_4).bind fun r_12 => bif (decide (r_10.1.Gen < r_12.1.Gen)) then (some best_4) else (some num_5)) else (some num_5))).bind fun best_8 => (addI num_5 (1 : Int)).bind fun x_14 => some (.inl (best_8, x_14))) else (some (.inr best_4))
def bywayref21_Newest (c0 : Chip) (id0 : Int) : Option (Int × Int) :=
  (loopO (fun s => bywayref21_Newest_l1 c0 id0 s.1 s.2) ((-1 : Int), (0 : Int))).bind fun best_2 => bif (decide (best_2 < (0 : Int))) then (some ((0 : Int), (6 : Int))) else ((addI best_2 (1 : Int)).bind fun x_15 => some (x_15, (0 : Int)))
theorem bywayref21_Newest_c {A : Nat → Prop} {c0 : Chip} {id0 : Int}  {r : (Int × Int)} (w : World) (v0 v1 : Value) (hA : ∀ k, w.heap.size ≤ k → A k)  (h0 : (D (c0 : Chip)).p A w v0) (h1 : (D (id0 : Int)).p A w v1) (H : bywayref21_Newest c0 id0 = some r) :
    Calls Try.prog 55 #[v0, v1] w (Ret A w (Tup [D (r.1 : Int), D (r.2 : Int)])) := by
  unfold bywayref21_Newest at H
  refine enter2 hA Try.func55 rfl Try.ntmps55 rfl h0 h1 ?_; refine TC.seqS ?_; refine TS.box rfl fun b2_0 => ?_; refine TS.s OpY.assign rfl ?_; refine TS.s OpY.assign rfl ?_; refine TS.nil ?_; refine TE.then ?_; refine TC.kp [1, 2] [b2_0] ?_; refine TC.seqS ?_; refine TS.s OpY.assign rfl ?_; refine TS.nil ?_; refine TE.then ?_; refine TC.kp [1, 2, 6] [b2_0] ?_; refine TC.seq ?_; refine TC.seqS ?_; refine TS.s OpY.assign rfl ?_; refine TS.nil ?_; refine TE.then ?_; refine TC.kp [1, 2, 6, 7] [b2_0] ?_
  obtain ⟨o_3, H3, H⟩ := bnd H
  refine TC.cutP (fun s : Int => o_3 = s) (fun (best_2 : Int) (_ : Unit) => (Env.set Env.nil 6 (D (best_2 : Int)))) (fun (best_2 : Int) (_ : Unit) => []) ?_ ?_
  · skip
    refine TC.block ?_; refine TC.loopP H3 (fun ⟨best_4, num_5⟩ (_ : Unit) => (Env.set (Env.set (Env.set (Env.set Env.nil 1 (D (id0 : Int))) 2 (Pt b2_0 0)) 6 (D (best_4 : Int))) 7 (D (num_5 : Int)))) (fun ⟨best_4, num_5⟩ (_ : Unit) => [⟨b2_0, True, (One (c0 : Chip))⟩]) () (Env.cv (Env.cv (Env.cv (Env.cv (Env.le_nil _))))) (Less.pk rfl (Less.nil _)) ?_
    rintro ⟨best_4, num_5⟩ ⟨⟩ x_6 H6 he6
    replace H6 : bywayref21_Newest_l1 c0 id0 best_4 num_5 = some x_6 := H6
    unfold bywayref21_Newest_l1 at H6
    refine TC.seq ?_; refine TC.seqS ?_; refine TS.s OpY.move rfl ?_; refine TS.s OpY.fieldAddr rfl ?_; refine TS.s (OpD.ldq (Pl.fld (off := 2) (α := Chip) (β := (List Block)) Pl.one)) rfl ?_; refine TS.s OpD.len rfl ?_; refine TS.s OpY.fieldAddr rfl ?_; refine TS.s (OpD.ldq (Pl.fld (off := 0) (α := Chip) (β := Int) Pl.one)) rfl ?_
    obtain ⟨x_7, ex_7, H6⟩ := bnd H6
    refine TS.s (OpD.mul ex_7) rfl ?_; refine TS.s OpY.lss rfl ?_; refine TS.nil ?_; refine TE.then ?_; refine TC.kp [1, 2, 6, 7, 19] [b2_0] ?_; refine TC.cond (fun hc => ?_) (fun hc => ?_)
    · replace H6 := cT H6 hc
      refine TC.skip ?_; refine TE.then ?_; refine TC.kp [1, 2, 6, 7] [b2_0] ?_; refine TC.seq ?_
      obtain ⟨o_9, H9, H6⟩ := bnd H6
      refine TC.cutP (fun s : Int => o_9 = s) (fun (best_8 : Int) (_ : Unit) => (Env.set (Env.set (Env.set (Env.set Env.nil 1 (D (id0 : Int))) 2 (Pt b2_0 0)) 6 (D (best_8 : Int))) 7 (D (num_5 : Int)))) (fun (best_8 : Int) (_ : Unit) => [⟨b2_0, True, (One (c0 : Chip))⟩]) ?_ ?_
      · skip
        refine TC.block ?_; refine TC.seqS ?_; refine TS.s (OpD.ldq Pl.one) rfl ?_; refine TS.s OpY.move rfl ?_
        obtain ⟨r_10, er_10, H9⟩ := bnd H9
        refine TS.s (OpY.call2 fun w v0 v1 hA h0 h1 => bywayref21_Page_c w v0 v1 hA (toD h0) (toD h1) er_10) rfl ?_; refine TS.s OpY.move rfl ?_; refine TS.s (OpY.extract rfl) rfl ?_; refine TS.s (OpY.extract rfl) rfl ?_; refine TS.alloc (α := Page) rfl fun b8_10 => ?_; refine TS.un (OpT.storeq (y := (r_10.1 : Page)) Pl.one) ?_; refine TS.s OpY.assign rfl ?_; refine TS.nil ?_; refine TE.then ?_; refine TC.kp [1, 2, 6, 7, 8, 9] [b2_0, b8_10] ?_; refine TC.seq ?_; refine TC.seqS ?_; refine TS.s OpY.move rfl ?_; refine TS.s OpY.notB rfl ?_; refine TS.s OpY.move rfl ?_; refine TS.g 30 rfl (fun hg => OpY.fieldAddr) rfl ?_; refine TS.g 30 rfl (fun hg => (OpD.ldq (Pl.fld (off := 1) (α := Page) (β := Int) Pl.one))) rfl ?_; refine TS.g 30 rfl (fun hg => OpY.move) rfl ?_; refine TS.g 30 rfl (fun hg => OpY.neq) rfl ?_; refine TS.s OpY.pickOr rfl ?_; refine TS.nil ?_; refine TE.then ?_; refine TC.kp [1, 2, 6, 7, 8, 35] [b2_0, b8_10] ?_; refine TC.cond (fun hc => ?_) (fun hc => ?_)
        · replace H9 := cT H9 hc
          refine TC.exit ?_; refine TE.then_exit ?_; refine TE.inBlock_here ?_; exact TE.cutP best_4 () (Option.some.inj H9).symm (Env.cv (Env.cv (Env.cv (Env.cv (Env.le_nil _))))) (Less.pk rfl (Less.nil _))
        · replace H9 := cF H9 hc
          refine TC.skip ?_; refine TE.then ?_; refine TC.kp [1, 2, 6, 7, 8] [b2_0, b8_10] ?_; refine TC.seq ?_; refine TC.seqS ?_; refine TS.s OpY.move rfl ?_; refine TS.s OpY.geq rfl ?_; refine TS.nil ?_; refine TE.then ?_; refine TC.kp [1, 2, 6, 7, 8, 37] [b2_0, b8_10] ?_; refine TC.cond (fun hc => ?_) (fun hc => ?_)
          · replace H9 := cT H9 hc
            refine TC.seqS ?_; refine TS.s (OpD.ldq Pl.one) rfl ?_; refine TS.s OpY.move rfl ?_
            obtain ⟨r_12, er_12, H9⟩ := bnd H9
            refine TS.s (OpY.call2 fun w v0 v1 hA h0 h1 => bywayref21_Page_c w v0 v1 hA (toD h0) (toD h1) er_12) rfl ?_; refine TS.s OpY.move rfl ?_; refine TS.s (OpY.extract rfl) rfl ?_; refine TS.s (OpY.extract rfl) rfl ?_; refine TS.alloc (α := Page) rfl fun b10_12 => ?_; refine TS.un (OpT.storeq (y := (r_12.1 : Page)) Pl.one) ?_; refine TS.s OpY.assign rfl ?_; refine TS.nil ?_; refine TE.then ?_; refine TC.kp [1, 2, 6, 7, 8, 10] [b2_0, b8_10, b10_12] ?_; refine TC.seqS ?_; refine TS.s OpY.fieldAddr rfl ?_; refine TS.s (OpD.ldq (Pl.fld (off := 2) (α := Page) (β := UInt64) Pl.one)) rfl ?_; refine TS.s OpY.fieldAddr rfl ?_; refine TS.s (OpD.ldq (Pl.fld (off := 2) (α := Page) (β := UInt64) Pl.one)) rfl ?_; refine TS.s OpY.gtr64 rfl ?_; refine TS.nil ?_; refine TE.then ?_; refine TC.kp [1, 2, 6, 7, 48] [b2_0] ?_; refine TC.cond (fun hc => ?_) (fun hc => ?_)
            · replace H9 := cT H9 hc
              refine TC.exit ?_; refine TE.then_exit ?_; refine TE.inBlock_here ?_; exact TE.cutP best_4 () (Option.some.inj H9).symm (Env.cv (Env.cv (Env.cv (Env.cv (Env.le_nil _))))) (Less.pk rfl (Less.nil _))
            · replace H9 := cF H9 hc
              refine TC.skip ?_; refine TE.then ?_; refine TC.kp [1, 2, 7] [b2_0] ?_; refine TC.regionS ?_; refine TS.s OpY.move rfl ?_; refine TS.s OpY.assign rfl ?_; refine TS.nil ?_; refine TE.kp [1, 2, 6, 7] [b2_0] ?_; refine TE.inBlock_normal ?_; exact TE.cutP num_5 () (Option.some.inj H9).symm (Env.cv (Env.cv (Env.cv (Env.cv (Env.le_nil _))))) (Less.pk rfl (Less.nil _))
          · replace H9 := cF H9 hc
            refine TC.skip ?_; refine TE.then ?_; refine TC.kp [1, 2, 7] [b2_0] ?_; refine TC.regionS ?_; refine TS.s OpY.move rfl ?_; refine TS.s OpY.assign rfl ?_; refine TS.nil ?_; refine TE.kp [1, 2, 6, 7] [b2_0] ?_; refine TE.inBlock_normal ?_; exact TE.cutP num_5 () (Option.some.inj H9).symm (Env.cv (Env.cv (Env.cv (Env.cv (Env.le_nil _))))) (Less.pk rfl (Less.nil _))
      rintro best_8 ⟨⟩ hp
      replace hp := hp.symm
      subst hp
      refine TE.then ?_; refine TC.kp [1, 2, 6, 7] [b2_0] ?_; refine TC.regionS ?_; refine TS.s OpY.move rfl ?_
      obtain ⟨x_14, ex_14, H6⟩ := bnd H6
      refine TS.s (OpD.add ex_14) rfl ?_; refine TS.s OpY.assign rfl ?_; refine TS.nil ?_; refine TE.kp [1, 2, 6, 7] [b2_0] ?_; exact TE.backP ⟨best_8, x_14⟩ () (Option.some.inj H6).symm (Env.cv (Env.cv (Env.cv (Env.cv (Env.le_nil _))))) (Less.pk rfl (Less.nil _))
    · replace H6 := cF H6 hc
      refine TC.exit ?_; refine TE.then_exit ?_; refine TE.then_exit ?_; refine TE.inBlock_here ?_; exact TE.cutP best_4 () (he6 _ (Option.some.inj H6).symm).symm (Env.cv (Env.le_nil _)) (Less.nil _)
  rintro best_2 ⟨⟩ hp
  replace hp := hp.symm
  subst hp
  refine TE.then ?_; refine TC.kp [6] [] ?_; refine TC.seq ?_; refine TC.seqS ?_; refine TS.s OpY.move rfl ?_; refine TS.s OpY.lss rfl ?_; refine TS.nil ?_; refine TE.then ?_; refine TC.kp [6, 51] [] ?_; refine TC.cond (fun hc => ?_) (fun hc => ?_)
  · replace H := cT H hc
    refine TC.seqS ?_; refine TS.s OpY.assign rfl ?_; refine TS.s OpY.assign rfl ?_; refine TS.nil ?_; refine TE.then ?_; refine TC.kp [4, 5] [] ?_; refine TC.ret ?_; refine TE.then_ret ?_
    obtain rfl := (Option.some.inj H)
    exact TE.retN rfl rfl (.cons Cv.le (.cons Cv.le .nil))
  · replace H := cF H hc
    refine TC.skip ?_; refine TE.then ?_; refine TC.kp [6] [] ?_; refine TC.seqS ?_; refine TS.s OpY.move rfl ?_
    obtain ⟨x_15, ex_15, H⟩ := bnd H
    refine TS.s (OpD.add ex_15) rfl ?_; refine TS.s OpY.assign rfl ?_; refine TS.s OpY.assign rfl ?_; refine TS.nil ?_; refine TE.then ?_; refine TC.kp [4, 5] [] ?_; refine TC.ret ?_
    obtain rfl := (Option.some.inj H)
    exact TE.retN rfl rfl (.cons Cv.le (.cons Cv.le .nil))
def bywayref21_Gens_l2 (c0 : Chip) (out_3 : (List UInt64)) (found_8 : Bool) (least_9 : UInt64) (num_10 : Int) : Option ((Bool × UInt64 × Int) ⊕ (Bool × UInt64)) :=
  (mulI (c0.Blocks.length : Int) c0.Pages).bind fun x_12 => bif (decide (num_10 < x_12)) then (((quoI num_10 c0.Pages).bind fun x_16 => (idx c0.Blocks x_16).bind fun x_17 => (remI num_10 c0.Pages).bind fun x_18 => (idx x_17.Pages x_18).bind fun x_19 => (bywayref10_Read x_19).bind fun r_20 => (gb ((decide (r_20.2 = (0 : Int))) && (!(decide ((out_3.length : Int) = (0 : Int))))) (subI (out_3.length : Int) (1 : Int))).bind fun x_22 => (gb ((decide (r_20.2 = (0 : Int))) && (!(decide ((out_3.length : Int) = (0 : Int))))) (idx out_3 x_22)).bind fun x_23 => bif (((decide (r_20.2 = (0 : Int))) && ((decide ((out_3.length : Int) = (0 : Int))) || (decide (x_23 < r_20.1.Gen)))) && ((!found_8) || (decide (r_20.1.Gen < least_9)))) then (some (true, r_20.1.Gen)) else (some (found_8, least_9))).bind fun o_15 => el2 o_15 (fun found_13 least_14 => (addI num_10 (1 : Int)).bind fun x_24 => some (.inl (found_13, least_14, x_24)))) else (some (.inr (found_8, least_9)))
def bywayref21_Gens_l1 (c0 : Chip) (out_3 : (List UInt64)) : Option ((List UInt64) ⊕ (List UInt64)) :=
  (loopO (fun s => bywayref21_Gens_l2 c0 out_3 s.1 s.2.1 s.2.2) (false, (UInt64.ofNat 0), (0 : Int))).bind fun o_7 => el2 o_7 (fun found_5 least_6 => bif (!found_5) then (some (.inr out_3)) else ((room 8 ((out_3.length + ([least_6] : List UInt64).length : Nat) : Int)).bind fun u_26 => (some ((out_3 ++ ([least_6] : List UInt64)) : (List UInt64))).bind fun l_27 => some (.inl l_27)))
def bywayref21_Gens (c0 : Chip) : Option (List UInt64) :=
  loopO (fun s => bywayref21_Gens_l1 c0 s) []
theorem bywayref21_Gens_c {A : Nat → Prop} {c0 : Chip}  {r : (List UInt64)} (w : World) (v0 : Value) (hA : ∀ k, w.heap.size ≤ k → A k)  (h0 : (D (c0 : Chip)).p A w v0) (H : bywayref21_Gens c0 = some r) :
    Calls Try.prog 56 #[v0] w (Ret A w (D (r : (List UInt64)))) := by
  unfold bywayref21_Gens at H
  refine enter1 hA Try.func56 rfl Try.ntmps56 rfl h0 ?_; refine TC.seqS ?_; refine TS.box rfl fun b1_0 => ?_; refine TS.s OpY.assign rfl ?_; refine TS.nil ?_; refine TE.then ?_; refine TC.kp [1] [b1_0] ?_; refine TC.seqS ?_; refine TS.s OpY.assign rfl ?_; refine TS.nil ?_; refine TE.then ?_; refine TC.kp [1, 3] [b1_0] ?_; refine TC.block ?_; refine TC.loopP H (fun (out_3 : (List UInt64)) (⟨b_1, p_1, c_1⟩ : Nat × Prop × Nat) => (Env.set (Env.set Env.nil 1 (Pt b1_0 0)) 3 (Sl b_1 p_1 0 out_3.length c_1))) (fun (out_3 : (List UInt64)) (⟨b_1, p_1, c_1⟩ : Nat × Prop × Nat) => [⟨b_1, p_1, (Row (out_3 : List UInt64) c_1)⟩, ⟨b1_0, True, (One (c0 : Chip))⟩]) ⟨0, False, 0⟩ (Env.cvBy NilS.sl0 (Env.cv (Env.le_nil _))) (Less.nilRow (Less.pk rfl (Less.nil _))) ?_
  rintro out_3 ⟨b_1, p_1, c_1⟩ x_4 H4 he4
  replace H4 : bywayref21_Gens_l1 c0 out_3 = some x_4 := H4
  unfold bywayref21_Gens_l1 at H4
  refine TC.block ?_; refine TC.seqS ?_; refine TS.s OpY.assign rfl ?_; refine TS.nil ?_; refine TE.then ?_; refine TC.kp [1, 3, 4] [b1_0, b_1] ?_; refine TC.seqS ?_; refine TS.s OpY.assign rfl ?_; refine TS.nil ?_; refine TE.then ?_; refine TC.kp [1, 3, 4, 5] [b1_0, b_1] ?_; refine TC.seq ?_; refine TC.seqS ?_; refine TS.s OpY.assign rfl ?_; refine TS.nil ?_; refine TE.then ?_; refine TC.kp [1, 3, 4, 5, 6] [b1_0, b_1] ?_
  obtain ⟨o_7, H7, H4⟩ := bnd H4
  refine TC.cutP (fun s : (Bool × UInt64) => o_7 = s) (fun ⟨found_5, least_6⟩ (_ : Unit) => (Env.set (Env.set (Env.set (Env.set Env.nil 1 (Pt b1_0 0)) 3 (Sl b_1 p_1 0 out_3.length c_1)) 4 (D (found_5 : Bool))) 5 (D (least_6 : UInt64)))) (fun ⟨found_5, least_6⟩ (_ : Unit) => [⟨b_1, p_1, (Row (out_3 : List UInt64) c_1)⟩, ⟨b1_0, True, (One (c0 : Chip))⟩]) ?_ ?_
  · skip
    refine TC.block ?_; refine TC.loopP H7 (fun ⟨found_8, least_9, num_10⟩ (_ : Unit) => (Env.set (Env.set (Env.set (Env.set (Env.set Env.nil 1 (Pt b1_0 0)) 3 (Sl b_1 p_1 0 out_3.length c_1)) 4 (D (found_8 : Bool))) 5 (D (least_9 : UInt64))) 6 (D (num_10 : Int)))) (fun ⟨found_8, least_9, num_10⟩ (_ : Unit) => [⟨b_1, p_1, (Row (out_3 : List UInt64) c_1)⟩, ⟨b1_0, True, (One (c0 : Chip))⟩]) () (Env.cv (Env.cv (Env.cv (Env.cvBy (Sl_le rfl) (Env.cv (Env.le_nil _)))))) (Less.pk rfl (Less.pk rfl (Less.nil _))) ?_
    rintro ⟨found_8, least_9, num_10⟩ ⟨⟩ x_11 H11 he11
    replace H11 : bywayref21_Gens_l2 c0 out_3 found_8 least_9 num_10 = some x_11 := H11
    unfold bywayref21_Gens_l2 at H11
    refine TC.seq ?_; refine TC.seqS ?_; refine TS.s OpY.move rfl ?_; refine TS.s OpY.fieldAddr rfl ?_; refine TS.s (OpD.ldq (Pl.fld (off := 2) (α := Chip) (β := (List Block)) Pl.one)) rfl ?_; refine TS.s OpD.len rfl ?_; refine TS.s OpY.fieldAddr rfl ?_; refine TS.s (OpD.ldq (Pl.fld (off := 0) (α := Chip) (β := Int) Pl.one)) rfl ?_
    obtain ⟨x_12, ex_12, H11⟩ := bnd H11
    refine TS.s (OpD.mul ex_12) rfl ?_; refine TS.s OpY.lss rfl ?_; refine TS.nil ?_; refine TE.then ?_; refine TC.kp [1, 3, 4, 5, 6, 16] [b1_0, b_1] ?_; refine TC.cond (fun hc => ?_) (fun hc => ?_)
    · replace H11 := cT H11 hc
      refine TC.skip ?_; refine TE.then ?_; refine TC.kp [1, 3, 4, 5, 6] [b1_0, b_1] ?_; refine TC.seq ?_
      obtain ⟨o_15, H15, H11⟩ := bnd H11
      refine TC.cutP (fun s : (Bool × UInt64) => o_15 = s) (fun ⟨found_13, least_14⟩ (_ : Unit) => (Env.set (Env.set (Env.set (Env.set (Env.set Env.nil 1 (Pt b1_0 0)) 3 (Sl b_1 p_1 0 out_3.length c_1)) 4 (D (found_13 : Bool))) 5 (D (least_14 : UInt64))) 6 (D (num_10 : Int)))) (fun ⟨found_13, least_14⟩ (_ : Unit) => [⟨b_1, p_1, (Row (out_3 : List UInt64) c_1)⟩, ⟨b1_0, True, (One (c0 : Chip))⟩]) ?_ ?_
      · skip
        refine TC.block ?_; refine TC.seqD [19, 20] [] mix (by kernel_rfl) (by kernel_rfl) ?_; refine TR.s OpY.fieldAddr rfl ?_; refine TR.s (OpD.ldq (Pl.fld (off := 2) (α := Chip) (β := (List Block)) Pl.one)) rfl ?_; refine TR.s OpY.move rfl ?_; refine TR.s OpY.fieldAddr rfl ?_; refine TR.s (OpD.ldq (Pl.fld (off := 0) (α := Chip) (β := Int) Pl.one)) rfl ?_
        obtain ⟨x_16, ex_16, H15⟩ := bnd H15
        refine TR.s (OpD.quo ex_16) rfl ?_
        obtain ⟨x_17, ex_17, H15⟩ := bnd H15
        refine TR.s (OpD.index ex_17) rfl ?_; refine TR.s OpY.fieldAddr rfl ?_; refine TR.s OpY.load rfl ?_; refine TR.s OpY.move rfl ?_; refine TR.s OpY.fieldAddr rfl ?_; refine TR.s (OpD.ldq (Pl.fld (off := 0) (α := Chip) (β := Int) Pl.one)) rfl ?_
        obtain ⟨x_18, ex_18, H15⟩ := bnd H15
        refine TR.s (OpD.rem ex_18) rfl ?_
        obtain ⟨x_19, ex_19, H15⟩ := bnd H15
        refine TR.s (OpD.index ex_19) rfl ?_; refine TR.s OpY.load rfl ?_
        obtain ⟨r_20, er_20, H15⟩ := bnd H15
        refine TR.s (OpY.call1 fun w v0 hA h0 => bywayref10_Read_c w v0 hA (toD h0) er_20) rfl ?_; refine TR.s OpY.move rfl ?_; refine TR.s (OpY.extract rfl) rfl ?_; refine TR.s (OpY.extract rfl) rfl ?_; refine TR.t (fun g => OpT.allocT (α := Roots)) rfl ?_; refine TR.tn (fun g => (OpT.storeq (y := (r_20.1 : Roots)) Pl.one)) rfl ?_; refine TR.s OpY.assign rfl ?_; refine TR.nil ?_
        rintro ⟨⟨_, ⟨b7_20, _⟩⟩, _⟩
        dsimp only [Fam.nextS, Fam.nextN, Fam.one, List.cons_append, List.nil_append]
        refine TC.kp [1, 3, 4, 5, 6, 7, 8] [b1_0, b_1, b7_20] ?_; refine TC.seqD0 mix (by kernel_rfl) ?_; refine TR.s OpY.move rfl ?_; refine TR.s OpY.eql rfl ?_; refine TR.s OpY.move rfl ?_; refine TR.g 40 rfl (fun hg => OpY.move) rfl ?_; refine TR.g 40 rfl (fun hg => (OpD.lenSv (n := out_3.length) rfl)) rfl ?_; refine TR.g 40 rfl (fun hg => OpY.eql) rfl ?_; refine TR.g 40 rfl (fun hg => OpY.move) rfl ?_; refine TR.gg 44 rfl (fun hp hg => OpY.fieldAddr) rfl ?_; refine TR.gg 44 rfl (fun hp hg => (OpD.ldq (Pl.fld (off := 0) (α := Roots) (β := UInt64) Pl.one))) rfl ?_; refine TR.gg 44 rfl (fun hp hg => OpY.move) rfl ?_; refine TR.gg 44 rfl (fun hp hg => OpY.move) rfl ?_; refine TR.gg 44 rfl (fun hp hg => (OpD.lenSv (n := out_3.length) rfl)) rfl ?_
        obtain ⟨x_22, ex_22, H15⟩ := bnd H15
        refine TR.gg 44 rfl (fun hp hg => (OpD.sub (gb_some ex_22 (aT hp.h (nF hg.h))))) rfl ?_
        obtain ⟨x_23, ex_23, H15⟩ := bnd H15
        refine TR.gg 44 rfl (fun hp hg => (OpD.indexq (idx_in (gb_some ex_23 (aT hp.h (nF hg.h))) rfl))) rfl ?_; refine TR.gg 44 rfl (fun hp hg => (OpD.ldq (Pl.rowz (gb_some ex_23 (aT hp.h (nF hg.h)))))) rfl ?_; refine TR.gg 44 rfl (fun hp hg => OpY.gtr64) rfl ?_; refine TR.g 40 rfl (fun hg => OpY.pickOr) rfl ?_; refine TR.s OpY.pickAnd rfl ?_; refine TR.s OpY.move rfl ?_; refine TR.g 56 rfl (fun hg => OpY.move) rfl ?_; refine TR.g 56 rfl (fun hg => OpY.notB) rfl ?_; refine TR.g 56 rfl (fun hg => OpY.move) rfl ?_; refine TR.gg 59 rfl (fun hp hg => OpY.fieldAddr) rfl ?_; refine TR.gg 59 rfl (fun hp hg => (OpD.ldq (Pl.fld (off := 0) (α := Roots) (β := UInt64) Pl.one))) rfl ?_; refine TR.gg 59 rfl (fun hp hg => OpY.move) rfl ?_; refine TR.gg 59 rfl (fun hp hg => OpY.lss64) rfl ?_; refine TR.g 56 rfl (fun hg => OpY.pickOr) rfl ?_; refine TR.s OpY.pickAnd rfl ?_; refine TR.nil ?_; refine TC.kp [1, 3, 4, 5, 6, 7, 65] [b1_0, b_1, b7_20] ?_; refine TC.cond (fun hc => ?_) (fun hc => ?_)
        · replace H15 := cT H15 hc
          refine TC.seqS ?_; refine TS.s OpY.assign rfl ?_; refine TS.nil ?_; refine TE.then ?_; refine TC.kp [1, 3, 4, 6, 7] [b1_0, b_1, b7_20] ?_; refine TC.regionS ?_; refine TS.s OpY.fieldAddr rfl ?_; refine TS.s (OpD.ldq (Pl.fld (off := 0) (α := Roots) (β := UInt64) Pl.one)) rfl ?_; refine TS.s OpY.assign rfl ?_; refine TS.nil ?_; refine TE.kp [1, 3, 4, 5, 6] [b1_0, b_1] ?_; refine TE.inBlock_normal ?_; exact TE.cutP ⟨true, r_20.1.Gen⟩ () (Option.some.inj H15).symm (Env.cv (Env.cv (Env.cv (Env.cvBy (Sl_le rfl) (Env.cv (Env.le_nil _)))))) (Less.pk rfl (Less.pk rfl (Less.nil _)))
        · replace H15 := cF H15 hc
          refine TC.skip ?_; refine TE.inBlock_normal ?_; exact TE.cutP ⟨found_8, least_9⟩ () (Option.some.inj H15).symm (Env.cv (Env.cv (Env.cv (Env.cvBy (Sl_le rfl) (Env.cv (Env.le_nil _)))))) (Less.pk rfl (Less.pk rfl (Less.nil _)))
      rintro ⟨found_13, least_14⟩ ⟨⟩ hp
      replace hp := hp.symm
      subst hp
      replace H11 := el2_mk H11
      refine TE.then ?_; refine TC.kp [1, 3, 4, 5, 6] [b1_0, b_1] ?_; refine TC.regionS ?_; refine TS.s OpY.move rfl ?_
      obtain ⟨x_24, ex_24, H11⟩ := bnd H11
      refine TS.s (OpD.add ex_24) rfl ?_; refine TS.s OpY.assign rfl ?_; refine TS.nil ?_; refine TE.kp [1, 3, 4, 5, 6] [b1_0, b_1] ?_; exact TE.backP ⟨found_13, least_14, x_24⟩ () (Option.some.inj H11).symm (Env.cv (Env.cv (Env.cv (Env.cvBy (Sl_le rfl) (Env.cv (Env.le_nil _)))))) (Less.pk rfl (Less.pk rfl (Less.nil _)))
    · replace H11 := cF H11 hc
      refine TC.exit ?_; refine TE.then_exit ?_; refine TE.then_exit ?_; refine TE.inBlock_here ?_; exact TE.cutP ⟨found_8, least_9⟩ () (he11 _ (Option.some.inj H11).symm).symm (Env.cv (Env.cv (Env.cvBy (Sl_le rfl) (Env.cv (Env.le_nil _))))) (Less.pk rfl (Less.pk rfl (Less.nil _)))
  rintro ⟨found_5, least_6⟩ ⟨⟩ hp
  replace hp := hp.symm
  subst hp
  replace H4 := el2_mk H4
  refine TE.then ?_; refine TC.kp [1, 3, 4, 5] [b1_0, b_1] ?_; refine TC.seq ?_; refine TC.seqS ?_; refine TS.s OpY.move rfl ?_; refine TS.s OpY.notB rfl ?_; refine TS.nil ?_; refine TE.then ?_; refine TC.kp [1, 3, 5, 69] [b1_0, b_1] ?_; refine TC.cond (fun hc => ?_) (fun hc => ?_)
  · replace H4 := cT H4 hc
    refine TC.seqS ?_; refine TS.s OpY.move rfl ?_; refine TS.s OpY.assign rfl ?_; refine TS.nil ?_; refine TE.then ?_; refine TC.kp [2] [b_1] ?_; refine TC.ret ?_; refine TE.then_ret ?_; refine TE.inBlock_ret ?_; refine TE.then_ret ?_; refine TE.inBlock_ret ?_; refine TE.pub b_1 (PubE.set 2 (PubC.sv PlS.all rfl) PubE.refl) ?_
    obtain rfl := (he4 _ (Option.some.inj H4).symm)
    exact TE.ret1 rfl Cv.le
  · replace H4 := cF H4 hc
    refine TC.skip ?_; refine TE.then ?_; refine TC.kp [1, 3, 5] [b1_0, b_1] ?_; refine TC.regionS ?_; refine TS.s OpY.move rfl ?_; refine TS.s OpY.move rfl ?_; refine TS.s (OpY.buildSlice [.tmp 72] rfl rfl (by decide)) rfl ?_
    obtain ⟨u_26, eu_26, H4⟩ := bnd H4
    refine TS.app (ys := ([least_6] : List UInt64)) inferInstance eu_26 rfl rfl rfl fun b74_24 p74_24 c74_24 => ?_; refine TS.s OpY.assign rfl ?_; refine TS.nil ?_; refine TE.kp [1, 3] [b1_0, b74_24] ?_
    obtain ⟨l_27, el_27, H4⟩ := bnd H4
    refine TE.nmB b74_24 (nm_row el_27) ?_; refine TE.see 3 _ (nm_sl2 el_27 rfl) ?_; refine TE.inBlock_normal ?_; exact TE.backP l_27 ⟨b74_24, p74_24, c74_24⟩ (Option.some.inj H4).symm (Env.cvBy (Sl_le rfl) (Env.cv (Env.le_nil _))) (Less.pk rfl (Less.pk rfl (Less.nil _)))
def bywayref21_Count_l2 (c0 : Chip) (n_6 : Int) (k_11 : Int) (t_12 : Tally) : Option ((Int × Tally) ⊕ Tally) :=
  bif (decide (k_11 < c0.Pages)) then (((idx c0.Blocks n_6).bind fun x_16 => (idx x_16.Pages k_11).bind fun x_17 => (bywayref21_Kind x_17).bind fun x_18 => bif (decide (x_18 = (0 : Int))) then ((idx c0.Blocks n_6).bind fun x_19 => bif (decide (k_11 < x_19.Used)) then ((addI t_12.Lost (1 : Int)).bind fun x_20 => (some ((⟨t_12.Blank, t_12.Data, t_12.Roots, t_12.Torn, x_20⟩ : Tally) : Tally)).bind fun t_21 => some t_21) else ((addI t_12.Blank (1 : Int)).bind fun x_22 => (some ((⟨x_22, t_12.Data, t_12.Roots, t_12.Torn, t_12.Lost⟩ : Tally) : Tally)).bind fun t_23 => some t_23)) else (bif (decide (x_18 = (1 : Int))) then ((addI t_12.Data (1 : Int)).bind fun x_24 => (some ((⟨t_12.Blank, x_24, t_12.Roots, t_12.Torn, t_12.Lost⟩ : Tally) : Tally)).bind fun t_25 => some t_25) else (bif (decide (x_18 = (2 : Int))) then ((addI t_12.Roots (1 : Int)).bind fun x_26 => (some ((⟨t_12.Blank, t_12.Data, x_26, t_12.Torn, t_12.Lost⟩ : Tally) : Tally)).bind fun t_27 => some t_27) else ((addI t_12.Torn (1 : Int)).bind fun x_28 => (some ((⟨t_12.Blank, t_12.Data, t_12.Roots, x_28, t_12.Lost⟩ : Tally) : Tally)).bind fun t_29 => some t_29)))).bind fun t_14 => (addI k_11 (1 : Int)).bind fun x_30 => some (.inl (x_30, t_14))) else (some (.inr t_12))
def bywayref21_Count_l1 (c0 : Chip) (n_6 : Int) (t_7 : Tally) : Option ((Int × Tally) ⊕ Tally) :=
  bif (decide (n_6 < (c0.Blocks.length : Int))) then ((loopO (fun s => bywayref21_Count_l2 c0 n_6 s.1 s.2) ((0 : Int), t_7)).bind fun t_9 => (addI n_6 (1 : Int)).bind fun x_31 => some (.inl (x_31, t_9))) else (some (.inr t_7))
def bywayref21_Count (c0 : Chip) : Option Tally :=
  (loopO (fun s => bywayref21_Count_l1 c0 s.1 s.2) ((0 : Int), Dat.z)).bind fun t_4 => some t_4
theorem bywayref21_Count_c {A : Nat → Prop} {c0 : Chip}  {r : Tally} (w : World) (v0 : Value) (hA : ∀ k, w.heap.size ≤ k → A k)  (h0 : (D (c0 : Chip)).p A w v0) (H : bywayref21_Count c0 = some r) :
    Calls Try.prog 57 #[v0] w (Ret A w (D (r : Tally))) := by
  unfold bywayref21_Count at H
  refine enter1 hA Try.func57 rfl Try.ntmps57 rfl h0 ?_; refine TC.seqS ?_; refine TS.box rfl fun b1_0 => ?_; refine TS.alloc (α := Tally) rfl fun b2_1 => ?_; refine TS.nil ?_; refine TE.then ?_; refine TC.kp [1, 2] [b1_0, b2_1] ?_; refine TC.seqS ?_; refine TS.alloc (α := Tally) rfl fun b3_2 => ?_; refine TS.nil ?_; refine TE.then ?_; refine TC.kp [1, 2, 3] [b1_0, b2_1, b3_2] ?_; refine TC.seq ?_; refine TC.seqS ?_; refine TS.s OpY.assign rfl ?_; refine TS.nil ?_; refine TE.then ?_; refine TC.kp [1, 2, 3, 4] [b1_0, b2_1, b3_2] ?_
  obtain ⟨o_5, H5, H⟩ := bnd H
  refine TC.cutP (fun s : Tally => o_5 = s) (fun (t_4 : Tally) (_ : Unit) => (Env.set (Env.set Env.nil 2 (Pt b2_1 0)) 3 (Pt b3_2 0))) (fun (t_4 : Tally) (_ : Unit) => [⟨b2_1, True, (One (Dat.z : Tally))⟩, ⟨b3_2, True, (One (t_4 : Tally))⟩]) ?_ ?_
  · skip
    refine TC.block ?_; refine TC.loopP H5 (fun ⟨n_6, t_7⟩ (_ : Unit) => (Env.set (Env.set (Env.set (Env.set Env.nil 1 (Pt b1_0 0)) 2 (Pt b2_1 0)) 3 (Pt b3_2 0)) 4 (D (n_6 : Int)))) (fun ⟨n_6, t_7⟩ (_ : Unit) => [⟨b1_0, True, (One (c0 : Chip))⟩, ⟨b2_1, True, (One (Dat.z : Tally))⟩, ⟨b3_2, True, (One (t_7 : Tally))⟩]) () (Env.cv (Env.cv (Env.cv (Env.cv (Env.le_nil _))))) (Less.pk rfl (Less.pk rfl (Less.pk rfl (Less.nil _)))) ?_
    rintro ⟨n_6, t_7⟩ ⟨⟩ x_8 H8 he8
    replace H8 : bywayref21_Count_l1 c0 n_6 t_7 = some x_8 := H8
    unfold bywayref21_Count_l1 at H8
    refine TC.seq ?_; refine TC.seqS ?_; refine TS.s OpY.move rfl ?_; refine TS.s OpY.fieldAddr rfl ?_; refine TS.s (OpD.ldq (Pl.fld (off := 2) (α := Chip) (β := (List Block)) Pl.one)) rfl ?_; refine TS.s OpD.len rfl ?_; refine TS.s OpY.lss rfl ?_; refine TS.nil ?_; refine TE.then ?_; refine TC.kp [1, 2, 3, 4, 10] [b1_0, b2_1, b3_2] ?_; refine TC.cond (fun hc => ?_) (fun hc => ?_)
    · replace H8 := cT H8 hc
      refine TC.skip ?_; refine TE.then ?_; refine TC.kp [1, 2, 3, 4] [b1_0, b2_1, b3_2] ?_; refine TC.seq ?_; refine TC.block ?_; refine TC.seqS ?_; refine TS.s OpY.assign rfl ?_; refine TS.nil ?_; refine TE.then ?_; refine TC.kp [1, 2, 3, 4, 5] [b1_0, b2_1, b3_2] ?_
      obtain ⟨o_10, H10, H8⟩ := bnd H8
      refine TC.cutP (fun s : Tally => o_10 = s) (fun (t_9 : Tally) (_ : Unit) => (Env.set (Env.set (Env.set (Env.set Env.nil 1 (Pt b1_0 0)) 2 (Pt b2_1 0)) 3 (Pt b3_2 0)) 4 (D (n_6 : Int)))) (fun (t_9 : Tally) (_ : Unit) => [⟨b1_0, True, (One (c0 : Chip))⟩, ⟨b2_1, True, (One (Dat.z : Tally))⟩, ⟨b3_2, True, (One (t_9 : Tally))⟩]) ?_ ?_
      · skip
        refine TC.block ?_; refine TC.loopP H10 (fun ⟨k_11, t_12⟩ (_ : Unit) => (Env.set (Env.set (Env.set (Env.set (Env.set Env.nil 1 (Pt b1_0 0)) 2 (Pt b2_1 0)) 3 (Pt b3_2 0)) 4 (D (n_6 : Int))) 5 (D (k_11 : Int)))) (fun ⟨k_11, t_12⟩ (_ : Unit) => [⟨b1_0, True, (One (c0 : Chip))⟩, ⟨b2_1, True, (One (Dat.z : Tally))⟩, ⟨b3_2, True, (One (t_12 : Tally))⟩]) () (Env.cv (Env.cv (Env.cv (Env.cv (Env.cv (Env.le_nil _)))))) (Less.pk rfl (Less.pk rfl (Less.pk rfl (Less.nil _)))) ?_
        rintro ⟨k_11, t_12⟩ ⟨⟩ x_13 H13 he13
        replace H13 : bywayref21_Count_l2 c0 n_6 k_11 t_12 = some x_13 := H13
        unfold bywayref21_Count_l2 at H13
        refine TC.seq ?_; refine TC.seqS ?_; refine TS.s OpY.move rfl ?_; refine TS.s OpY.fieldAddr rfl ?_; refine TS.s (OpD.ldq (Pl.fld (off := 0) (α := Chip) (β := Int) Pl.one)) rfl ?_; refine TS.s OpY.lss rfl ?_; refine TS.nil ?_; refine TE.then ?_; refine TC.kp [1, 2, 3, 4, 5, 16] [b1_0, b2_1, b3_2] ?_; refine TC.cond (fun hc => ?_) (fun hc => ?_)
        · replace H13 := cT H13 hc
          refine TC.skip ?_; refine TE.then ?_; refine TC.kp [1, 2, 3, 4, 5] [b1_0, b2_1, b3_2] ?_; refine TC.seq ?_
          obtain ⟨o_15, H15, H13⟩ := bnd H13
          refine TC.cutP (fun s : Tally => o_15 = s) (fun (t_14 : Tally) (_ : Unit) => (Env.set (Env.set (Env.set (Env.set (Env.set Env.nil 1 (Pt b1_0 0)) 2 (Pt b2_1 0)) 3 (Pt b3_2 0)) 4 (D (n_6 : Int))) 5 (D (k_11 : Int)))) (fun (t_14 : Tally) (_ : Unit) => [⟨b1_0, True, (One (c0 : Chip))⟩, ⟨b2_1, True, (One (Dat.z : Tally))⟩, ⟨b3_2, True, (One (t_14 : Tally))⟩]) ?_ ?_
          · skip
            refine TC.block ?_; refine TC.seqS ?_; refine TS.s OpY.fieldAddr rfl ?_; refine TS.s (OpD.ldq (Pl.fld (off := 2) (α := Chip) (β := (List Block)) Pl.one)) rfl ?_; refine TS.s OpY.move rfl ?_
            obtain ⟨x_16, ex_16, H15⟩ := bnd H15
            refine TS.s (OpD.index ex_16) rfl ?_; refine TS.s OpY.fieldAddr rfl ?_; refine TS.s OpY.load rfl ?_; refine TS.s OpY.move rfl ?_
            obtain ⟨x_17, ex_17, H15⟩ := bnd H15
            refine TS.s (OpD.index ex_17) rfl ?_; refine TS.s OpY.load rfl ?_
            obtain ⟨x_18, ex_18, H15⟩ := bnd H15
            refine TS.s (OpY.call1 fun w v0 hA h0 => bywayref21_Kind_c w v0 hA (toD h0) ex_18) rfl ?_; refine TS.nil ?_; refine TE.then ?_; refine TC.kp [1, 2, 3, 4, 5, 28] [b1_0, b2_1, b3_2] ?_; refine TC.block ?_; refine TC.seqS ?_; refine TS.s OpY.eql rfl ?_; refine TS.s OpY.assign rfl ?_; refine TS.nil ?_; refine TE.then ?_; refine TC.kp [1, 2, 3, 4, 5, 28, 33] [b1_0, b2_1, b3_2] ?_; refine TC.cond (fun hc => ?_) (fun hc => ?_)
            · replace H15 := cT H15 hc
              refine TC.seqS ?_; refine TS.s OpY.move rfl ?_; refine TS.s OpY.fieldAddr rfl ?_; refine TS.s (OpD.ldq (Pl.fld (off := 2) (α := Chip) (β := (List Block)) Pl.one)) rfl ?_; refine TS.s OpY.move rfl ?_
              obtain ⟨x_19, ex_19, H15⟩ := bnd H15
              refine TS.s (OpD.index ex_19) rfl ?_; refine TS.s OpY.fieldAddr rfl ?_; refine TS.s OpY.load rfl ?_; refine TS.s OpY.lss rfl ?_; refine TS.nil ?_; refine TE.then ?_; refine TC.kp [1, 2, 3, 4, 5, 42] [b1_0, b2_1, b3_2] ?_; refine TC.cond (fun hc => ?_) (fun hc => ?_)
              · replace H15 := cT H15 hc
                refine TC.regionS ?_; refine TS.s OpY.fieldAddr rfl ?_; refine TS.s (OpD.ldq (Pl.fld (off := 4) (α := Tally) (β := Int) Pl.one)) rfl ?_
                obtain ⟨x_20, ex_20, H15⟩ := bnd H15
                refine TS.s (OpD.add ex_20) rfl ?_; refine TS.s OpY.fieldAddr rfl ?_; refine TS.un (OpT.storeq (y := (x_20 : Int)) (Pl.fld (off := 4) (α := Tally) (β := Int) Pl.one)) ?_; refine TS.nil ?_; refine TE.kp [1, 2, 3, 4, 5] [b1_0, b2_1, b3_2] ?_
                obtain ⟨t_21, et_21, H15⟩ := bnd H15
                refine TE.nmB b3_2 (nm_one et_21) ?_; refine TE.inBlock_normal ?_; refine TE.inBlock_normal ?_; exact TE.cutP t_21 () (Option.some.inj H15).symm (Env.cv (Env.cv (Env.cv (Env.cv (Env.cv (Env.le_nil _)))))) (Less.pk rfl (Less.pk rfl (Less.pk rfl (Less.nil _))))
              · replace H15 := cF H15 hc
                refine TC.regionS ?_; refine TS.s OpY.fieldAddr rfl ?_; refine TS.s (OpD.ldq (Pl.fld (off := 0) (α := Tally) (β := Int) Pl.one)) rfl ?_
                obtain ⟨x_22, ex_22, H15⟩ := bnd H15
                refine TS.s (OpD.add ex_22) rfl ?_; refine TS.s OpY.fieldAddr rfl ?_; refine TS.un (OpT.storeq (y := (x_22 : Int)) (Pl.fld (off := 0) (α := Tally) (β := Int) Pl.one)) ?_; refine TS.nil ?_; refine TE.kp [1, 2, 3, 4, 5] [b1_0, b2_1, b3_2] ?_
                obtain ⟨t_23, et_23, H15⟩ := bnd H15
                refine TE.nmB b3_2 (nm_one et_23) ?_; refine TE.inBlock_normal ?_; refine TE.inBlock_normal ?_; exact TE.cutP t_23 () (Option.some.inj H15).symm (Env.cv (Env.cv (Env.cv (Env.cv (Env.cv (Env.le_nil _)))))) (Less.pk rfl (Less.pk rfl (Less.pk rfl (Less.nil _))))
            · replace H15 := cF H15 hc
              refine TC.seqS ?_; refine TS.s OpY.eql rfl ?_; refine TS.s OpY.assign rfl ?_; refine TS.nil ?_; refine TE.then ?_; refine TC.kp [1, 2, 3, 4, 5, 28, 51] [b1_0, b2_1, b3_2] ?_; refine TC.cond (fun hc => ?_) (fun hc => ?_)
              · replace H15 := cT H15 hc
                refine TC.regionS ?_; refine TS.s OpY.fieldAddr rfl ?_; refine TS.s (OpD.ldq (Pl.fld (off := 1) (α := Tally) (β := Int) Pl.one)) rfl ?_
                obtain ⟨x_24, ex_24, H15⟩ := bnd H15
                refine TS.s (OpD.add ex_24) rfl ?_; refine TS.s OpY.fieldAddr rfl ?_; refine TS.un (OpT.storeq (y := (x_24 : Int)) (Pl.fld (off := 1) (α := Tally) (β := Int) Pl.one)) ?_; refine TS.nil ?_; refine TE.kp [1, 2, 3, 4, 5] [b1_0, b2_1, b3_2] ?_
                obtain ⟨t_25, et_25, H15⟩ := bnd H15
                refine TE.nmB b3_2 (nm_one et_25) ?_; refine TE.inBlock_normal ?_; refine TE.inBlock_normal ?_; exact TE.cutP t_25 () (Option.some.inj H15).symm (Env.cv (Env.cv (Env.cv (Env.cv (Env.cv (Env.le_nil _)))))) (Less.pk rfl (Less.pk rfl (Less.pk rfl (Less.nil _))))
              · replace H15 := cF H15 hc
                refine TC.seqS ?_; refine TS.s OpY.eql rfl ?_; refine TS.s OpY.assign rfl ?_; refine TS.nil ?_; refine TE.then ?_; refine TC.kp [1, 2, 3, 4, 5, 57] [b1_0, b2_1, b3_2] ?_; refine TC.cond (fun hc => ?_) (fun hc => ?_)
                · replace H15 := cT H15 hc
                  refine TC.regionS ?_; refine TS.s OpY.fieldAddr rfl ?_; refine TS.s (OpD.ldq (Pl.fld (off := 2) (α := Tally) (β := Int) Pl.one)) rfl ?_
                  obtain ⟨x_26, ex_26, H15⟩ := bnd H15
                  refine TS.s (OpD.add ex_26) rfl ?_; refine TS.s OpY.fieldAddr rfl ?_; refine TS.un (OpT.storeq (y := (x_26 : Int)) (Pl.fld (off := 2) (α := Tally) (β := Int) Pl.one)) ?_; refine TS.nil ?_; refine TE.kp [1, 2, 3, 4, 5] [b1_0, b2_1, b3_2] ?_
                  obtain ⟨t_27, et_27, H15⟩ := bnd H15
                  refine TE.nmB b3_2 (nm_one et_27) ?_; refine TE.inBlock_normal ?_; refine TE.inBlock_normal ?_; exact TE.cutP t_27 () (Option.some.inj H15).symm (Env.cv (Env.cv (Env.cv (Env.cv (Env.cv (Env.le_nil _)))))) (Less.pk rfl (Less.pk rfl (Less.pk rfl (Less.nil _))))
                · replace H15 := cF H15 hc
                  refine TC.regionS ?_; refine TS.s OpY.fieldAddr rfl ?_; refine TS.s (OpD.ldq (Pl.fld (off := 3) (α := Tally) (β := Int) Pl.one)) rfl ?_
                  obtain ⟨x_28, ex_28, H15⟩ := bnd H15
                  refine TS.s (OpD.add ex_28) rfl ?_; refine TS.s OpY.fieldAddr rfl ?_; refine TS.un (OpT.storeq (y := (x_28 : Int)) (Pl.fld (off := 3) (α := Tally) (β := Int) Pl.one)) ?_; refine TS.nil ?_; refine TE.kp [1, 2, 3, 4, 5] [b1_0, b2_1, b3_2] ?_
                  obtain ⟨t_29, et_29, H15⟩ := bnd H15
                  refine TE.nmB b3_2 (nm_one et_29) ?_; refine TE.inBlock_normal ?_; refine TE.inBlock_normal ?_; exact TE.cutP t_29 () (Option.some.inj H15).symm (Env.cv (Env.cv (Env.cv (Env.cv (Env.cv (Env.le_nil _)))))) (Less.pk rfl (Less.pk rfl (Less.pk rfl (Less.nil _))))
          rintro t_14 ⟨⟩ hp
          replace hp := hp.symm
          subst hp
          refine TE.then ?_; refine TC.kp [1, 2, 3, 4, 5] [b1_0, b2_1, b3_2] ?_; refine TC.regionS ?_; refine TS.s OpY.move rfl ?_
          obtain ⟨x_30, ex_30, H13⟩ := bnd H13
          refine TS.s (OpD.add ex_30) rfl ?_; refine TS.s OpY.assign rfl ?_; refine TS.nil ?_; refine TE.kp [1, 2, 3, 4, 5] [b1_0, b2_1, b3_2] ?_; exact TE.backP ⟨x_30, t_14⟩ () (Option.some.inj H13).symm (Env.cv (Env.cv (Env.cv (Env.cv (Env.cv (Env.le_nil _)))))) (Less.pk rfl (Less.pk rfl (Less.pk rfl (Less.nil _))))
        · replace H13 := cF H13 hc
          refine TC.exit ?_; refine TE.then_exit ?_; refine TE.then_exit ?_; refine TE.inBlock_here ?_; exact TE.cutP t_12 () (he13 _ (Option.some.inj H13).symm).symm (Env.cv (Env.cv (Env.cv (Env.cv (Env.le_nil _))))) (Less.pk rfl (Less.pk rfl (Less.pk rfl (Less.nil _))))
      rintro t_9 ⟨⟩ hp
      replace hp := hp.symm
      subst hp
      refine TE.inBlock_normal ?_; refine TE.then ?_; refine TC.kp [1, 2, 3, 4] [b1_0, b2_1, b3_2] ?_; refine TC.regionS ?_; refine TS.s OpY.move rfl ?_
      obtain ⟨x_31, ex_31, H8⟩ := bnd H8
      refine TS.s (OpD.add ex_31) rfl ?_; refine TS.s OpY.assign rfl ?_; refine TS.nil ?_; refine TE.kp [1, 2, 3, 4] [b1_0, b2_1, b3_2] ?_; exact TE.backP ⟨x_31, t_9⟩ () (Option.some.inj H8).symm (Env.cv (Env.cv (Env.cv (Env.cv (Env.le_nil _))))) (Less.pk rfl (Less.pk rfl (Less.pk rfl (Less.nil _))))
    · replace H8 := cF H8 hc
      refine TC.exit ?_; refine TE.then_exit ?_; refine TE.then_exit ?_; refine TE.inBlock_here ?_; exact TE.cutP t_7 () (he8 _ (Option.some.inj H8).symm).symm (Env.cv (Env.cv (Env.le_nil _))) (Less.pk rfl (Less.pk rfl (Less.nil _)))
  rintro t_4 ⟨⟩ hp
  replace hp := hp.symm
  subst hp
  refine TE.then ?_; refine TC.kp [2, 3] [b2_1, b3_2] ?_; refine TC.seqS ?_; refine TS.s (OpD.ldq Pl.one) rfl ?_; refine TS.un (OpT.storeq (y := (t_4 : Tally)) Pl.one) ?_; refine TS.nil ?_; refine TE.then ?_; refine TC.kp [2] [b2_1] ?_; refine TC.ret ?_
  obtain rfl := (Option.some.inj H)
  exact TE.ret1 rfl Cv.le
def bywayref21_Stale_l1 (c0 : Chip) (at0 : (List Int)) (num_5 : Int) (out_7 : (List Int)) : Option ((Int × (List Int)) ⊕ (List Int)) :=
  (mulI (c0.Blocks.length : Int) c0.Pages).bind fun x_9 => bif (decide (num_5 < x_9)) then (((bywayref21_Page c0 num_5).bind fun r_13 => (gb r_13.2 (addI num_5 (1 : Int))).bind fun x_15 => (gb r_13.2 (bywayref08_Has at0 x_15)).bind fun x_16 => bif (r_13.2 && (!x_16)) then ((addI num_5 (1 : Int)).bind fun x_17 => (room 8 ((out_7.length + ([x_17] : List Int).length : Nat) : Int)).bind fun u_19 => (some ((out_7 ++ ([x_17] : List Int)) : (List Int))).bind fun l_20 => some l_20) else (some out_7)).bind fun out_11 => (addI num_5 (1 : Int)).bind fun x_21 => some (.inl (x_21, out_11))) else (some (.inr out_7))
def bywayref21_Stale (c0 : Chip) (at0 : (List Int)) : Option (List Int) :=
  (loopO (fun s => bywayref21_Stale_l1 c0 at0 s.1 s.2) ((0 : Int), [])).bind fun out_3 => some out_3
theorem bywayref21_Stale_c {A : Nat → Prop} {c0 : Chip} {at0 : (List Int)}  {r : (List Int)} (w : World) (v0 v1 : Value) (hA : ∀ k, w.heap.size ≤ k → A k)  (h0 : (D (c0 : Chip)).p A w v0) (h1 : (D (at0 : (List Int))).p A w v1) (H : bywayref21_Stale c0 at0 = some r) :
    Calls Try.prog 59 #[v0, v1] w (Ret A w (D (r : (List Int)))) := by
  unfold bywayref21_Stale at H
  refine enter2 hA Try.func59 rfl Try.ntmps59 rfl h0 h1 ?_; refine TC.seqS ?_; refine TS.box rfl fun b2_0 => ?_; refine TS.s OpY.assign rfl ?_; refine TS.nil ?_; refine TE.then ?_; refine TC.kp [1, 2] [b2_0] ?_; refine TC.seqS ?_; refine TS.s OpY.assign rfl ?_; refine TS.nil ?_; refine TE.then ?_; refine TC.kp [1, 2, 5] [b2_0] ?_; refine TC.seq ?_; refine TC.seqS ?_; refine TS.s OpY.assign rfl ?_; refine TS.nil ?_; refine TE.then ?_; refine TC.kp [1, 2, 5, 6] [b2_0] ?_
  obtain ⟨o_4, H4, H⟩ := bnd H
  refine TC.cutP (fun s : (List Int) => o_4 = s) (fun (out_3 : (List Int)) (⟨b_1, p_1, c_1⟩ : Nat × Prop × Nat) => (Env.set Env.nil 5 (Sl b_1 p_1 0 out_3.length c_1))) (fun (out_3 : (List Int)) (⟨b_1, p_1, c_1⟩ : Nat × Prop × Nat) => [⟨b_1, p_1, (Row (out_3 : List Int) c_1)⟩]) ?_ ?_
  · skip
    refine TC.block ?_; refine TC.loopP H4 (fun ⟨num_5, out_7⟩ (⟨b_5, p_5, c_5⟩ : Nat × Prop × Nat) => (Env.set (Env.set (Env.set (Env.set Env.nil 1 (D (at0 : (List Int)))) 2 (Pt b2_0 0)) 5 (Sl b_5 p_5 0 out_7.length c_5)) 6 (D (num_5 : Int)))) (fun ⟨num_5, out_7⟩ (⟨b_5, p_5, c_5⟩ : Nat × Prop × Nat) => [⟨b_5, p_5, (Row (out_7 : List Int) c_5)⟩, ⟨b2_0, True, (One (c0 : Chip))⟩]) ⟨0, False, 0⟩ (Env.cv (Env.cvBy NilS.sl0 (Env.cv (Env.cv (Env.le_nil _))))) (Less.nilRow (Less.pk rfl (Less.nil _))) ?_
    rintro ⟨num_5, out_7⟩ ⟨b_5, p_5, c_5⟩ x_8 H8 he8
    replace H8 : bywayref21_Stale_l1 c0 at0 num_5 out_7 = some x_8 := H8
    unfold bywayref21_Stale_l1 at H8
    refine TC.seq ?_; refine TC.seqS ?_; refine TS.s OpY.move rfl ?_; refine TS.s OpY.fieldAddr rfl ?_; refine TS.s (OpD.ldq (Pl.fld (off := 2) (α := Chip) (β := (List Block)) Pl.one)) rfl ?_; refine TS.s OpD.len rfl ?_; refine TS.s OpY.fieldAddr rfl ?_; refine TS.s (OpD.ldq (Pl.fld (off := 0) (α := Chip) (β := Int) Pl.one)) rfl ?_
    obtain ⟨x_9, ex_9, H8⟩ := bnd H8
    refine TS.s (OpD.mul ex_9) rfl ?_; refine TS.s OpY.lss rfl ?_; refine TS.nil ?_; refine TE.then ?_; refine TC.kp [1, 2, 5, 6, 16] [b2_0, b_5] ?_; refine TC.cond (fun hc => ?_) (fun hc => ?_)
    · replace H8 := cT H8 hc
      refine TC.skip ?_; refine TE.then ?_; refine TC.kp [1, 2, 5, 6] [b2_0, b_5] ?_; refine TC.seq ?_
      obtain ⟨o_12, H12, H8⟩ := bnd H8
      refine TC.cutP (fun s : (List Int) => o_12 = s) (fun (out_11 : (List Int)) (⟨b_9, p_9, c_9⟩ : Nat × Prop × Nat) => (Env.set (Env.set (Env.set (Env.set Env.nil 1 (D (at0 : (List Int)))) 2 (Pt b2_0 0)) 5 (Sl b_9 p_9 0 out_11.length c_9)) 6 (D (num_5 : Int)))) (fun (out_11 : (List Int)) (⟨b_9, p_9, c_9⟩ : Nat × Prop × Nat) => [⟨b_9, p_9, (Row (out_11 : List Int) c_9)⟩, ⟨b2_0, True, (One (c0 : Chip))⟩]) ?_ ?_
      · skip
        refine TC.block ?_; refine TC.seqS ?_; refine TS.s (OpD.ldq Pl.one) rfl ?_; refine TS.s OpY.move rfl ?_
        obtain ⟨r_13, er_13, H12⟩ := bnd H12
        refine TS.s (OpY.call2 fun w v0 v1 hA h0 h1 => bywayref21_Page_c w v0 v1 hA (toD h0) (toD h1) er_13) rfl ?_; refine TS.s OpY.move rfl ?_; refine TS.s (OpY.extract rfl) rfl ?_; refine TS.s (OpY.extract rfl) rfl ?_; refine TS.alloc (α := Page) rfl fun b7_13 => ?_; refine TS.un (OpT.storeq (y := (r_13.1 : Page)) Pl.one) ?_; refine TS.s OpY.assign rfl ?_; refine TS.nil ?_; refine TE.then ?_; refine TC.kp [1, 2, 5, 6, 8] [b2_0, b_5] ?_; refine TC.seqS ?_; refine TS.s OpY.move rfl ?_; refine TS.s OpY.move rfl ?_; refine TS.g 26 rfl (fun hg => OpY.move) rfl ?_; refine TS.g 26 rfl (fun hg => OpY.move) rfl ?_
        obtain ⟨x_15, ex_15, H12⟩ := bnd H12
        refine TS.g 26 rfl (fun hg => (OpD.add (gb_some ex_15 hg.h))) rfl ?_
        obtain ⟨x_16, ex_16, H12⟩ := bnd H12
        refine TS.g 26 rfl (fun hg => (OpY.call2 fun w v0 v1 hA h0 h1 => bywayref08_Has_c w v0 v1 hA (toD h0) (toD h1) (gb_some ex_16 hg.h))) rfl ?_; refine TS.g 26 rfl (fun hg => OpY.notB) rfl ?_; refine TS.s OpY.pickAnd rfl ?_; refine TS.nil ?_; refine TE.then ?_; refine TC.kp [1, 2, 5, 6, 32] [b2_0, b_5] ?_; refine TC.cond (fun hc => ?_) (fun hc => ?_)
        · replace H12 := cT H12 hc
          refine TC.regionS ?_; refine TS.s OpY.move rfl ?_; refine TS.s OpY.move rfl ?_
          obtain ⟨x_17, ex_17, H12⟩ := bnd H12
          refine TS.s (OpD.add ex_17) rfl ?_; refine TS.s (OpY.buildSlice [.tmp 35] rfl rfl (by decide)) rfl ?_
          obtain ⟨u_19, eu_19, H12⟩ := bnd H12
          refine TS.app (ys := ([x_17] : List Int)) inferInstance eu_19 rfl rfl rfl fun b37_17 p37_17 c37_17 => ?_; refine TS.s OpY.assign rfl ?_; refine TS.nil ?_; refine TE.kp [1, 2, 5, 6] [b2_0, b37_17] ?_
          obtain ⟨l_20, el_20, H12⟩ := bnd H12
          refine TE.nmB b37_17 (nm_row el_20) ?_; refine TE.see 5 _ (nm_sl2 el_20 rfl) ?_; refine TE.inBlock_normal ?_; exact TE.cutP l_20 ⟨b37_17, p37_17, c37_17⟩ (Option.some.inj H12).symm (Env.cv (Env.cvBy (Sl_le rfl) (Env.cv (Env.cv (Env.le_nil _))))) (Less.pk rfl (Less.pk rfl (Less.nil _)))
        · replace H12 := cF H12 hc
          refine TC.skip ?_; refine TE.inBlock_normal ?_; exact TE.cutP out_7 ⟨b_5, p_5, c_5⟩ (Option.some.inj H12).symm (Env.cv (Env.cvBy (Sl_le rfl) (Env.cv (Env.cv (Env.le_nil _))))) (Less.pk rfl (Less.pk rfl (Less.nil _)))
      rintro out_11 ⟨b_9, p_9, c_9⟩ hp
      replace hp := hp.symm
      subst hp
      refine TE.then ?_; refine TC.kp [1, 2, 5, 6] [b2_0, b_9] ?_; refine TC.regionS ?_; refine TS.s OpY.move rfl ?_
      obtain ⟨x_21, ex_21, H8⟩ := bnd H8
      refine TS.s (OpD.add ex_21) rfl ?_; refine TS.s OpY.assign rfl ?_; refine TS.nil ?_; refine TE.kp [1, 2, 5, 6] [b2_0, b_9] ?_; exact TE.backP ⟨x_21, out_11⟩ ⟨b_9, p_9, c_9⟩ (Option.some.inj H8).symm (Env.cv (Env.cvBy (Sl_le rfl) (Env.cv (Env.cv (Env.le_nil _))))) (Less.pk rfl (Less.pk rfl (Less.nil _)))
    · replace H8 := cF H8 hc
      refine TC.exit ?_; refine TE.then_exit ?_; refine TE.then_exit ?_; refine TE.inBlock_here ?_; exact TE.cutP out_7 ⟨b_5, p_5, c_5⟩ (he8 _ (Option.some.inj H8).symm).symm (Env.cvBy (Sl_le rfl) (Env.le_nil _)) (Less.pk rfl (Less.nil _))
  rintro out_3 ⟨b_1, p_1, c_1⟩ hp
  replace hp := hp.symm
  subst hp
  refine TE.then ?_; refine TC.kp [5] [b_1] ?_; refine TC.seqS ?_; refine TS.s OpY.move rfl ?_; refine TS.s OpY.assign rfl ?_; refine TS.nil ?_; refine TE.then ?_; refine TC.kp [4] [b_1] ?_; refine TC.ret ?_; refine TE.pub b_1 (PubE.set 4 (PubC.sv PlS.all rfl) PubE.refl) ?_
  obtain rfl := (Option.some.inj H)
  exact TE.ret1 rfl Cv.le
def bywayref21_Sound_l2 (c0 : Chip) (n_3 : Int) (k_6 : Int) : Option (Int ⊕ (Unit ⊕ Bool)) :=
  bif (decide (k_6 < c0.Pages)) then ((idx c0.Blocks n_3).bind fun x_8 => (idx x_8.Pages k_6).bind fun x_9 => (bywayref21_Kind x_9).bind fun x_10 => (gb (!(decide (x_10 = (3 : Int)))) (idx c0.Blocks n_3)).bind fun x_11 => bif ((decide (x_10 = (3 : Int))) || (decide ((decide (x_10 = (0 : Int))) ≠ (decide (k_6 ≥ x_11.Used))))) then (some (.inr (.inr false))) else ((addI k_6 (1 : Int)).bind fun x_14 => some (.inl x_14))) else (some (.inr (.inl ())))
def bywayref21_Sound_l1 (c0 : Chip) (n_3 : Int) : Option (Int ⊕ (Unit ⊕ Bool)) :=
  bif (decide (n_3 < (c0.Blocks.length : Int))) then ((loopO (fun s => bywayref21_Sound_l2 c0 n_3 s) (0 : Int)).bind fun o_5 => elS o_5 (fun _ => (addI n_3 (1 : Int)).bind fun x_15 => some (.inl x_15)) (fun q => some (.inr (.inr q)))) else (some (.inr (.inl ())))
def bywayref21_Sound (c0 : Chip) : Option Bool :=
  (loopO (fun s => bywayref21_Sound_l1 c0 s) (0 : Int)).bind fun o_2 => elS o_2 (fun _ => some true) (fun q => some q)
theorem bywayref21_Sound_c {A : Nat → Prop} {c0 : Chip}  {r : Bool} (w : World) (v0 : Value) (hA : ∀ k, w.heap.size ≤ k → A k)  (h0 : (D (c0 : Chip)).p A w v0) (H : bywayref21_Sound c0 = some r) :
    Calls Try.prog 60 #[v0] w (Ret A w (D (r : Bool))) := by
  unfold bywayref21_Sound at H
  refine enter1 hA Try.func60 rfl Try.ntmps60 rfl h0 ?_; refine TC.seqS ?_; refine TS.box rfl fun b1_0 => ?_; refine TS.s OpY.assign rfl ?_; refine TS.nil ?_; refine TE.then ?_; refine TC.kp [1] [b1_0] ?_; refine TC.seq ?_; refine TC.seqS ?_; refine TS.s OpY.assign rfl ?_; refine TS.nil ?_; refine TE.then ?_; refine TC.kp [1, 3] [b1_0] ?_
  obtain ⟨o_2, H2, H⟩ := bnd H
  refine TC.cutP (fun s : Unit => o_2 = .inl s) (fun (_ : Unit) (_ : Unit) => Env.nil) (fun (_ : Unit) (_ : Unit) => []) ?_ ?_
  · skip
    refine TC.block ?_; refine TC.loopP H2 (fun (n_3 : Int) (_ : Unit) => (Env.set (Env.set Env.nil 1 (Pt b1_0 0)) 3 (D (n_3 : Int)))) (fun (n_3 : Int) (_ : Unit) => [⟨b1_0, True, (One (c0 : Chip))⟩]) () (Env.cv (Env.cv (Env.le_nil _))) (Less.pk rfl (Less.nil _)) ?_
    rintro n_3 ⟨⟩ x_4 H4 he4
    replace H4 : bywayref21_Sound_l1 c0 n_3 = some x_4 := H4
    unfold bywayref21_Sound_l1 at H4
    refine TC.seq ?_; refine TC.seqS ?_; refine TS.s OpY.move rfl ?_; refine TS.s OpY.fieldAddr rfl ?_; refine TS.s (OpD.ldq (Pl.fld (off := 2) (α := Chip) (β := (List Block)) Pl.one)) rfl ?_; refine TS.s OpD.len rfl ?_; refine TS.s OpY.lss rfl ?_; refine TS.nil ?_; refine TE.then ?_; refine TC.kp [1, 3, 10] [b1_0] ?_; refine TC.cond (fun hc => ?_) (fun hc => ?_)
    · replace H4 := cT H4 hc
      refine TC.skip ?_; refine TE.then ?_; refine TC.kp [1, 3] [b1_0] ?_; refine TC.seq ?_; refine TC.block ?_; refine TC.seqS ?_; refine TS.s OpY.assign rfl ?_; refine TS.nil ?_; refine TE.then ?_; refine TC.kp [1, 3, 4] [b1_0] ?_
      obtain ⟨o_5, H5, H4⟩ := bnd H4
      refine TC.cutP (fun s : Unit => o_5 = .inl s) (fun (_ : Unit) (_ : Unit) => (Env.set (Env.set Env.nil 1 (Pt b1_0 0)) 3 (D (n_3 : Int)))) (fun (_ : Unit) (_ : Unit) => [⟨b1_0, True, (One (c0 : Chip))⟩]) ?_ ?_
      · skip
        refine TC.block ?_; refine TC.loopP H5 (fun (k_6 : Int) (_ : Unit) => (Env.set (Env.set (Env.set Env.nil 1 (Pt b1_0 0)) 3 (D (n_3 : Int))) 4 (D (k_6 : Int)))) (fun (k_6 : Int) (_ : Unit) => [⟨b1_0, True, (One (c0 : Chip))⟩]) () (Env.cv (Env.cv (Env.cv (Env.le_nil _)))) (Less.pk rfl (Less.nil _)) ?_
        rintro k_6 ⟨⟩ x_7 H7 he7
        replace H7 : bywayref21_Sound_l2 c0 n_3 k_6 = some x_7 := H7
        unfold bywayref21_Sound_l2 at H7
        refine TC.seq ?_; refine TC.seqS ?_; refine TS.s OpY.move rfl ?_; refine TS.s OpY.fieldAddr rfl ?_; refine TS.s (OpD.ldq (Pl.fld (off := 0) (α := Chip) (β := Int) Pl.one)) rfl ?_; refine TS.s OpY.lss rfl ?_; refine TS.nil ?_; refine TE.then ?_; refine TC.kp [1, 3, 4, 16] [b1_0] ?_; refine TC.cond (fun hc => ?_) (fun hc => ?_)
        · replace H7 := cT H7 hc
          refine TC.skip ?_; refine TE.then ?_; refine TC.kp [1, 3, 4] [b1_0] ?_; refine TC.seq ?_; refine TC.block ?_; refine TC.seqS ?_; refine TS.s OpY.fieldAddr rfl ?_; refine TS.s (OpD.ldq (Pl.fld (off := 2) (α := Chip) (β := (List Block)) Pl.one)) rfl ?_; refine TS.s OpY.move rfl ?_
          obtain ⟨x_8, ex_8, H7⟩ := bnd H7
          refine TS.s (OpD.index ex_8) rfl ?_; refine TS.s OpY.fieldAddr rfl ?_; refine TS.s OpY.load rfl ?_; refine TS.s OpY.move rfl ?_
          obtain ⟨x_9, ex_9, H7⟩ := bnd H7
          refine TS.s (OpD.index ex_9) rfl ?_; refine TS.s OpY.load rfl ?_
          obtain ⟨x_10, ex_10, H7⟩ := bnd H7
          refine TS.s (OpY.call1 fun w v0 hA h0 => bywayref21_Kind_c w v0 hA (toD h0) ex_10) rfl ?_; refine TS.s OpY.assign rfl ?_; refine TS.nil ?_; refine TE.then ?_; refine TC.kp [1, 3, 4, 5] [b1_0] ?_; refine TC.seqS ?_; refine TS.s OpY.move rfl ?_; refine TS.s OpY.eql rfl ?_; refine TS.s OpY.move rfl ?_; refine TS.g 31 rfl (fun hg => OpY.move) rfl ?_; refine TS.g 31 rfl (fun hg => OpY.eql) rfl ?_; refine TS.g 31 rfl (fun hg => OpY.move) rfl ?_; refine TS.g 31 rfl (fun hg => OpY.fieldAddr) rfl ?_; refine TS.g 31 rfl (fun hg => (OpD.ldq (Pl.fld (off := 2) (α := Chip) (β := (List Block)) Pl.one))) rfl ?_; refine TS.g 31 rfl (fun hg => OpY.move) rfl ?_
          obtain ⟨x_11, ex_11, H7⟩ := bnd H7
          refine TS.g 31 rfl (fun hg => (OpD.index (gb_some ex_11 (nF hg.h)))) rfl ?_; refine TS.g 31 rfl (fun hg => OpY.fieldAddr) rfl ?_; refine TS.g 31 rfl (fun hg => OpY.load) rfl ?_; refine TS.g 31 rfl (fun hg => OpY.geq) rfl ?_; refine TS.g 31 rfl (fun hg => (OpY.neq_bool Try.underlying4)) rfl ?_; refine TS.s OpY.pickOr rfl ?_; refine TS.nil ?_; refine TE.then ?_; refine TC.kp [1, 3, 4, 43] [b1_0] ?_; refine TC.cond (fun hc => ?_) (fun hc => ?_)
          · replace H7 := cT H7 hc
            refine TC.seqS ?_; refine TS.s OpY.assign rfl ?_; refine TS.nil ?_; refine TE.then ?_; refine TC.kp [2] [] ?_; refine TC.ret ?_; refine TE.inBlock_ret ?_; refine TE.then_ret ?_; refine TE.then_ret ?_; refine TE.inBlock_ret ?_; refine TE.cut_ret ?_
            have R11 := elS_r (he7 _ (Option.some.inj H7).symm) H4
            refine TE.inBlock_ret ?_; refine TE.then_ret ?_; refine TE.then_ret ?_; refine TE.inBlock_ret ?_; refine TE.cut_ret ?_
            have R12 := elS_r (he4 _ (Option.some.inj R11).symm) H
            refine TE.then_ret ?_
            obtain rfl := (Option.some.inj R12)
            exact TE.ret1 rfl Cv.le
          · replace H7 := cF H7 hc
            refine TC.skip ?_; refine TE.inBlock_normal ?_; refine TE.then ?_; refine TC.kp [1, 3, 4] [b1_0] ?_; refine TC.regionS ?_; refine TS.s OpY.move rfl ?_
            obtain ⟨x_14, ex_14, H7⟩ := bnd H7
            refine TS.s (OpD.add ex_14) rfl ?_; refine TS.s OpY.assign rfl ?_; refine TS.nil ?_; refine TE.kp [1, 3, 4] [b1_0] ?_; exact TE.backP x_14 () (Option.some.inj H7).symm (Env.cv (Env.cv (Env.cv (Env.le_nil _)))) (Less.pk rfl (Less.nil _))
        · replace H7 := cF H7 hc
          refine TC.exit ?_; refine TE.then_exit ?_; refine TE.then_exit ?_; refine TE.inBlock_here ?_; exact TE.cutP () () (he7 _ (Option.some.inj H7).symm).symm (Env.cv (Env.cv (Env.le_nil _))) (Less.pk rfl (Less.nil _))
      rintro ⟨⟩ ⟨⟩ hp
      replace H4 := elS_l hp H4
      refine TE.inBlock_normal ?_; refine TE.then ?_; refine TC.kp [1, 3] [b1_0] ?_; refine TC.regionS ?_; refine TS.s OpY.move rfl ?_
      obtain ⟨x_15, ex_15, H4⟩ := bnd H4
      refine TS.s (OpD.add ex_15) rfl ?_; refine TS.s OpY.assign rfl ?_; refine TS.nil ?_; refine TE.kp [1, 3] [b1_0] ?_; exact TE.backP x_15 () (Option.some.inj H4).symm (Env.cv (Env.cv (Env.le_nil _))) (Less.pk rfl (Less.nil _))
    · replace H4 := cF H4 hc
      refine TC.exit ?_; refine TE.then_exit ?_; refine TE.then_exit ?_; refine TE.inBlock_here ?_; exact TE.cutP () () (he4 _ (Option.some.inj H4).symm).symm (Env.le_nil _) (Less.nil _)
  rintro ⟨⟩ ⟨⟩ hp
  replace H := elS_l hp H
  refine TE.then ?_; refine TC.kp [] [] ?_; refine TC.seqS ?_; refine TS.s OpY.assign rfl ?_; refine TS.nil ?_; refine TE.then ?_; refine TC.kp [2] [] ?_; refine TC.ret ?_
  obtain rfl := (Option.some.inj H)
  exact TE.ret1 rfl Cv.le
def bywayref06_Right_l2 (c0 : Chip) (x_5 : Block) (k_9 : Int) : Option (Int ⊕ (Unit ⊕ Bool)) :=
  bif (decide (k_9 < (x_5.Pages.length : Int))) then ((idx x_5.Pages k_9).bind fun x_11 => bif (decide ((x_11.length : Int) ≠ c0.Size)) then (some (.inr (.inr false))) else ((addI k_9 (1 : Int)).bind fun x_14 => some (.inl x_14))) else (some (.inr (.inl ())))
def bywayref06_Right_l1 (c0 : Chip) (i_3 : Int) : Option (Int ⊕ (Unit ⊕ Bool)) :=
  bif (decide (i_3 < (c0.Blocks.length : Int))) then ((idx c0.Blocks i_3).bind fun x_5 => bif (((((decide ((x_5.Pages.length : Int) ≠ c0.Pages)) || (decide (x_5.Used < (0 : Int)))) || (decide (x_5.Used > c0.Pages))) || (decide (x_5.Worn < (0 : Int)))) || (decide (x_5.Worn > (1099511627776 : Int)))) then (some (.inr (.inr false))) else ((loopO (fun s => bywayref06_Right_l2 c0 x_5 s) (0 : Int)).bind fun o_8 => elS o_8 (fun _ => (addI i_3 (1 : Int)).bind fun x_15 => some (.inl x_15)) (fun q => some (.inr (.inr q))))) else (some (.inr (.inl ())))
def bywayref06_Right (c0 : Chip) : Option Bool :=
  bif (((((((((decide (c0.Pages < (1 : Int))) || (decide (c0.Pages > (16 : Int)))) || (decide (c0.Size < (1 : Int)))) || (decide (c0.Size > (256 : Int)))) || (decide ((c0.Blocks.length : Int) = (0 : Int)))) || (decide ((c0.Blocks.length : Int) > (32 : Int)))) || (decide (c0.Ops < (0 : Int)))) || (decide (c0.Ops > (1099511627776 : Int)))) || (decide ((c0.Faults.length : Int) > (64 : Int)))) then (some false) else ((loopO (fun s => bywayref06_Right_l1 c0 s) (0 : Int)).bind fun o_2 => elS o_2 (fun _ => some true) (fun q => some q))
theorem bywayref06_Right_c {A : Nat → Prop} {c0 : Chip}  {r : Bool} (w : World) (v0 : Value) (hA : ∀ k, w.heap.size ≤ k → A k)  (h0 : (D (c0 : Chip)).p A w v0) (H : bywayref06_Right c0 = some r) :
    Calls Try.prog 54 #[v0] w (Ret A w (D (r : Bool))) := by
  unfold bywayref06_Right at H
  refine enter1 hA Try.func54 rfl Try.ntmps54 rfl h0 ?_; refine TC.seqS ?_; refine TS.box rfl fun b1_0 => ?_; refine TS.s OpY.assign rfl ?_; refine TS.nil ?_; refine TE.then ?_; refine TC.kp [1] [b1_0] ?_; refine TC.seq ?_; refine TC.seqS ?_; refine TS.s OpY.fieldAddr rfl ?_; refine TS.s (OpD.ldq (Pl.fld (off := 0) (α := Chip) (β := Int) Pl.one)) rfl ?_; refine TS.s OpY.lss rfl ?_; refine TS.s OpY.move rfl ?_; refine TS.g 9 rfl (fun hg => OpY.fieldAddr) rfl ?_; refine TS.g 9 rfl (fun hg => (OpD.ldq (Pl.fld (off := 0) (α := Chip) (β := Int) Pl.one))) rfl ?_; refine TS.g 9 rfl (fun hg => OpY.gtr) rfl ?_; refine TS.s OpY.pickOr rfl ?_; refine TS.s OpY.move rfl ?_; refine TS.g 14 rfl (fun hg => OpY.fieldAddr) rfl ?_; refine TS.g 14 rfl (fun hg => (OpD.ldq (Pl.fld (off := 1) (α := Chip) (β := Int) Pl.one))) rfl ?_; refine TS.g 14 rfl (fun hg => OpY.lss) rfl ?_; refine TS.s OpY.pickOr rfl ?_; refine TS.s OpY.move rfl ?_; refine TS.g 19 rfl (fun hg => OpY.fieldAddr) rfl ?_; refine TS.g 19 rfl (fun hg => (OpD.ldq (Pl.fld (off := 1) (α := Chip) (β := Int) Pl.one))) rfl ?_; refine TS.g 19 rfl (fun hg => OpY.gtr) rfl ?_; refine TS.s OpY.pickOr rfl ?_; refine TS.s OpY.move rfl ?_; refine TS.g 24 rfl (fun hg => OpY.fieldAddr) rfl ?_; refine TS.g 24 rfl (fun hg => (OpD.ldq (Pl.fld (off := 2) (α := Chip) (β := (List Block)) Pl.one))) rfl ?_; refine TS.g 24 rfl (fun hg => OpD.len) rfl ?_; refine TS.g 24 rfl (fun hg => OpY.eql) rfl ?_; refine TS.s OpY.pickOr rfl ?_; refine TS.s OpY.move rfl ?_; refine TS.g 30 rfl (fun hg => OpY.fieldAddr) rfl ?_; refine TS.g 30 rfl (fun hg => (OpD.ldq (Pl.fld (off := 2) (α := Chip) (β := (List Block)) Pl.one))) rfl ?_; refine TS.g 30 rfl (fun hg => OpD.len) rfl ?_; refine TS.g 30 rfl (fun hg => OpY.gtr) rfl ?_; refine TS.s OpY.pickOr rfl ?_; refine TS.s OpY.move rfl ?_; refine TS.g 36 rfl (fun hg => OpY.fieldAddr) rfl ?_; refine TS.g 36 rfl (fun hg => (OpD.ldq (Pl.fld (off := 3) (α := Chip) (β := Int) Pl.one))) rfl ?_; refine TS.g 36 rfl (fun hg => OpY.lss) rfl ?_; refine TS.s OpY.pickOr rfl ?_; refine TS.s OpY.move rfl ?_; refine TS.g 41 rfl (fun hg => OpY.fieldAddr) rfl ?_; refine TS.g 41 rfl (fun hg => (OpD.ldq (Pl.fld (off := 3) (α := Chip) (β := Int) Pl.one))) rfl ?_; refine TS.g 41 rfl (fun hg => OpY.gtr) rfl ?_; refine TS.s OpY.pickOr rfl ?_; refine TS.s OpY.move rfl ?_; refine TS.g 46 rfl (fun hg => OpY.fieldAddr) rfl ?_; refine TS.g 46 rfl (fun hg => (OpD.ldq (Pl.fld (off := 5) (α := Chip) (β := (List Fault)) Pl.one))) rfl ?_; refine TS.g 46 rfl (fun hg => OpD.len) rfl ?_; refine TS.g 46 rfl (fun hg => OpY.gtr) rfl ?_; refine TS.s OpY.pickOr rfl ?_; refine TS.nil ?_; refine TE.then ?_; refine TC.kp [1, 51] [b1_0] ?_; refine TC.cond (fun hc => ?_) (fun hc => ?_)
  · replace H := cT H hc
    refine TC.seqS ?_; refine TS.s OpY.assign rfl ?_; refine TS.nil ?_; refine TE.then ?_; refine TC.kp [2] [] ?_; refine TC.ret ?_; refine TE.then_ret ?_
    obtain rfl := (Option.some.inj H)
    exact TE.ret1 rfl Cv.le
  · replace H := cF H hc
    refine TC.skip ?_; refine TE.then ?_; refine TC.kp [1] [b1_0] ?_; refine TC.seq ?_; refine TC.seqS ?_; refine TS.s OpY.assign rfl ?_; refine TS.nil ?_; refine TE.then ?_; refine TC.kp [1, 3] [b1_0] ?_
    obtain ⟨o_2, H2, H⟩ := bnd H
    refine TC.cutP (fun s : Unit => o_2 = .inl s) (fun (_ : Unit) (_ : Unit) => Env.nil) (fun (_ : Unit) (_ : Unit) => []) ?_ ?_
    · skip
      refine TC.block ?_; refine TC.loopP H2 (fun (i_3 : Int) (_ : Unit) => (Env.set (Env.set Env.nil 1 (Pt b1_0 0)) 3 (D (i_3 : Int)))) (fun (i_3 : Int) (_ : Unit) => [⟨b1_0, True, (One (c0 : Chip))⟩]) () (Env.cv (Env.cv (Env.le_nil _))) (Less.pk rfl (Less.nil _)) ?_
      rintro i_3 ⟨⟩ x_4 H4 he4
      replace H4 : bywayref06_Right_l1 c0 i_3 = some x_4 := H4
      unfold bywayref06_Right_l1 at H4
      refine TC.seq ?_; refine TC.seqS ?_; refine TS.s OpY.move rfl ?_; refine TS.s OpY.fieldAddr rfl ?_; refine TS.s (OpD.ldq (Pl.fld (off := 2) (α := Chip) (β := (List Block)) Pl.one)) rfl ?_; refine TS.s OpD.len rfl ?_; refine TS.s OpY.lss rfl ?_; refine TS.nil ?_; refine TE.then ?_; refine TC.kp [1, 3, 56] [b1_0] ?_; refine TC.cond (fun hc => ?_) (fun hc => ?_)
      · replace H4 := cT H4 hc
        refine TC.skip ?_; refine TE.then ?_; refine TC.kp [1, 3] [b1_0] ?_; refine TC.seq ?_; refine TC.block ?_; refine TC.seqS ?_; refine TS.s OpY.fieldAddr rfl ?_; refine TS.s (OpD.ldq (Pl.fld (off := 2) (α := Chip) (β := (List Block)) Pl.one)) rfl ?_; refine TS.s OpY.move rfl ?_
        obtain ⟨x_5, ex_5, H4⟩ := bnd H4
        refine TS.s (OpD.index ex_5) rfl ?_; refine TS.s OpY.load rfl ?_; refine TS.alloc (α := Block) rfl fun b4_5 => ?_; refine TS.un (OpT.storeq (y := (x_5 : Block)) Pl.one) ?_; refine TS.nil ?_; refine TE.then ?_; refine TC.kp [1, 3, 4] [b1_0, b4_5] ?_; refine TC.seq ?_; refine TC.seqS ?_; refine TS.s OpY.fieldAddr rfl ?_; refine TS.s (OpD.ldq (Pl.fld (off := 0) (α := Block) (β := (List (List UInt8))) Pl.one)) rfl ?_; refine TS.s OpD.len rfl ?_; refine TS.s OpY.fieldAddr rfl ?_; refine TS.s (OpD.ldq (Pl.fld (off := 0) (α := Chip) (β := Int) Pl.one)) rfl ?_; refine TS.s OpY.neq rfl ?_; refine TS.s OpY.move rfl ?_; refine TS.g 70 rfl (fun hg => OpY.fieldAddr) rfl ?_; refine TS.g 70 rfl (fun hg => (OpD.ldq (Pl.fld (off := 1) (α := Block) (β := Int) Pl.one))) rfl ?_; refine TS.g 70 rfl (fun hg => OpY.lss) rfl ?_; refine TS.s OpY.pickOr rfl ?_; refine TS.s OpY.move rfl ?_; refine TS.g 75 rfl (fun hg => OpY.fieldAddr) rfl ?_; refine TS.g 75 rfl (fun hg => (OpD.ldq (Pl.fld (off := 1) (α := Block) (β := Int) Pl.one))) rfl ?_; refine TS.g 75 rfl (fun hg => OpY.fieldAddr) rfl ?_; refine TS.g 75 rfl (fun hg => (OpD.ldq (Pl.fld (off := 0) (α := Chip) (β := Int) Pl.one))) rfl ?_; refine TS.g 75 rfl (fun hg => OpY.gtr) rfl ?_; refine TS.s OpY.pickOr rfl ?_; refine TS.s OpY.move rfl ?_; refine TS.g 82 rfl (fun hg => OpY.fieldAddr) rfl ?_; refine TS.g 82 rfl (fun hg => (OpD.ldq (Pl.fld (off := 2) (α := Block) (β := Int) Pl.one))) rfl ?_; refine TS.g 82 rfl (fun hg => OpY.lss) rfl ?_; refine TS.s OpY.pickOr rfl ?_; refine TS.s OpY.move rfl ?_; refine TS.g 87 rfl (fun hg => OpY.fieldAddr) rfl ?_; refine TS.g 87 rfl (fun hg => (OpD.ldq (Pl.fld (off := 2) (α := Block) (β := Int) Pl.one))) rfl ?_; refine TS.g 87 rfl (fun hg => OpY.gtr) rfl ?_; refine TS.s OpY.pickOr rfl ?_; refine TS.nil ?_; refine TE.then ?_; refine TC.kp [1, 3, 4, 91] [b1_0, b4_5] ?_; refine TC.cond (fun hc => ?_) (fun hc => ?_)
        · replace H4 := cT H4 hc
          refine TC.seqS ?_; refine TS.s OpY.assign rfl ?_; refine TS.nil ?_; refine TE.then ?_; refine TC.kp [2] [] ?_; refine TC.ret ?_; refine TE.then_ret ?_; refine TE.inBlock_ret ?_; refine TE.then_ret ?_; refine TE.then_ret ?_; refine TE.inBlock_ret ?_; refine TE.cut_ret ?_
          have R6 := elS_r (he4 _ (Option.some.inj H4).symm) H
          refine TE.then_ret ?_
          obtain rfl := (Option.some.inj R6)
          exact TE.ret1 rfl Cv.le
        · replace H4 := cF H4 hc
          refine TC.skip ?_; refine TE.then ?_; refine TC.kp [1, 3, 4] [b1_0, b4_5] ?_; refine TC.seqS ?_; refine TS.s OpY.assign rfl ?_; refine TS.nil ?_; refine TE.then ?_; refine TC.kp [1, 3, 4, 5] [b1_0, b4_5] ?_
          obtain ⟨o_8, H8, H4⟩ := bnd H4
          refine TC.cutP (fun s : Unit => o_8 = .inl s) (fun (_ : Unit) (_ : Unit) => (Env.set (Env.set Env.nil 1 (Pt b1_0 0)) 3 (D (i_3 : Int)))) (fun (_ : Unit) (_ : Unit) => [⟨b1_0, True, (One (c0 : Chip))⟩]) ?_ ?_
          · skip
            refine TC.block ?_; refine TC.loopP H8 (fun (k_9 : Int) (_ : Unit) => (Env.set (Env.set (Env.set (Env.set Env.nil 1 (Pt b1_0 0)) 3 (D (i_3 : Int))) 4 (Pt b4_5 0)) 5 (D (k_9 : Int)))) (fun (k_9 : Int) (_ : Unit) => [⟨b1_0, True, (One (c0 : Chip))⟩, ⟨b4_5, True, (One (x_5 : Block))⟩]) () (Env.cv (Env.cv (Env.cv (Env.cv (Env.le_nil _))))) (Less.pk rfl (Less.pk rfl (Less.nil _))) ?_
            rintro k_9 ⟨⟩ x_10 H10 he10
            replace H10 : bywayref06_Right_l2 c0 x_5 k_9 = some x_10 := H10
            unfold bywayref06_Right_l2 at H10
            refine TC.seq ?_; refine TC.seqS ?_; refine TS.s OpY.move rfl ?_; refine TS.s OpY.fieldAddr rfl ?_; refine TS.s (OpD.ldq (Pl.fld (off := 0) (α := Block) (β := (List (List UInt8))) Pl.one)) rfl ?_; refine TS.s OpD.len rfl ?_; refine TS.s OpY.lss rfl ?_; refine TS.nil ?_; refine TE.then ?_; refine TC.kp [1, 3, 4, 5, 96] [b1_0, b4_5] ?_; refine TC.cond (fun hc => ?_) (fun hc => ?_)
            · replace H10 := cT H10 hc
              refine TC.skip ?_; refine TE.then ?_; refine TC.kp [1, 3, 4, 5] [b1_0, b4_5] ?_; refine TC.seq ?_; refine TC.block ?_; refine TC.seqD0 mix (by kernel_rfl) ?_; refine TR.s OpY.fieldAddr rfl ?_; refine TR.s (OpD.ldq (Pl.fld (off := 0) (α := Block) (β := (List (List UInt8))) Pl.one)) rfl ?_; refine TR.s OpY.move rfl ?_
              obtain ⟨x_11, ex_11, H10⟩ := bnd H10
              refine TR.s (OpD.index ex_11) rfl ?_; refine TR.s OpY.load rfl ?_; refine TR.s OpD.len rfl ?_; refine TR.s OpY.fieldAddr rfl ?_; refine TR.s (OpD.ldq (Pl.fld (off := 1) (α := Chip) (β := Int) Pl.one)) rfl ?_; refine TR.s OpY.neq rfl ?_; refine TR.nil ?_; refine TC.kp [1, 3, 4, 5, 107] [b1_0, b4_5] ?_; refine TC.cond (fun hc => ?_) (fun hc => ?_)
              · replace H10 := cT H10 hc
                refine TC.seqS ?_; refine TS.s OpY.assign rfl ?_; refine TS.nil ?_; refine TE.then ?_; refine TC.kp [2] [] ?_; refine TC.ret ?_; refine TE.inBlock_ret ?_; refine TE.then_ret ?_; refine TE.then_ret ?_; refine TE.inBlock_ret ?_; refine TE.cut_ret ?_
                have R11 := elS_r (he10 _ (Option.some.inj H10).symm) H4
                refine TE.inBlock_ret ?_; refine TE.then_ret ?_; refine TE.then_ret ?_; refine TE.inBlock_ret ?_; refine TE.cut_ret ?_
                have R12 := elS_r (he4 _ (Option.some.inj R11).symm) H
                refine TE.then_ret ?_
                obtain rfl := (Option.some.inj R12)
                exact TE.ret1 rfl Cv.le
              · replace H10 := cF H10 hc
                refine TC.skip ?_; refine TE.inBlock_normal ?_; refine TE.then ?_; refine TC.kp [1, 3, 4, 5] [b1_0, b4_5] ?_; refine TC.regionS ?_; refine TS.s OpY.move rfl ?_
                obtain ⟨x_14, ex_14, H10⟩ := bnd H10
                refine TS.s (OpD.add ex_14) rfl ?_; refine TS.s OpY.assign rfl ?_; refine TS.nil ?_; refine TE.kp [1, 3, 4, 5] [b1_0, b4_5] ?_; exact TE.backP x_14 () (Option.some.inj H10).symm (Env.cv (Env.cv (Env.cv (Env.cv (Env.le_nil _))))) (Less.pk rfl (Less.pk rfl (Less.nil _)))
            · replace H10 := cF H10 hc
              refine TC.exit ?_; refine TE.then_exit ?_; refine TE.then_exit ?_; refine TE.inBlock_here ?_; exact TE.cutP () () (he10 _ (Option.some.inj H10).symm).symm (Env.cv (Env.cv (Env.le_nil _))) (Less.pk rfl (Less.nil _))
          rintro ⟨⟩ ⟨⟩ hp
          replace H4 := elS_l hp H4
          refine TE.inBlock_normal ?_; refine TE.then ?_; refine TC.kp [1, 3] [b1_0] ?_; refine TC.regionS ?_; refine TS.s OpY.move rfl ?_
          obtain ⟨x_15, ex_15, H4⟩ := bnd H4
          refine TS.s (OpD.add ex_15) rfl ?_; refine TS.s OpY.assign rfl ?_; refine TS.nil ?_; refine TE.kp [1, 3] [b1_0] ?_; exact TE.backP x_15 () (Option.some.inj H4).symm (Env.cv (Env.cv (Env.le_nil _))) (Less.pk rfl (Less.nil _))
      · replace H4 := cF H4 hc
        refine TC.exit ?_; refine TE.then_exit ?_; refine TE.then_exit ?_; refine TE.inBlock_here ?_; exact TE.cutP () () (he4 _ (Option.some.inj H4).symm).symm (Env.le_nil _) (Less.nil _)
    rintro ⟨⟩ ⟨⟩ hp
    replace H := elS_l hp H
    refine TE.then ?_; refine TC.kp [] [] ?_; refine TC.seqS ?_; refine TS.s OpY.assign rfl ?_; refine TS.nil ?_; refine TE.then ?_; refine TC.kp [2] [] ?_; refine TC.ret ?_
    obtain rfl := (Option.some.inj H)
    exact TE.ret1 rfl Cv.le
end Go.Proofs.Ytefmfhbkihplgaa.Tr
namespace Go.Proofs.Ytefmfhbkihplgaa.Tr
open Go Go.RowKit
set_option maxRecDepth 100000
set_option synthInstance.maxHeartbeats 400000
set_option synthInstance.maxSize 4096
def bywaylaw21_awake : Option Bool :=
  (chip_New (2 : Int) (2 : Int) (24 : Int)).bind fun r_1 => (page_Put (⟨(1 : Int), (3 : Int), (UInt64.ofNat 5), []⟩ : Page) (24 : Int)).bind fun r_3 => (root_Put (⟨(UInt64.ofNat 7), []⟩ : Roots) (24 : Int)).bind fun r_4 => (chip_Program r_1.1 (0 : Int) (0 : Int) r_3.1).bind fun r_5 => (chip_Program r_5.1 (1 : Int) (0 : Int) r_4.1).bind fun r_6 => (image_Count r_6.1).bind fun r_7 => (image_Newest r_6.1 (3 : Int)).bind fun r_9 => (image_Gens r_6.1).bind fun x_10 => (gb ((((((((((decide (r_1.2 = (0 : Int))) && (decide (r_3.2 = (0 : Int)))) && (decide (r_4.2 = (0 : Int)))) && (decide (r_5.2 = (0 : Int)))) && (decide (r_6.2 = (0 : Int)))) && (decide (r_7.2 = (0 : Int)))) && (decide (r_7.1 = (⟨(2 : Int), (1 : Int), (1 : Int), 0, 0⟩ : Tally)))) && (decide (r_9.2 = (0 : Int)))) && (decide (r_9.1 = (1 : Int)))) && (decide ((x_10.length : Int) = (1 : Int)))) (idx x_10 (0 : Int))).bind fun x_11 => (gb (((((((((((decide (r_1.2 = (0 : Int))) && (decide (r_3.2 = (0 : Int)))) && (decide (r_4.2 = (0 : Int)))) && (decide (r_5.2 = (0 : Int)))) && (decide (r_6.2 = (0 : Int)))) && (decide (r_7.2 = (0 : Int)))) && (decide (r_7.1 = (⟨(2 : Int), (1 : Int), (1 : Int), 0, 0⟩ : Tally)))) && (decide (r_9.2 = (0 : Int)))) && (decide (r_9.1 = (1 : Int)))) && (decide ((x_10.length : Int) = (1 : Int)))) && (decide (x_11 = (UInt64.ofNat 7)))) (image_Sound r_6.1)).bind fun x_12 => (gb ((((((((((((decide (r_1.2 = (0 : Int))) && (decide (r_3.2 = (0 : Int)))) && (decide (r_4.2 = (0 : Int)))) && (decide (r_5.2 = (0 : Int)))) && (decide (r_6.2 = (0 : Int)))) && (decide (r_7.2 = (0 : Int)))) && (decide (r_7.1 = (⟨(2 : Int), (1 : Int), (1 : Int), 0, 0⟩ : Tally)))) && (decide (r_9.2 = (0 : Int)))) && (decide (r_9.1 = (1 : Int)))) && (decide ((x_10.length : Int) = (1 : Int)))) && (decide (x_11 = (UInt64.ofNat 7)))) && x_12) (image_Stale r_6.1 ([] : List Int))).bind fun x_13 => some (((((((((((((decide (r_1.2 = (0 : Int))) && (decide (r_3.2 = (0 : Int)))) && (decide (r_4.2 = (0 : Int)))) && (decide (r_5.2 = (0 : Int)))) && (decide (r_6.2 = (0 : Int)))) && (decide (r_7.2 = (0 : Int)))) && (decide (r_7.1 = (⟨(2 : Int), (1 : Int), (1 : Int), 0, 0⟩ : Tally)))) && (decide (r_9.2 = (0 : Int)))) && (decide (r_9.1 = (1 : Int)))) && (decide ((x_10.length : Int) = (1 : Int)))) && (decide (x_11 = (UInt64.ofNat 7)))) && x_12) && (decide ((x_13.length : Int) = (1 : Int))))
theorem bywaylaw21_awake_c {A : Nat → Prop}   {r : Bool} (w : World)  (hA : ∀ k, w.heap.size ≤ k → A k)   (H : bywaylaw21_awake = some r) :
    Calls Try.prog 48 #[] w (Ret A w (D (r : Bool))) := by
  unfold bywaylaw21_awake at H
  refine enter0 hA Try.func48 rfl Try.ntmps48 rfl  ?_; refine TC.seqS ?_; refine TS.s OpY.assign rfl ?_; refine TS.nil ?_; refine TE.then ?_; refine TC.kp [] [] ?_; refine TC.seqS ?_
  obtain ⟨r_1, er_1, H⟩ := bnd H
  refine TS.s (OpY.call3 fun w v0 v1 v2 hA h0 h1 h2 => chip_New_c w v0 v1 v2 hA (toD h0) (toD h1) (toD h2) er_1) rfl ?_; refine TS.s OpY.move rfl ?_; refine TS.s (OpY.extract rfl) rfl ?_; refine TS.s (OpY.extract rfl) rfl ?_; refine TS.alloc (α := Chip) rfl fun b1_1 => ?_; refine TS.un (OpT.storeq (y := (r_1.1 : Chip)) Pl.one) ?_; refine TS.s OpY.assign rfl ?_; refine TS.nil ?_; refine TE.then ?_; refine TC.kp [1, 2] [b1_1] ?_; refine TC.seqS ?_; refine TS.s (OpY.buildAs (⟨(1 : Int), (3 : Int), (UInt64.ofNat 5), []⟩ : Page) rfl ⟨_, Try.underlying53, by kernel_rfl⟩ rfl rfl) rfl ?_
  obtain ⟨r_3, er_3, H⟩ := bnd H
  refine TS.s (OpY.call2 fun w v0 v1 hA h0 h1 => page_Put_c w v0 v1 hA (toD h0) (toD h1) er_3) rfl ?_; refine TS.s OpY.move rfl ?_; refine TS.s (OpY.extract rfl) rfl ?_; refine TS.s (OpY.extract rfl) rfl ?_; refine TS.s OpY.assign rfl ?_; refine TS.s OpY.assign rfl ?_; refine TS.nil ?_; refine TE.then ?_; refine TC.kp [1, 2, 3, 4] [b1_1] ?_; refine TC.seqS ?_; refine TS.s (OpY.buildAs (⟨(UInt64.ofNat 7), []⟩ : Roots) rfl ⟨_, Try.underlying80, by kernel_rfl⟩ rfl rfl) rfl ?_
  obtain ⟨r_4, er_4, H⟩ := bnd H
  refine TS.s (OpY.call2 fun w v0 v1 hA h0 h1 => root_Put_c w v0 v1 hA (toD h0) (toD h1) er_4) rfl ?_; refine TS.s OpY.move rfl ?_; refine TS.s (OpY.extract rfl) rfl ?_; refine TS.s (OpY.extract rfl) rfl ?_; refine TS.s OpY.assign rfl ?_; refine TS.s OpY.assign rfl ?_; refine TS.nil ?_; refine TE.then ?_; refine TC.kp [1, 2, 3, 4, 5, 6] [b1_1] ?_; refine TC.seqS ?_; refine TS.s (OpD.ldq Pl.one) rfl ?_; refine TS.s OpY.move rfl ?_
  obtain ⟨r_5, er_5, H⟩ := bnd H
  refine TS.s (OpY.call4 fun w v0 v1 v2 v3 hA h0 h1 h2 h3 => chip_Program_c w v0 v1 v2 v3 hA (toD h0) (toD h1) (toD h2) (toD h3) er_5) rfl ?_; refine TS.s OpY.move rfl ?_; refine TS.s (OpY.extract rfl) rfl ?_; refine TS.s (OpY.extract rfl) rfl ?_; refine TS.un (OpT.storeq (y := (r_5.1 : Chip)) Pl.one) ?_; refine TS.s OpY.assign rfl ?_; refine TS.nil ?_; refine TE.then ?_; refine TC.kp [1, 2, 4, 5, 6, 7] [b1_1] ?_; refine TC.seqS ?_; refine TS.s (OpD.ldq Pl.one) rfl ?_; refine TS.s OpY.move rfl ?_
  obtain ⟨r_6, er_6, H⟩ := bnd H
  refine TS.s (OpY.call4 fun w v0 v1 v2 v3 hA h0 h1 h2 h3 => chip_Program_c w v0 v1 v2 v3 hA (toD h0) (toD h1) (toD h2) (toD h3) er_6) rfl ?_; refine TS.s OpY.move rfl ?_; refine TS.s (OpY.extract rfl) rfl ?_; refine TS.s (OpY.extract rfl) rfl ?_; refine TS.un (OpT.storeq (y := (r_6.1 : Chip)) Pl.one) ?_; refine TS.s OpY.assign rfl ?_; refine TS.nil ?_; refine TE.then ?_; refine TC.kp [1, 2, 4, 6, 7, 8] [b1_1] ?_; refine TC.seqS ?_; refine TS.s (OpD.ldq Pl.one) rfl ?_
  obtain ⟨r_7, er_7, H⟩ := bnd H
  refine TS.s (OpY.call1 fun w v0 hA h0 => image_Count_c w v0 hA (toD h0) er_7) rfl ?_; refine TS.s OpY.move rfl ?_; refine TS.s (OpY.extract rfl) rfl ?_; refine TS.s (OpY.extract rfl) rfl ?_; refine TS.alloc (α := Tally) rfl fun b9_7 => ?_; refine TS.un (OpT.storeq (y := (r_7.1 : Tally)) Pl.one) ?_; refine TS.s OpY.assign rfl ?_; refine TS.nil ?_; refine TE.then ?_; refine TC.kp [1, 2, 4, 6, 7, 8, 9, 10] [b1_1, b9_7] ?_; refine TC.seqS ?_; refine TS.s (OpD.ldq Pl.one) rfl ?_
  obtain ⟨r_9, er_9, H⟩ := bnd H
  refine TS.s (OpY.call2 fun w v0 v1 hA h0 h1 => image_Newest_c w v0 v1 hA (toD h0) (toD h1) er_9) rfl ?_; refine TS.s OpY.move rfl ?_; refine TS.s (OpY.extract rfl) rfl ?_; refine TS.s (OpY.extract rfl) rfl ?_; refine TS.s OpY.assign rfl ?_; refine TS.s OpY.assign rfl ?_; refine TS.nil ?_; refine TE.then ?_; refine TC.kp [1, 2, 4, 6, 7, 8, 9, 10, 11, 12] [b1_1, b9_7] ?_; refine TC.seqS ?_; refine TS.s (OpD.ldq Pl.one) rfl ?_
  obtain ⟨x_10, ex_10, H⟩ := bnd H
  refine TS.s (OpY.call1 fun w v0 hA h0 => image_Gens_c w v0 hA (toD h0) ex_10) rfl ?_; refine TS.s OpY.assign rfl ?_; refine TS.nil ?_; refine TE.then ?_; refine TC.kp [1, 2, 4, 6, 7, 8, 9, 10, 11, 12, 13] [b1_1, b9_7] ?_; refine TC.seqS ?_; refine TS.s OpY.move rfl ?_; refine TS.s OpY.eql rfl ?_; refine TS.s OpY.move rfl ?_; refine TS.g 54 rfl (fun hg => OpY.move) rfl ?_; refine TS.g 54 rfl (fun hg => OpY.eql) rfl ?_; refine TS.s OpY.pickAnd rfl ?_; refine TS.s OpY.move rfl ?_; refine TS.g 58 rfl (fun hg => OpY.move) rfl ?_; refine TS.g 58 rfl (fun hg => OpY.eql) rfl ?_; refine TS.s OpY.pickAnd rfl ?_; refine TS.s OpY.move rfl ?_; refine TS.g 62 rfl (fun hg => OpY.move) rfl ?_; refine TS.g 62 rfl (fun hg => OpY.eql) rfl ?_; refine TS.s OpY.pickAnd rfl ?_; refine TS.s OpY.move rfl ?_; refine TS.g 66 rfl (fun hg => OpY.move) rfl ?_; refine TS.g 66 rfl (fun hg => OpY.eql) rfl ?_; refine TS.s OpY.pickAnd rfl ?_; refine TS.s OpY.move rfl ?_; refine TS.g 70 rfl (fun hg => OpY.move) rfl ?_; refine TS.g 70 rfl (fun hg => OpY.eql) rfl ?_; refine TS.s OpY.pickAnd rfl ?_; refine TS.s OpY.move rfl ?_; refine TS.g 74 rfl (fun hg => (OpD.ldq Pl.one)) rfl ?_; refine TS.g 74 rfl (fun hg => (OpY.buildAs (⟨(2 : Int), (1 : Int), (1 : Int), 0, 0⟩ : Tally) rfl ⟨_, Try.underlying91, by kernel_rfl⟩ rfl rfl)) rfl ?_; refine TS.g 74 rfl (fun hg => (OpY.eql_agg EqV_91 (by decide) EqG_91 rfl)) rfl ?_; refine TS.s OpY.pickAnd rfl ?_; refine TS.s OpY.move rfl ?_; refine TS.g 79 rfl (fun hg => OpY.move) rfl ?_; refine TS.g 79 rfl (fun hg => OpY.eql) rfl ?_; refine TS.s OpY.pickAnd rfl ?_; refine TS.s OpY.move rfl ?_; refine TS.g 83 rfl (fun hg => OpY.move) rfl ?_; refine TS.g 83 rfl (fun hg => OpY.eql) rfl ?_; refine TS.s OpY.pickAnd rfl ?_; refine TS.s OpY.move rfl ?_; refine TS.g 87 rfl (fun hg => OpY.move) rfl ?_; refine TS.g 87 rfl (fun hg => OpD.len) rfl ?_; refine TS.g 87 rfl (fun hg => OpY.eql) rfl ?_; refine TS.s OpY.pickAnd rfl ?_; refine TS.s OpY.move rfl ?_; refine TS.g 92 rfl (fun hg => OpY.move) rfl ?_
  obtain ⟨x_11, ex_11, H⟩ := bnd H
  refine TS.g 92 rfl (fun hg => (OpD.index (gb_some ex_11 hg.h))) rfl ?_; refine TS.g 92 rfl (fun hg => OpY.load) rfl ?_; refine TS.g 92 rfl (fun hg => OpY.eql64) rfl ?_; refine TS.s OpY.pickAnd rfl ?_; refine TS.s OpY.move rfl ?_; refine TS.g 98 rfl (fun hg => (OpD.ldq Pl.one)) rfl ?_
  obtain ⟨x_12, ex_12, H⟩ := bnd H
  refine TS.g 98 rfl (fun hg => (OpY.call1 fun w v0 hA h0 => image_Sound_c w v0 hA (toD h0) (gb_some ex_12 hg.h))) rfl ?_; refine TS.s OpY.pickAnd rfl ?_; refine TS.s OpY.move rfl ?_; refine TS.g 102 rfl (fun hg => (OpD.ldq Pl.one)) rfl ?_
  obtain ⟨x_13, ex_13, H⟩ := bnd H
  refine TS.g 102 rfl (fun hg => (OpY.call2 fun w v0 v1 hA h0 h1 => image_Stale_c w v0 v1 hA (toD h0) (toD h1) (gb_some ex_13 hg.h))) rfl ?_; refine TS.g 102 rfl (fun hg => OpD.len) rfl ?_; refine TS.g 102 rfl (fun hg => OpY.eql) rfl ?_; refine TS.s OpY.pickAnd rfl ?_; refine TS.s OpY.assign rfl ?_; refine TS.nil ?_; refine TE.then ?_; refine TC.kp [0] [] ?_; refine TC.ret ?_
  obtain rfl := (Option.some.inj H)
  exact TE.ret1 rfl Cv.le
def bywaylaw21_ImageRight_l1 (x_8 : (List UInt64)) (x_12 : (List UInt64)) (i_14 : Int) : Option (Int ⊕ (Unit ⊕ Bool)) :=
  bif (decide (i_14 < (x_8.length : Int))) then ((idx x_8 i_14).bind fun x_16 => (idx x_12 i_14).bind fun x_17 => bif (decide (x_16 ≠ x_17)) then (some (.inr (.inr false))) else ((addI i_14 (1 : Int)).bind fun x_19 => some (.inl x_19))) else (some (.inr (.inl ())))
def bywaylaw21_ImageRight (c0 : Chip) (id0 : Int) (at0 : (List Int)) : Option Bool :=
  (bywaylaw21_awake).bind fun x_2 => bif (!x_2) then (some false) else ((bywayref06_Short c0).bind fun x_3 => bif ((!x_3) || (decide ((at0.length : Int) > (100 : Int)))) then (some true) else ((image_Count c0).bind fun r_4 => (image_Newest c0 id0).bind fun r_6 => (image_Stale c0 at0).bind fun x_7 => (image_Gens c0).bind fun x_8 => (image_Sound c0).bind fun x_9 => (bywayref06_Right c0).bind fun x_10 => bif (!x_10) then (some (((((((decide (r_4.2 = (1 : Int))) && (decide (r_4.1 = (⟨0, 0, 0, 0, 0⟩ : Tally)))) && (decide (r_6.2 = (1 : Int)))) && (decide (r_6.1 = (0 : Int)))) && (decide ((x_7.length : Int) = (0 : Int)))) && (decide ((x_8.length : Int) = (0 : Int)))) && (!x_9))) else ((bywayref21_Newest c0 id0).bind fun r_11 => (bywayref21_Gens c0).bind fun x_12 => bif (decide ((x_8.length : Int) ≠ (x_12.length : Int))) then (some false) else ((loopO (fun s => bywaylaw21_ImageRight_l1 x_8 x_12 s) (0 : Int)).bind fun o_13 => elS o_13 (fun _ => (gb (decide (r_4.2 = (0 : Int))) (bywayref21_Count c0)).bind fun x_20 => (gb ((((decide (r_4.2 = (0 : Int))) && (decide (r_4.1 = x_20))) && (decide (r_6.1 = r_11.1))) && (decide (r_6.2 = r_11.2))) (bywayref21_Stale c0 at0)).bind fun x_21 => (gb ((((decide (r_4.2 = (0 : Int))) && (decide (r_4.1 = x_20))) && (decide (r_6.1 = r_11.1))) && (decide (r_6.2 = r_11.2))) (bywayref08_Ints x_7 x_21)).bind fun x_22 => (gb (((((decide (r_4.2 = (0 : Int))) && (decide (r_4.1 = x_20))) && (decide (r_6.1 = r_11.1))) && (decide (r_6.2 = r_11.2))) && x_22) (bywayref21_Sound c0)).bind fun x_23 => some ((((((decide (r_4.2 = (0 : Int))) && (decide (r_4.1 = x_20))) && (decide (r_6.1 = r_11.1))) && (decide (r_6.2 = r_11.2))) && x_22) && (decide (x_9 = x_23)))) (fun q => some q)))))
theorem bywaylaw21_ImageRight_c {A : Nat → Prop} {c0 : Chip} {id0 : Int} {at0 : (List Int)}  {r : Bool} (w : World) (v0 v1 v2 : Value) (hA : ∀ k, w.heap.size ≤ k → A k)  (h0 : (D (c0 : Chip)).p A w v0) (h1 : (D (id0 : Int)).p A w v1) (h2 : (D (at0 : (List Int))).p A w v2) (H : bywaylaw21_ImageRight c0 id0 at0 = some r) :
    Calls Try.prog 11 #[v0, v1, v2] w (Ret A w (D (r : Bool))) := by
  unfold bywaylaw21_ImageRight at H
  refine enter3 hA Try.func11 rfl Try.ntmps11 rfl h0 h1 h2 ?_; refine TC.seqS ?_; refine TS.box rfl fun b3_0 => ?_; refine TS.s OpY.assign rfl ?_; refine TS.nil ?_; refine TE.then ?_; refine TC.kp [1, 2, 3] [b3_0] ?_; refine TC.seq ?_; refine TC.seqS ?_
  obtain ⟨x_2, ex_2, H⟩ := bnd H
  refine TS.s (OpY.call0 fun w hA => bywaylaw21_awake_c w hA ex_2) rfl ?_; refine TS.s OpY.notB rfl ?_; refine TS.nil ?_; refine TE.then ?_; refine TC.kp [1, 2, 3, 19] [b3_0] ?_; refine TC.cond (fun hc => ?_) (fun hc => ?_)
  · replace H := cT H hc
    refine TC.seqS ?_; refine TS.s OpY.assign rfl ?_; refine TS.nil ?_; refine TE.then ?_; refine TC.kp [6] [] ?_; refine TC.ret ?_; refine TE.then_ret ?_
    obtain rfl := (Option.some.inj H)
    exact TE.ret1 rfl Cv.le
  · replace H := cF H hc
    refine TC.skip ?_; refine TE.then ?_; refine TC.kp [1, 2, 3] [b3_0] ?_; refine TC.seq ?_; refine TC.seqS ?_; refine TS.s (OpD.ldq Pl.one) rfl ?_
    obtain ⟨x_3, ex_3, H⟩ := bnd H
    refine TS.s (OpY.call1 fun w v0 hA h0 => bywayref06_Short_c w v0 hA (toD h0) ex_3) rfl ?_; refine TS.s OpY.notB rfl ?_; refine TS.s OpY.move rfl ?_; refine TS.g 23 rfl (fun hg => OpY.move) rfl ?_; refine TS.g 23 rfl (fun hg => OpD.len) rfl ?_; refine TS.g 23 rfl (fun hg => OpY.gtr) rfl ?_; refine TS.s OpY.pickOr rfl ?_; refine TS.nil ?_; refine TE.then ?_; refine TC.kp [1, 2, 3, 27] [b3_0] ?_; refine TC.cond (fun hc => ?_) (fun hc => ?_)
    · replace H := cT H hc
      refine TC.seqS ?_; refine TS.s OpY.assign rfl ?_; refine TS.nil ?_; refine TE.then ?_; refine TC.kp [6] [] ?_; refine TC.ret ?_; refine TE.then_ret ?_
      obtain rfl := (Option.some.inj H)
      exact TE.ret1 rfl Cv.le
    · replace H := cF H hc
      refine TC.skip ?_; refine TE.then ?_; refine TC.kp [1, 2, 3] [b3_0] ?_; refine TC.seqS ?_; refine TS.s (OpD.ldq Pl.one) rfl ?_
      obtain ⟨r_4, er_4, H⟩ := bnd H
      refine TS.s (OpY.call1 fun w v0 hA h0 => image_Count_c w v0 hA (toD h0) er_4) rfl ?_; refine TS.s OpY.move rfl ?_; refine TS.s (OpY.extract rfl) rfl ?_; refine TS.s (OpY.extract rfl) rfl ?_; refine TS.alloc (α := Tally) rfl fun b7_4 => ?_; refine TS.un (OpT.storeq (y := (r_4.1 : Tally)) Pl.one) ?_; refine TS.s OpY.assign rfl ?_; refine TS.nil ?_; refine TE.then ?_; refine TC.kp [1, 2, 3, 7, 8] [b3_0, b7_4] ?_; refine TC.seqS ?_; refine TS.s (OpD.ldq Pl.one) rfl ?_; refine TS.s OpY.move rfl ?_
      obtain ⟨r_6, er_6, H⟩ := bnd H
      refine TS.s (OpY.call2 fun w v0 v1 hA h0 h1 => image_Newest_c w v0 v1 hA (toD h0) (toD h1) er_6) rfl ?_; refine TS.s OpY.move rfl ?_; refine TS.s (OpY.extract rfl) rfl ?_; refine TS.s (OpY.extract rfl) rfl ?_; refine TS.s OpY.assign rfl ?_; refine TS.s OpY.assign rfl ?_; refine TS.nil ?_; refine TE.then ?_; refine TC.kp [1, 2, 3, 7, 8, 9, 10] [b3_0, b7_4] ?_; refine TC.seqD0 mix (by kernel_rfl) ?_; refine TR.s (OpD.ldq Pl.one) rfl ?_; refine TR.s OpY.move rfl ?_
      obtain ⟨x_7, ex_7, H⟩ := bnd H
      refine TR.s (OpY.call2 fun w v0 v1 hA h0 h1 => image_Stale_c w v0 v1 hA (toD h0) (toD h1) ex_7) rfl ?_; refine TR.s (OpD.ldq Pl.one) rfl ?_
      obtain ⟨x_8, ex_8, H⟩ := bnd H
      refine TR.s (OpY.call1 fun w v0 hA h0 => image_Gens_c w v0 hA (toD h0) ex_8) rfl ?_; refine TR.s (OpD.ldq Pl.one) rfl ?_
      obtain ⟨x_9, ex_9, H⟩ := bnd H
      refine TR.s (OpY.call1 fun w v0 hA h0 => image_Sound_c w v0 hA (toD h0) ex_9) rfl ?_; refine TR.s OpY.assign rfl ?_; refine TR.s OpY.assign rfl ?_; refine TR.s OpY.assign rfl ?_; refine TR.nil ?_; refine TC.kp [1, 2, 3, 7, 8, 9, 10, 11, 12, 13] [b3_0, b7_4] ?_; refine TC.seq ?_; refine TC.seqS ?_; refine TS.s (OpD.ldq Pl.one) rfl ?_
      obtain ⟨x_10, ex_10, H⟩ := bnd H
      refine TS.s (OpY.call1 fun w v0 hA h0 => bywayref06_Right_c w v0 hA (toD h0) ex_10) rfl ?_; refine TS.s OpY.notB rfl ?_; refine TS.nil ?_; refine TE.then ?_; refine TC.kp [1, 2, 3, 7, 8, 9, 10, 11, 12, 13, 48] [b3_0, b7_4] ?_; refine TC.cond (fun hc => ?_) (fun hc => ?_)
      · replace H := cT H hc
        refine TC.seqS ?_; refine TS.s OpY.move rfl ?_; refine TS.s OpY.eql rfl ?_; refine TS.s OpY.move rfl ?_; refine TS.g 51 rfl (fun hg => (OpD.ldq Pl.one)) rfl ?_; refine TS.g 51 rfl (fun hg => (OpY.buildAs (⟨0, 0, 0, 0, 0⟩ : Tally) rfl ⟨_, Try.underlying91, by kernel_rfl⟩ rfl rfl)) rfl ?_; refine TS.g 51 rfl (fun hg => (OpY.eql_agg EqV_91 (by decide) EqG_91 rfl)) rfl ?_; refine TS.s OpY.pickAnd rfl ?_; refine TS.s OpY.move rfl ?_; refine TS.g 56 rfl (fun hg => OpY.move) rfl ?_; refine TS.g 56 rfl (fun hg => OpY.eql) rfl ?_; refine TS.s OpY.pickAnd rfl ?_; refine TS.s OpY.move rfl ?_; refine TS.g 60 rfl (fun hg => OpY.move) rfl ?_; refine TS.g 60 rfl (fun hg => OpY.eql) rfl ?_; refine TS.s OpY.pickAnd rfl ?_; refine TS.s OpY.move rfl ?_; refine TS.g 64 rfl (fun hg => OpY.move) rfl ?_; refine TS.g 64 rfl (fun hg => OpD.len) rfl ?_; refine TS.g 64 rfl (fun hg => OpY.eql) rfl ?_; refine TS.s OpY.pickAnd rfl ?_; refine TS.s OpY.move rfl ?_; refine TS.g 69 rfl (fun hg => OpY.move) rfl ?_; refine TS.g 69 rfl (fun hg => OpD.len) rfl ?_; refine TS.g 69 rfl (fun hg => OpY.eql) rfl ?_; refine TS.s OpY.pickAnd rfl ?_; refine TS.s OpY.move rfl ?_; refine TS.g 74 rfl (fun hg => OpY.move) rfl ?_; refine TS.g 74 rfl (fun hg => OpY.notB) rfl ?_; refine TS.s OpY.pickAnd rfl ?_; refine TS.s OpY.assign rfl ?_; refine TS.nil ?_; refine TE.then ?_; refine TC.kp [6] [] ?_; refine TC.ret ?_; refine TE.then_ret ?_
        obtain rfl := (Option.some.inj H)
        exact TE.ret1 rfl Cv.le
      · replace H := cF H hc
        refine TC.skip ?_; refine TE.then ?_; refine TC.kp [1, 2, 3, 7, 8, 9, 10, 11, 12, 13] [b3_0, b7_4] ?_; refine TC.seqS ?_; refine TS.s (OpD.ldq Pl.one) rfl ?_; refine TS.s OpY.move rfl ?_
        obtain ⟨r_11, er_11, H⟩ := bnd H
        refine TS.s (OpY.call2 fun w v0 v1 hA h0 h1 => bywayref21_Newest_c w v0 v1 hA (toD h0) (toD h1) er_11) rfl ?_; refine TS.s OpY.move rfl ?_; refine TS.s (OpY.extract rfl) rfl ?_; refine TS.s (OpY.extract rfl) rfl ?_; refine TS.s OpY.assign rfl ?_; refine TS.s OpY.assign rfl ?_; refine TS.nil ?_; refine TE.then ?_; refine TC.kp [2, 3, 7, 8, 9, 10, 11, 12, 13, 14, 15] [b3_0, b7_4] ?_; refine TC.seqS ?_; refine TS.s (OpD.ldq Pl.one) rfl ?_
        obtain ⟨x_12, ex_12, H⟩ := bnd H
        refine TS.s (OpY.call1 fun w v0 hA h0 => bywayref21_Gens_c w v0 hA (toD h0) ex_12) rfl ?_; refine TS.s OpY.assign rfl ?_; refine TS.nil ?_; refine TE.then ?_; refine TC.kp [2, 3, 7, 8, 9, 10, 11, 12, 13, 14, 15, 16] [b3_0, b7_4] ?_; refine TC.seq ?_; refine TC.seqS ?_; refine TS.s OpY.move rfl ?_; refine TS.s OpD.len rfl ?_; refine TS.s OpY.move rfl ?_; refine TS.s OpD.len rfl ?_; refine TS.s OpY.neq rfl ?_; refine TS.nil ?_; refine TE.then ?_; refine TC.kp [2, 3, 7, 8, 9, 10, 11, 12, 13, 14, 15, 16, 90] [b3_0, b7_4] ?_; refine TC.cond (fun hc => ?_) (fun hc => ?_)
        · replace H := cT H hc
          refine TC.seqS ?_; refine TS.s OpY.assign rfl ?_; refine TS.nil ?_; refine TE.then ?_; refine TC.kp [6] [] ?_; refine TC.ret ?_; refine TE.then_ret ?_
          obtain rfl := (Option.some.inj H)
          exact TE.ret1 rfl Cv.le
        · replace H := cF H hc
          refine TC.skip ?_; refine TE.then ?_; refine TC.kp [2, 3, 7, 8, 9, 10, 11, 12, 13, 14, 15, 16] [b3_0, b7_4] ?_; refine TC.seq ?_; refine TC.seqS ?_; refine TS.s OpY.assign rfl ?_; refine TS.nil ?_; refine TE.then ?_; refine TC.kp [2, 3, 7, 8, 9, 10, 11, 12, 13, 14, 15, 16, 17] [b3_0, b7_4] ?_
          obtain ⟨o_13, H13, H⟩ := bnd H
          refine TC.cutP (fun s : Unit => o_13 = .inl s) (fun (_ : Unit) (_ : Unit) => (Env.set (Env.set (Env.set (Env.set (Env.set (Env.set (Env.set (Env.set (Env.set (Env.set Env.nil 2 (D (at0 : (List Int)))) 3 (Pt b3_0 0)) 7 (Pt b7_4 0)) 8 (D (r_4.2 : Int))) 9 (D (r_6.1 : Int))) 10 (D (r_6.2 : Int))) 11 (D (x_7 : (List Int)))) 13 (D (x_9 : Bool))) 14 (D (r_11.1 : Int))) 15 (D (r_11.2 : Int)))) (fun (_ : Unit) (_ : Unit) => [⟨b3_0, True, (One (c0 : Chip))⟩, ⟨b7_4, True, (One (r_4.1 : Tally))⟩]) ?_ ?_
          · skip
            refine TC.block ?_; refine TC.loopP H13 (fun (i_14 : Int) (_ : Unit) => (Env.set (Env.set (Env.set (Env.set (Env.set (Env.set (Env.set (Env.set (Env.set (Env.set (Env.set (Env.set (Env.set Env.nil 2 (D (at0 : (List Int)))) 3 (Pt b3_0 0)) 7 (Pt b7_4 0)) 8 (D (r_4.2 : Int))) 9 (D (r_6.1 : Int))) 10 (D (r_6.2 : Int))) 11 (D (x_7 : (List Int)))) 12 (D (x_8 : (List UInt64)))) 13 (D (x_9 : Bool))) 14 (D (r_11.1 : Int))) 15 (D (r_11.2 : Int))) 16 (D (x_12 : (List UInt64)))) 17 (D (i_14 : Int)))) (fun (i_14 : Int) (_ : Unit) => [⟨b3_0, True, (One (c0 : Chip))⟩, ⟨b7_4, True, (One (r_4.1 : Tally))⟩]) () (Env.cv (Env.cv (Env.cv (Env.cv (Env.cv (Env.cv (Env.cv (Env.cv (Env.cv (Env.cv (Env.cv (Env.cv (Env.cv (Env.le_nil _)))))))))))))) (Less.pk rfl (Less.pk rfl (Less.nil _))) ?_
            rintro i_14 ⟨⟩ x_15 H15 he15
            replace H15 : bywaylaw21_ImageRight_l1 x_8 x_12 i_14 = some x_15 := H15
            unfold bywaylaw21_ImageRight_l1 at H15
            refine TC.seq ?_; refine TC.seqS ?_; refine TS.s OpY.move rfl ?_; refine TS.s OpY.move rfl ?_; refine TS.s OpD.len rfl ?_; refine TS.s OpY.lss rfl ?_; refine TS.nil ?_; refine TE.then ?_; refine TC.kp [2, 3, 7, 8, 9, 10, 11, 12, 13, 14, 15, 16, 17, 94] [b3_0, b7_4] ?_; refine TC.cond (fun hc => ?_) (fun hc => ?_)
            · replace H15 := cT H15 hc
              refine TC.skip ?_; refine TE.then ?_; refine TC.kp [2, 3, 7, 8, 9, 10, 11, 12, 13, 14, 15, 16, 17] [b3_0, b7_4] ?_; refine TC.seq ?_; refine TC.block ?_; refine TC.seqD0 mix (by kernel_rfl) ?_; refine TR.s OpY.move rfl ?_; refine TR.s OpY.move rfl ?_
              obtain ⟨x_16, ex_16, H15⟩ := bnd H15
              refine TR.s (OpD.index ex_16) rfl ?_; refine TR.s OpY.load rfl ?_; refine TR.s OpY.move rfl ?_; refine TR.s OpY.move rfl ?_
              obtain ⟨x_17, ex_17, H15⟩ := bnd H15
              refine TR.s (OpD.index ex_17) rfl ?_; refine TR.s OpY.load rfl ?_; refine TR.s OpY.neq64 rfl ?_; refine TR.nil ?_; refine TC.kp [2, 3, 7, 8, 9, 10, 11, 12, 13, 14, 15, 16, 17, 105] [b3_0, b7_4] ?_; refine TC.cond (fun hc => ?_) (fun hc => ?_)
              · replace H15 := cT H15 hc
                refine TC.seqS ?_; refine TS.s OpY.assign rfl ?_; refine TS.nil ?_; refine TE.then ?_; refine TC.kp [6] [] ?_; refine TC.ret ?_; refine TE.inBlock_ret ?_; refine TE.then_ret ?_; refine TE.then_ret ?_; refine TE.inBlock_ret ?_; refine TE.cut_ret ?_
                have R17 := elS_r (he15 _ (Option.some.inj H15).symm) H
                refine TE.then_ret ?_
                obtain rfl := (Option.some.inj R17)
                exact TE.ret1 rfl Cv.le
              · replace H15 := cF H15 hc
                refine TC.skip ?_; refine TE.inBlock_normal ?_; refine TE.then ?_; refine TC.kp [2, 3, 7, 8, 9, 10, 11, 12, 13, 14, 15, 16, 17] [b3_0, b7_4] ?_; refine TC.regionS ?_; refine TS.s OpY.move rfl ?_
                obtain ⟨x_19, ex_19, H15⟩ := bnd H15
                refine TS.s (OpD.add ex_19) rfl ?_; refine TS.s OpY.assign rfl ?_; refine TS.nil ?_; refine TE.kp [2, 3, 7, 8, 9, 10, 11, 12, 13, 14, 15, 16, 17] [b3_0, b7_4] ?_; exact TE.backP x_19 () (Option.some.inj H15).symm (Env.cv (Env.cv (Env.cv (Env.cv (Env.cv (Env.cv (Env.cv (Env.cv (Env.cv (Env.cv (Env.cv (Env.cv (Env.cv (Env.le_nil _)))))))))))))) (Less.pk rfl (Less.pk rfl (Less.nil _)))
            · replace H15 := cF H15 hc
              refine TC.exit ?_; refine TE.then_exit ?_; refine TE.then_exit ?_; refine TE.inBlock_here ?_; exact TE.cutP () () (he15 _ (Option.some.inj H15).symm).symm (Env.cv (Env.cv (Env.cv (Env.cv (Env.cv (Env.cv (Env.cv (Env.cv (Env.cv (Env.cv (Env.le_nil _))))))))))) (Less.pk rfl (Less.pk rfl (Less.nil _)))
          rintro ⟨⟩ ⟨⟩ hp
          replace H := elS_l hp H
          refine TE.then ?_; refine TC.kp [2, 3, 7, 8, 9, 10, 11, 13, 14, 15] [b3_0, b7_4] ?_; refine TC.seqD0 mix (by kernel_rfl) ?_; refine TR.s OpY.move rfl ?_; refine TR.s OpY.eql rfl ?_; refine TR.s OpY.move rfl ?_; refine TR.g 108 rfl (fun hg => (OpD.ldq Pl.one)) rfl ?_; refine TR.g 108 rfl (fun hg => (OpD.ldq Pl.one)) rfl ?_
          obtain ⟨x_20, ex_20, H⟩ := bnd H
          refine TR.g 108 rfl (fun hg => (OpY.call1 fun w v0 hA h0 => bywayref21_Count_c w v0 hA (toD h0) (gb_some ex_20 hg.h))) rfl ?_; refine TR.g 108 rfl (fun hg => (OpY.eql_agg EqV_91 (by decide) EqG_91 rfl)) rfl ?_; refine TR.s OpY.pickAnd rfl ?_; refine TR.s OpY.move rfl ?_; refine TR.g 114 rfl (fun hg => OpY.move) rfl ?_; refine TR.g 114 rfl (fun hg => OpY.move) rfl ?_; refine TR.g 114 rfl (fun hg => OpY.eql) rfl ?_; refine TR.s OpY.pickAnd rfl ?_; refine TR.s OpY.move rfl ?_; refine TR.g 119 rfl (fun hg => OpY.move) rfl ?_; refine TR.g 119 rfl (fun hg => OpY.move) rfl ?_; refine TR.g 119 rfl (fun hg => OpY.eql) rfl ?_; refine TR.s OpY.pickAnd rfl ?_; refine TR.s OpY.move rfl ?_; refine TR.g 124 rfl (fun hg => OpY.move) rfl ?_; refine TR.g 124 rfl (fun hg => (OpD.ldq Pl.one)) rfl ?_; refine TR.g 124 rfl (fun hg => OpY.move) rfl ?_
          obtain ⟨x_21, ex_21, H⟩ := bnd H
          refine TR.g 124 rfl (fun hg => (OpY.call2 fun w v0 v1 hA h0 h1 => bywayref21_Stale_c w v0 v1 hA (toD h0) (toD h1) (gb_some ex_21 hg.h))) rfl ?_
          obtain ⟨x_22, ex_22, H⟩ := bnd H
          refine TR.g 124 rfl (fun hg => (OpY.call2 fun w v0 v1 hA h0 h1 => bywayref08_Ints_c w v0 v1 hA (toD h0) (toD h1) (gb_some ex_22 hg.h))) rfl ?_; refine TR.s OpY.pickAnd rfl ?_; refine TR.s OpY.move rfl ?_; refine TR.g 131 rfl (fun hg => OpY.move) rfl ?_; refine TR.g 131 rfl (fun hg => (OpD.ldq Pl.one)) rfl ?_
          obtain ⟨x_23, ex_23, H⟩ := bnd H
          refine TR.g 131 rfl (fun hg => (OpY.call1 fun w v0 hA h0 => bywayref21_Sound_c w v0 hA (toD h0) (gb_some ex_23 hg.h))) rfl ?_; refine TR.g 131 rfl (fun hg => (OpY.eql_bool Try.underlying4)) rfl ?_; refine TR.s OpY.pickAnd rfl ?_; refine TR.s OpY.assign rfl ?_; refine TR.nil ?_; refine TC.kp [6] [] ?_; refine TC.ret ?_
          obtain rfl := (Option.some.inj H)
          exact TE.ret1 rfl Cv.le
end Go.Proofs.Ytefmfhbkihplgaa.Tr
namespace Go.Proofs.Ytefmfhbkihplgaa.Tr
open Go
theorem sum_On_eq (s : UInt32) (b : List UInt8) (hb : b.length ≤ 1000000) : sum_On s b = some (crcOn s b) := by
  unfold sum_On
  refine (bind_of (loopO_iter (fun i => (crcBytes (~~~s) (b.take i), (i : Int))) b.length (e := crcBytes (~~~s) b) (by omega) (fun i hi => ?_) ?_ rfl)).trans ?_
  rotate_right
  · rfl
  · unfold sum_On_l1
    dsimp only
    rw [lt_t hi, cond_t, idx_nat hi, bind_s]
    refine (bind_of (loopO_iter (fun k => (crcBits k (crcBytes (~~~s) (b.take i) ^^^ b[i].toUInt32), (k : Int))) 8 (e := crcBytes (~~~s) (b.take (i + 1))) (by omega) (fun k hk => ?_) ?_ rfl)).trans ?_
    rotate_right
    · rw [addI_1 (by omega), bind_s]
    · unfold sum_On_l2
      dsimp only
      rw [show decide ((k : Int) < (8 : Int)) = true by simp; omega, cond_t, bind_s, bind_s, addI_1 (by omega), bind_s]
      rfl
    · unfold sum_On_l2
      dsimp only
      rw [show decide (((8 : Nat) : Int) < (8 : Int)) = false by decide, cond_f, crc_step8 hi rfl]
  · unfold sum_On_l1
    dsimp only
    rw [lt_f, cond_f, List.take_length]
theorem sum_Of_eq (b : List UInt8) (hb : b.length ≤ 1000000) : sum_Of b = some (crcOn 0 b) := by
  unfold sum_Of
  rw [show (UInt32.ofNat 0) = 0 from rfl, sum_On_eq 0 b hb, bind_s]
theorem sum_Get_eq (b : List UInt8) (hb : b.length ≤ 1000000) : sum_Get b = some (getNum b) := by
  unfold sum_Get
  refine (bind_of (loopO_iter (fun i => (getNum (b.take i), (i : Int))) b.length (e := getNum b) (by omega) (fun i hi => ?_) ?_ rfl)).trans ?_
  rotate_right
  · rfl
  · unfold sum_Get_l1
    dsimp only
    rw [lt_t hi, cond_t, idx_nat hi, bind_s, bind_s, addI_1 (by omega), bind_s, ← getNum_step hi]
    rfl
  · unfold sum_Get_l1
    dsimp only
    rw [lt_f, cond_f, List.take_length]
theorem ref_Of_eq (b : List UInt8) (hb : b.length ≤ 1000000) : bywayref05_Of b = some (crcOn 0 b) := by
  unfold bywayref05_Of
  have e0 : UInt32.ofNat 4294967295 = ~~~(0 : UInt32) := by decide
  refine (bind_of (loopO_iter (fun i => (crcBytes (~~~0) (b.take i), (i : Int))) b.length (e := crcBytes (~~~0) b) (by omega) (fun i hi => ?_) ?_ (by rw [e0]; rfl))).trans ?_
  rotate_right
  · rw [crc_refEnd]; rfl
  · unfold bywayref05_Of_l1
    dsimp only
    rw [lt_t hi, cond_t, idx_nat hi, bind_s]
    refine (bind_of (loopO_iter (fun k => (crcBits k (crcBytes (~~~0) (b.take i) ^^^ b[i].toUInt32), (k : Int))) 8 (e := crcBytes (~~~0) (b.take (i + 1))) (by omega) (fun k hk => ?_) ?_ rfl)).trans ?_
    rotate_right
    · rw [addI_1 (by omega), bind_s]
    · unfold bywayref05_Of_l2
      dsimp only
      rw [show decide ((k : Int) < (8 : Int)) = true by simp; omega, cond_t, bind_s]
      by_cases ho : crcBits k (crcBytes (~~~0) (b.take i) ^^^ b[i].toUInt32) % UInt32.ofNat 2 = UInt32.ofNat 1
      · rw [cond_true (by simpa using ho), bind_s, bind_s, addI_1 (by omega), bind_s, crc_ref1 ho]
      · rw [cond_false (by simpa using ho), bind_s, addI_1 (by omega), bind_s, crc_ref0 ho]
    · unfold bywayref05_Of_l2
      dsimp only
      rw [show decide (((8 : Nat) : Int) < (8 : Int)) = false by decide, cond_f, crc_step8 hi rfl]
  · unfold bywayref05_Of_l1
    dsimp only
    rw [lt_f, cond_f, List.take_length]
theorem ref_Get_eq (b : List UInt8) (hb : b.length ≤ 1000000) : bywayref05_Get b = some (getNum b) := by
  unfold bywayref05_Get
  refine (bind_of (loopO_iter (fun i => (getNum (b.take i), (i : Int))) b.length (e := getNum b) (by omega) (fun i hi => ?_) ?_ rfl)).trans ?_
  rotate_right
  · rfl
  · unfold bywayref05_Get_l1
    dsimp only
    rw [lt_t hi, cond_t, idx_nat hi, bind_s, bind_s, addI_1 (by omega), bind_s, getNum_ref hi]
  · unfold bywayref05_Get_l1
    dsimp only
    rw [lt_f, cond_f, List.take_length]
theorem ref_Put_eq (n : UInt64) (m : Int) : bywayref05_Put n m = some (putOf n m) := by
  unfold bywayref05_Put
  by_cases h : 1 ≤ m ∧ m ≤ 8
  · obtain ⟨k, rfl⟩ := Int.eq_ofNat_of_zero_le (show 0 ≤ m by omega)
    have hk : 1 ≤ k ∧ k ≤ 8 := by omega
    rw [cond_false (by simp; omega)]
    refine (bind_of (loopO_iter (fun i => (shrBy n i, putNum n i, (i : Int))) k (e := putOf n k) (by omega) (fun i hi => ?_) ?_ (by rw [shrBy_zero]; rfl))).trans ?_
    rotate_right
    · rfl
    · unfold bywayref05_Put_l1
      dsimp only
      rw [lt_t hi, cond_t, room_ok (by omega) (by simp [putNum_length]; omega) (by simp [putNum_length]; omega), bind_s, bind_s, bind_s, addI_1 (by omega), bind_s, putRef_step, shrBy_step]
    · unfold bywayref05_Put_l1
      dsimp only
      rw [lt_f, cond_f, putOf_some (by omega) (by omega), Int.toNat_natCast]
  · rw [cond_true (by simp; omega), putOf_none (by omega)]
theorem ref_Sealed_eq (b : List UInt8) (hb : b.length ≤ 1000000) : bywayref05_Sealed b = some (sealed b) := by
  unfold bywayref05_Sealed
  have h1 := putOf_le (crcOn 0 b).toUInt64 4
  rw [room_ok (by omega) (by simp; omega) (by simp; omega), bind_s, ref_Of_eq b hb, bind_s, ref_Put_eq, bind_s, room_ok (by omega) (by simp; omega) (by simp; omega), bind_s, bind_s]
  rfl
theorem ref_Open_eq (b : List UInt8) (hb : b.length ≤ 1000000) : bywayref05_Open b = some (openOf b) := by
  unfold bywayref05_Open
  by_cases h : b.length < 4
  · rw [cond_true (by simp; omega)]
    unfold openOf; rw [if_pos h]
  · rw [cond_false (by simp; omega), subI_ok (by omega) (by omega), bind_s, cut_ok (by omega) (by omega) (by omega), bind_s, ref_Sealed_eq _ (by simp; omega), bind_s]
    by_cases h2 : sealed (b.take ((b.length : Int) - 4).toNat) ≠ b
    · rw [cond_true (by simpa using h2)]
      obtain ⟨e1, e2⟩ := openOf_ref1 h h2
      rw [show openOf b = ((openOf b).1, (openOf b).2) from rfl, e1, e2]
    · rw [cond_false (by simpa using h2), bind_s, cut_ok (by omega) (by omega) (by omega), bind_s]
      obtain ⟨e1, e2⟩ := openOf_ref0 h h2
      rw [show openOf b = ((openOf b).1, (openOf b).2) from rfl, e1, e2]
end Go.Proofs.Ytefmfhbkihplgaa.Tr
namespace Go.Proofs.Ytefmfhbkihplgaa.Tr
open Go
def PFits (s : Int) : Prop := 24 ≤ s ∧ s ≤ 256
instance {s : Int} : Decidable (PFits s) := by unfold PFits; exact inferInstance
def PMay (p : Page) (s : Int) : Prop := PFits s ∧ (p.Kind = 1 ∨ p.Kind = 2) ∧ 0 ≤ p.Id ∧ p.Id < 64 ∧ p.Gen < UInt64.ofNat 281474976710656 ∧ (p.Body.length : Int) ≤ s - 16
instance {p : Page} {s : Int} : Decidable (PMay p s) := by unfold PMay; exact inferInstance
theorem page_fits_eq (s : Int) : page_fits s = some (decide (PFits s)) := by
  unfold page_fits
  congr 1
  rw [Bool.eq_iff_iff]
  simp only [Bool.and_eq_true, decide_eq_true_eq, ge_iff_le]
  rfl
theorem and_gb {c : Bool} {r d : Int} {P : Int → Bool} : (c && P (bif c then r else d)) = (c && P r) := by cases c <;> rfl
def RoomOf (s : Int) : Int := if PFits s then s - 16 else 0
theorem page_Room_eq (s : Int) : page_Room s = some (RoomOf s) := by
  unfold page_Room RoomOf
  rw [page_fits_eq, bind_s]
  by_cases h : PFits s
  · have h2 := h; unfold PFits at h2
    rw [cond_false (by simp [h]), subI_ok (by omega) (by omega), bind_s, if_pos h]
  · rw [cond_true (by simp [h]), if_neg h]
theorem page_May_eq (p : Page) (s : Int) : page_May p s = some (decide (PMay p s)) := by
  unfold page_May
  rw [page_fits_eq, bind_s, gb_of2 (page_Room_eq s), bind_s, and_gb (P := fun r => decide ((p.Body.length : Int) ≤ r))]
  congr 1
  rw [Bool.eq_iff_iff]
  simp only [Bool.and_eq_true, Bool.or_eq_true, decide_eq_true_eq]
  unfold PMay RoomOf
  constructor
  · rintro ⟨⟨⟨⟨⟨h1, h2⟩, h3⟩, h4⟩, h5⟩, h6⟩
    rw [if_pos h1] at h6
    exact ⟨h1, h2, h3, h4, h5, h6⟩
  · rintro ⟨h1, h2, h3, h4, h5, h6⟩
    rw [if_pos h1]
    exact ⟨⟨⟨⟨⟨h1, h2⟩, h3⟩, h4⟩, h5⟩, h6⟩
theorem blank_loop {f : Int → Option (Int ⊕ (Unit ⊕ Bool))} {b : List UInt8} (hb : b.length ≤ 1000000000000000)
    (h1 : ∀ i, (hi : i < b.length) → b[i] ≠ 255 → f (i : Int) = some (.inr (.inr false))) (h2 : ∀ i, (hi : i < b.length) → b[i] = 255 → f (i : Int) = some (.inl ((i + 1 : Nat) : Int))) (h3 : f (b.length : Int) = some (.inr (.inl ()))) :
    ((loopO f (0 : Int)).bind fun o => elS o (fun _ => some true) (fun q => some q)) = some (decide (∀ x ∈ b, x = 255)) := by
  rcases loopO_find (f := f) (fun i => (i : Int)) b.length (fun i => decide (b.getD i 255 ≠ 255)) (fun _ => .inr false) (y := .inl ()) (by omega)
    (fun i hi hp => h2 i hi (by simpa [List.getD_eq_getElem?_getD, List.getElem?_eq_getElem hi] using hp))
    (fun i hi hp => h1 i hi (by simpa [List.getD_eq_getElem?_getD, List.getElem?_eq_getElem hi] using hp)) h3 (s := (0 : Int)) rfl with ⟨i, hi, hp, -, e⟩ | ⟨hall, e⟩
  · rw [e, bind_s, elS_inr]
    congr 1
    symm
    simp only [decide_eq_false_iff_not]
    intro h
    have := h _ (List.getElem_mem hi)
    simp [List.getD_eq_getElem?_getD, List.getElem?_eq_getElem hi, this] at hp
  · rw [e, bind_s, elS_inl]
    congr 1
    symm
    simp only [decide_eq_true_eq]
    intro x hx
    obtain ⟨j, hj, rfl⟩ := List.getElem_of_mem hx
    have := hall j hj
    simpa [List.getD_eq_getElem?_getD, List.getElem?_eq_getElem hj] using this
theorem page_Blank_eq (b : List UInt8) (hb : b.length ≤ 1000000000000000) : page_Blank b = some (decide (∀ x ∈ b, x = 255)) := by
  unfold page_Blank
  refine blank_loop hb (fun i hi hx => ?_) (fun i hi hx => ?_) ?_ <;> unfold page_Blank_l1
  · rw [lt_t hi, cond_t, idx_nat hi, bind_s, cond_true (by simpa using hx)]
  · rw [lt_t hi, cond_t, idx_nat hi, bind_s, cond_false (by simpa using hx), addI_1 (by omega), bind_s]
  · rw [lt_f, cond_f]
theorem ref_Blank_eq (b : List UInt8) (hb : b.length ≤ 1000000000000000) : bywayref07_Blank b = some (decide (∀ x ∈ b, x = 255)) := by
  unfold bywayref07_Blank
  refine blank_loop hb (fun i hi hx => ?_) (fun i hi hx => ?_) ?_ <;> unfold bywayref07_Blank_l1
  · rw [lt_t hi, cond_t, idx_nat hi, bind_s, cond_true (by simpa using hx)]
  · rw [lt_t hi, cond_t, idx_nat hi, bind_s, cond_false (by simpa using hx), addI_1 (by omega), bind_s]
  · rw [lt_f, cond_f]
def pHead (p : Page) : List UInt8 := [UInt8.ofInt p.Kind, UInt8.ofInt p.Id] ++ putNum p.Gen 6 ++ putNum (UInt64.ofNat p.Body.length) 2
def pInner (p : Page) (n : Nat) : List UInt8 := pHead p ++ p.Body ++ List.replicate (n - 14 - p.Body.length) 0
end Go.Proofs.Ytefmfhbkihplgaa.Tr
namespace Go.Proofs.Ytefmfhbkihplgaa.Tr
open Go
def Page0 : Page := ⟨0, 0, 0, []⟩
def pMany (b : List UInt8) : Nat := (getNum ((b.take 10).drop 8)).toNat
def pOf (b : List UInt8) : Page := ⟨((b.getD 0 0).toNat : Int), ((b.getD 1 0).toNat : Int), getNum ((b.take 8).drop 2), (b.take (10 + pMany b)).drop 10⟩
def PForm (b : List UInt8) : Prop := (b.getD 0 0 = 1 ∨ b.getD 0 0 = 2) ∧ (b.getD 1 0).toNat < 64 ∧ 16 + pMany b ≤ b.length ∧ ∀ x ∈ (b.take (b.length - 4)).drop (10 + pMany b), x = 0
instance {b : List UInt8} : Decidable (PForm b) := by unfold PForm; exact inferInstance
def PSum (b : List UInt8) : Prop := getNum (b.drop (b.length - 4)) = (crcOn 0 (b.take (b.length - 4))).toUInt64
instance {b : List UInt8} : Decidable (PSum b) := by unfold PSum; exact inferInstance
def ReadV (b : List UInt8) : Page × Int :=
  if ¬ PFits b.length then (Page0, 3) else if ∀ x ∈ b, x = 255 then (Page0, 0) else if ¬ PSum b then (Page0, 4) else if ¬ PForm b then (Page0, 2) else (pOf b, 0)
theorem two_num (b : List UInt8) (h : 10 ≤ b.length) : pMany b = 256 * (b.getD 8 0).toNat + (b.getD 9 0).toNat := by
  unfold pMany
  have e : (b.take 10).drop 8 = [b.getD 8 0, b.getD 9 0] := by
    have h8 : 8 < b.length := by omega
    have h9 : 9 < b.length := by omega
    rw [List.getD_eq_getElem?_getD, List.getD_eq_getElem?_getD, List.getElem?_eq_getElem h8, List.getElem?_eq_getElem h9]
    apply List.ext_getElem
    · simp; omega
    · intro j h1 h2
      simp at h2
      rcases (by omega : j = 0 ∨ j = 1) with rfl | rfl
      · simp
      · simp
  rw [e, getNum_nat]
  unfold natNum
  simp only [List.foldl_cons, List.foldl_nil]
  have h1 := (b.getD 8 0).toNat_lt
  have h2 := (b.getD 9 0).toNat_lt
  omega
theorem pMany_lt (b : List UInt8) : pMany b < 65536 := by
  unfold pMany
  rw [getNum_nat]
  have h := natNum_lt ((b.take 10).drop 8)
  have h2 : ((b.take 10).drop 8).length ≤ 2 := by simp; omega
  have h3 : 256 ^ ((b.take 10).drop 8).length ≤ 256 ^ 2 := Nat.pow_le_pow_right (by omega) h2
  omega
theorem gen_lt (b : List UInt8) : getNum ((b.take 8).drop 2) < UInt64.ofNat 281474976710656 := by
  rw [UInt64.lt_iff_toNat_lt, getNum_nat]
  have h := natNum_lt ((b.take 8).drop 2)
  have h2 : ((b.take 8).drop 2).length ≤ 6 := by simp; omega
  have h3 : 256 ^ ((b.take 8).drop 2).length ≤ 256 ^ 6 := Nat.pow_le_pow_right (by omega) h2
  have h4 : (UInt64.ofNat 281474976710656).toNat = 281474976710656 := by decide
  omega
theorem zeros_loop {f : Int → Option (Int ⊕ (Unit ⊕ (Page × Int)))} {c : List UInt8} {k : Nat} {y : Page × Int} (hc : c.length ≤ 1000000)
    (h1 : ∀ i, (hi : i < c.length) → c[i] ≠ 0 → f ((k + i : Nat) : Int) = some (.inr (.inr y))) (h2 : ∀ i, (hi : i < c.length) → c[i] = 0 → f ((k + i : Nat) : Int) = some (.inl ((k + (i + 1) : Nat) : Int))) (h3 : f ((k + c.length : Nat) : Int) = some (.inr (.inl ()))) :
    ((∀ x ∈ c, x = 0) ∧ loopO f (k : Int) = some (.inl ())) ∨ ((¬ ∀ x ∈ c, x = 0) ∧ loopO f (k : Int) = some (.inr y)) := by
  rcases loopO_find (f := f) (fun i => ((k + i : Nat) : Int)) c.length (fun i => decide (c.getD i 0 ≠ 0)) (fun _ => .inr y) (y := .inl ()) (by omega)
    (fun i hi hp => h2 i hi (by simpa [List.getD_eq_getElem?_getD, List.getElem?_eq_getElem hi] using hp))
    (fun i hi hp => h1 i hi (by simpa [List.getD_eq_getElem?_getD, List.getElem?_eq_getElem hi] using hp)) h3 (s := (k : Int)) rfl with ⟨i, hi, hp, -, e⟩ | ⟨hall, e⟩
  · refine .inr ⟨fun h => ?_, e⟩
    have := h _ (List.getElem_mem hi)
    simp [List.getD_eq_getElem?_getD, List.getElem?_eq_getElem hi, this] at hp
  · refine .inl ⟨fun x hx => ?_, e⟩
    obtain ⟨j, hj, rfl⟩ := List.getElem_of_mem hx
    have := hall j hj
    simpa [List.getD_eq_getElem?_getD, List.getElem?_eq_getElem hj] using this
theorem getD_of {b : List UInt8} {i : Nat} (h : i < b.length) : b.getD i 0 = b[i] := by rw [List.getD_eq_getElem?_getD, List.getElem?_eq_getElem h]; rfl
theorem idx_D {b : List UInt8} {i : Nat} {k : Int} (hk : k = i) (h : i < b.length) : idx b k = some (b.getD i 0) := by subst hk; rw [idx_nat h, getD_of h]
theorem u8_kind (x : UInt8) : ((x.toNat : Int) = 1 ↔ x = 1) ∧ ((x.toNat : Int) = 2 ↔ x = 2) := by
  constructor
  · rw [← UInt8.toNat_inj]; show _ ↔ x.toNat = 1; omega
  · rw [← UInt8.toNat_inj]; show _ ↔ x.toNat = 2; omega
theorem page_Read_eq (b : List UInt8) (hb : b.length ≤ 1000000) : page_Read b = some (ReadV b) := by
  unfold page_Read ReadV
  rw [page_fits_eq, bind_s]
  by_cases h1 : PFits b.length
  · have h1' := h1; unfold PFits at h1'
    rw [cond_false (by simp [h1]), if_neg (by simp [h1]), page_Blank_eq b (by omega), bind_s]
    by_cases h2 : ∀ x ∈ b, x = 255
    · rw [cond_true (by simpa using h2), if_pos h2, bind_s]; rfl
    · rw [cond_false (by simpa using h2), if_neg h2, subI_ok (by omega) (by omega), bind_s, cut_ok (by omega) (by omega) (by omega), bind_s, bind_s, cut_ok (by omega) (by omega) (by omega), bind_s, bind_s, bind_s,
        sum_Get_eq _ (by simp; omega), bind_s, sum_Of_eq _ (by simp; omega), bind_s]
      rw [show ((b.length : Int) - 4).toNat = b.length - 4 by omega]
      by_cases h3 : PSum b
      · rw [cond_false (by unfold PSum at h3; simpa using h3), if_neg (by simp [h3]), idx_D (b := b) (i := 0) (k := 0) rfl (by omega), bind_s, idx_D (b := b) (i := 1) (k := 1) rfl (by omega), bind_s, cut_ok (by omega) (by omega) (by omega), bind_s, sum_Get_eq _ (by simp; omega), bind_s, bind_s,
          cut_ok (by omega) (by omega) (by omega), bind_s, sum_Get_eq _ (by simp; omega), bind_s]
        have hm := pMany_lt b
        have e0 : ((getNum ((b.take (Int.toNat 10)).drop (Int.toNat 8))).toNat : Int) = (pMany b : Int) := rfl
        rw [e0, ok64_ok (by omega) (by omega), bind_s, page_Room_eq, bind_s, gb_of2 (page_May_eq _ _), bind_s]
        have hr : RoomOf b.length = b.length - 16 := by unfold RoomOf; rw [if_pos h1]
        rw [hr]
        by_cases h4 : (b.getD 0 0 = 1 ∨ b.getD 0 0 = 2) ∧ (b.getD 1 0).toNat < 64 ∧ 16 + pMany b ≤ b.length
        · obtain ⟨g1, g2, g3⟩ := h4
          have hmay : PMay ⟨((b.getD 0 0).toNat : Int), ((b.getD 1 0).toNat : Int), getNum ((b.take (Int.toNat 8)).drop (Int.toNat 2)), []⟩ b.length := by
            refine ⟨h1, ?_, by dsimp only; omega, by dsimp only; omega, gen_lt b, by simp; omega⟩
            rcases g1 with g | g
            · exact .inl ((u8_kind _).1.2 g)
            · exact .inr ((u8_kind _).2.2 g)
          have d0 : decide ((pMany b : Int) > (b.length : Int) - 16) = false := by simp; omega
          rw [d0, decide_eq_true hmay]
          rw [show ((false || !bif !false then true else default) : Bool) = false from rfl, cond_f, addI_ok (by omega) (by omega), bind_s, cut_ok (by omega) (by simp; omega) (by simp), bind_s]
          have hz := zeros_loop (f := fun s => page_Read_l1 (b.take (b.length - 4)) (10 + (pMany b : Int)) s) (c := (b.take (b.length - 4)).drop (10 + pMany b)) (k := 0) (y := (Page0, 2)) (by simp; omega) (fun i hi hx => by
              unfold page_Read_l1
              rw [show (10 + (pMany b : Int)).toNat = 10 + pMany b by omega, Nat.zero_add, lt_t hi, cond_t, idx_nat hi, bind_s, cond_true (by simpa using hx), bind_s]; rfl) (fun i hi hx => by
              unfold page_Read_l1
              rw [show (10 + (pMany b : Int)).toNat = 10 + pMany b by omega, Nat.zero_add, Nat.zero_add, lt_t hi, cond_t, idx_nat hi, bind_s, cond_false (by simpa using hx), addI_1 (by simp at hi; omega), bind_s]) (by
              unfold page_Read_l1
              rw [show (10 + (pMany b : Int)).toNat = 10 + pMany b by omega, Nat.zero_add, lt_f, cond_f])
          rcases hz with ⟨z1, z2⟩ | ⟨z1, z2⟩
          · rw [show ((0 : Int)) = ((0 : Nat) : Int) from rfl, z2, bind_s, elS_inl, if_neg (by rw [Decidable.not_not]; exact ⟨g1, g2, g3, z1⟩)]
            by_cases hp : pMany b = 0
            · rw [cond_false (by simp [hp]), bind_s]
              congr 2
              unfold pOf
              rw [hp]
              simp
            · rw [cond_true (by simp; omega), bind_s, cut_ok (by omega) (by omega) (by omega), bind_s]
              unfold slices_Clone_byte
              rw [room_ok (by omega) (by simp; omega) (by simp; omega), bind_s, bind_s, bind_s, bind_s]
              rw [show (10 + (pMany b : Int)).toNat = 10 + pMany b by omega]
              rfl
          · rw [show ((0 : Int)) = ((0 : Nat) : Int) from rfl, z2, bind_s, elS_inr, if_pos (fun h => z1 h.2.2.2)]
        · have hnm : (decide ((pMany b : Int) > (b.length : Int) - 16) || !(bif !(decide ((pMany b : Int) > (b.length : Int) - 16)) then decide (PMay ⟨((b.getD 0 0).toNat : Int), ((b.getD 1 0).toNat : Int), getNum ((b.take (Int.toNat 8)).drop (Int.toNat 2)), []⟩ b.length) else default)) = true := by
            by_cases g3 : (pMany b : Int) > (b.length : Int) - 16
            · simp [g3]
            · rw [decide_eq_false g3]
              have : ¬ PMay ⟨((b.getD 0 0).toNat : Int), ((b.getD 1 0).toNat : Int), getNum ((b.take (Int.toNat 8)).drop (Int.toNat 2)), []⟩ b.length := fun hp => h4 (by
                obtain ⟨q1, q2, q3, q4, q5, q6⟩ := hp
                dsimp only at q2 q3 q4
                refine ⟨?_, by omega, by omega⟩
                rcases q2 with q | q
                · exact .inl ((u8_kind _).1.1 q)
                · exact .inr ((u8_kind _).2.1 q))
              rw [decide_eq_false this]; rfl
          rw [hnm, cond_t, bind_s, if_pos (fun h => h4 ⟨h.1, h.2.1, h.2.2.1⟩)]; rfl
      · rw [cond_true (by unfold PSum at h3; simpa using h3), bind_s, if_pos h3]; rfl
  · rw [cond_true (by simp [h1]), if_pos h1, bind_s]; rfl
theorem openOf_sum2 {b : List UInt8} (h : 4 ≤ b.length) : (openOf b).2 = if PSum b then 0 else 4 := by
  unfold openOf
  rw [if_neg (by omega)]
  by_cases h2 : PSum b
  · have h3 := h2; unfold PSum at h3
    rw [if_pos h2, if_neg (by rw [h3]; simp)]
  · have h3 := h2; unfold PSum at h3
    rw [if_neg h2, if_pos (fun e => h3 e.symm)]
theorem ref_cond (b0 b1 : UInt8) (m r : Int) : ((((decide (b0 ≠ (UInt8.ofNat 1))) && (decide ((bif decide (b0 ≠ (UInt8.ofNat 1)) then b0 else default) ≠ (UInt8.ofNat 2)))) || (decide ((UInt8.ofNat 63) < (bif !((decide (b0 ≠ (UInt8.ofNat 1))) && (decide ((bif decide (b0 ≠ (UInt8.ofNat 1)) then b0 else default) ≠ (UInt8.ofNat 2)))) then b1 else default)))) ||
    (decide (m > (bif !(((decide (b0 ≠ (UInt8.ofNat 1))) && (decide ((bif decide (b0 ≠ (UInt8.ofNat 1)) then b0 else default) ≠ (UInt8.ofNat 2)))) || (decide ((UInt8.ofNat 63) < (bif !((decide (b0 ≠ (UInt8.ofNat 1))) && (decide ((bif decide (b0 ≠ (UInt8.ofNat 1)) then b0 else default) ≠ (UInt8.ofNat 2)))) then b1 else default)))) then r else default)))) =
    !decide ((b0 = 1 ∨ b0 = 2) ∧ b1.toNat < 64 ∧ m ≤ r) := by
  have e1 : (UInt8.ofNat 1) = 1 := rfl
  have e2 : (UInt8.ofNat 2) = 2 := rfl
  have e3 : decide (UInt8.ofNat 63 < b1) = !decide (b1.toNat < 64) := by
    rw [Bool.eq_iff_iff]
    simp only [decide_eq_true_eq, Bool.not_eq_true', decide_eq_false_iff_not, UInt8.lt_iff_toNat_lt]
    show 63 < b1.toNat ↔ _
    omega
  rw [e1, e2]
  by_cases h1 : b0 = 1
  · subst h1
    simp only [ne_eq, not_true_eq_false, decide_false, Bool.false_and, Bool.not_false, cond_t, Bool.false_or, e3]
    by_cases h2 : b1.toNat < 64
    · simp [h2]
      rw [Bool.eq_iff_iff]; simp
    · simp [h2]
  · by_cases h3 : b0 = 2
    · subst h3
      simp only [ne_eq, h1, not_false_eq_true, decide_true, Bool.true_and, not_true_eq_false, decide_false, cond_t, Bool.not_false, Bool.false_or, e3]
      by_cases h2 : b1.toNat < 64
      · simp [h2]
        rw [Bool.eq_iff_iff]; simp
      · simp [h2]
    · simp [h1, h3]
theorem ref_Read_eq (b : List UInt8) (hb : b.length ≤ 1000000) : bywayref07_Read b = some (ReadV b) := by
  unfold bywayref07_Read ReadV
  rw [bind_s]
  by_cases h1 : PFits b.length
  · have h1' := h1; unfold PFits at h1'
    rw [cond_false (by simp; omega), if_neg (by simp [h1]), ref_Blank_eq b (by omega), bind_s]
    by_cases h2 : ∀ x ∈ b, x = 255
    · rw [cond_true (by simpa using h2), if_pos h2]; rfl
    · rw [cond_false (by simpa using h2), if_neg h2, ref_Open_eq b hb, bind_s, openOf_sum2 (by omega)]
      by_cases h3 : PSum b
      · rw [if_pos h3, cond_false (by simp), if_neg (by simp [h3]), idx_D (b := b) (i := 8) (k := 8) rfl (by omega), bind_s]
        have q8 := (b.getD 8 0).toNat_lt
        have q9 := (b.getD 9 0).toNat_lt
        have hm := two_num b (by omega)
        rw [mulI_ok (by omega) (by omega), bind_s, idx_D (b := b) (i := 9) (k := 9) rfl (by omega), bind_s, addI_ok (by omega) (by omega), bind_s]
        rw [show ((256 : Int) * ((b.getD 8 0).toNat : Int) + ((b.getD 9 0).toNat : Int)) = (pMany b : Int) by omega]
        rw [idx_D (b := b) (i := 0) (k := 0) rfl (by omega), bind_s, gb_of2 rfl, bind_s, idx_D (b := b) (i := 1) (k := 1) rfl (by omega), gb_of2 rfl, bind_s, gb_of2 (subI_ok (by omega) (by omega)), bind_s, ref_cond]
        by_cases h4 : (b.getD 0 0 = 1 ∨ b.getD 0 0 = 2) ∧ (b.getD 1 0).toNat < 64 ∧ (pMany b : Int) ≤ (b.length : Int) - 16
        · rw [decide_eq_true h4, Bool.not_true, cond_f]
          obtain ⟨g1, g2, g3⟩ := h4
          have hz := zeros_loop (f := fun s => bywayref07_Read_l1 b (⟨0, 0, 0, []⟩ : Page) s) (c := (b.take (b.length - 4)).drop (10 + pMany b)) (k := 10 + pMany b) (y := (Page0, 2)) (by simp; omega) (fun i hi hx => by
              simp at hi
              unfold bywayref07_Read_l1
              rw [subI_ok (by omega) (by omega), bind_s, cond_true (by simp; omega), idx_nat (by omega), bind_s, cond_true (by simpa using hx)]; rfl) (fun i hi hx => by
              simp at hi
              unfold bywayref07_Read_l1
              rw [subI_ok (by omega) (by omega), bind_s, cond_true (by simp; omega), idx_nat (by omega), bind_s, cond_false (by simpa using hx), addI_1 (by omega), bind_s]; rfl) (by
              unfold bywayref07_Read_l1
              rw [subI_ok (by omega) (by omega), bind_s, cond_false (by simp; omega)])
          rw [addI_ok (by omega) (by omega), bind_s, show (10 + (pMany b : Int)) = ((10 + pMany b : Nat) : Int) by omega]
          rcases hz with ⟨z1, z2⟩ | ⟨z1, z2⟩
          · rw [z2, bind_s, elS_inl, if_neg (by rw [Decidable.not_not]; exact ⟨g1, g2, by omega, z1⟩), bind_s, bind_s, cut_ok (by omega) (by omega) (by omega), bind_s, ref_Get_eq _ (by simp; omega), bind_s,
              bind_s, cut_ok (by omega) (by omega) (by omega), bind_s, bind_s, Int.toNat_natCast]
            rfl
          · rw [z2, bind_s, elS_inr, if_pos (fun h => z1 h.2.2.2)]
        · rw [decide_eq_false h4, Bool.not_false, cond_t, if_pos (fun h => h4 ⟨h.1, h.2.1, by have := h.2.2.1; omega⟩)]; rfl
      · rw [if_neg h3, cond_true (by simp), if_pos h3]; rfl
  · rw [cond_true (by unfold PFits at h1; simp; omega), if_pos h1]; rfl
end Go.Proofs.Ytefmfhbkihplgaa.Tr
namespace Go.Proofs.Ytefmfhbkihplgaa.Tr
open Go
theorem u8_of_kind {z : Int} (h0 : 0 ≤ z) (h : z < 256) : ((UInt8.ofInt z).toNat : Int) = z := by rw [ofIntU8]; omega
theorem read_ok {b : List UInt8} (h : (ReadV b).2 = 0) (hk : (ReadV b).1.Kind ≠ 0) : PMay (ReadV b).1 b.length ∧ sealed (pInner (ReadV b).1 b.length) = b := by
  unfold ReadV at *
  by_cases h1 : PFits b.length
  · rw [if_neg (by simp [h1])] at *
    by_cases h2 : ∀ x ∈ b, x = 255
    · rw [if_pos h2] at hk; exact absurd rfl hk
    · rw [if_neg h2] at *
      by_cases h3 : PSum b
      · rw [if_neg (by simp [h3])] at *
        by_cases h4 : PForm b
        · rw [if_neg (by simp [h4])] at *
          dsimp only
          obtain ⟨g1, g2, g3, g4⟩ := h4
          have h1' := h1; unfold PFits at h1'
          have hbl : (pOf b).Body.length = pMany b := by unfold pOf; simp; omega
          have hmay : PMay (pOf b) b.length := by
            refine ⟨h1, ?_, by unfold pOf; dsimp only; omega, by unfold pOf; dsimp only; omega, gen_lt b, by rw [hbl]; omega⟩
            rcases g1 with g | g
            · exact .inl ((u8_kind _).1.2 g)
            · exact .inr ((u8_kind _).2.2 g)
          refine ⟨hmay, ?_⟩
          have key : pInner (pOf b) b.length = b.take (b.length - 4) := by
            unfold pInner
            rw [hbl]
            have e0 : pHead (pOf b) = b.take 10 := by
              unfold pHead
              rw [hbl]
              have a1 : UInt8.ofInt (pOf b).Kind = b.getD 0 0 := by
                rw [← UInt8.toNat_inj]
                have : ((UInt8.ofInt (pOf b).Kind).toNat : Int) = (b.getD 0 0).toNat := by
                  have q := (b.getD 0 0).toNat_lt
                  exact u8_of_kind (by unfold pOf; dsimp only; omega) (by unfold pOf; dsimp only; omega)
                omega
              have a2 : UInt8.ofInt (pOf b).Id = b.getD 1 0 := by
                rw [← UInt8.toNat_inj]
                have : ((UInt8.ofInt (pOf b).Id).toNat : Int) = (b.getD 1 0).toNat := by
                  have q := (b.getD 1 0).toNat_lt
                  exact u8_of_kind (by unfold pOf; dsimp only; omega) (by unfold pOf; dsimp only; omega)
                omega
              have a3 : putNum (pOf b).Gen 6 = (b.take 8).drop 2 := by
                have l6 : ((b.take 8).drop 2).length = 6 := by simp; omega
                have := put_get ((b.take 8).drop 2) (by omega)
                rw [l6] at this; exact this
              have a4 : putNum (UInt64.ofNat (pMany b)) 2 = (b.take 10).drop 8 := by
                have l2 : ((b.take 10).drop 8).length = 2 := by simp; omega
                have := put_get ((b.take 10).drop 8) (by omega)
                rw [l2] at this
                rw [← this]; congr 1
                unfold pMany
                exact UInt64.ofNat_toNat
              rw [a1, a2, a3, a4]
              have a5 : [b.getD 0 0, b.getD 1 0] = b.take 2 := by
                apply List.ext_getElem
                · simp; omega
                · intro j q1 q2
                  simp at q1
                  rcases (by omega : j = 0 ∨ j = 1) with rfl | rfl
                  · show b.getD 0 0 = _
                    rw [getD_of (by omega), List.getElem_take]
                  · show b.getD 1 0 = _
                    rw [getD_of (by omega), List.getElem_take]
              rw [a5]
              have a6 : b.take 2 ++ (b.take 8).drop 2 = b.take 8 := by
                have := List.take_append_drop 2 (b.take 8)
                rw [List.take_take] at this; exact this
              have a7 : b.take 8 ++ (b.take 10).drop 8 = b.take 10 := by
                have := List.take_append_drop 8 (b.take 10)
                rw [List.take_take] at this; exact this
              rw [a6, a7]
            have e1 : b.take 10 ++ (pOf b).Body = b.take (10 + pMany b) := by
              have := List.take_append_drop 10 (b.take (10 + pMany b))
              rw [List.take_take, Nat.min_eq_left (by omega)] at this; exact this
            have e2 : List.replicate (b.length - 14 - pMany b) (0 : UInt8) = (b.take (b.length - 4)).drop (10 + pMany b) := by
              symm
              rw [List.eq_replicate_iff]
              exact ⟨by simp; omega, g4⟩
            rw [e0, e1, e2]
            have := List.take_append_drop (10 + pMany b) (b.take (b.length - 4))
            rw [List.take_take, Nat.min_eq_left (by omega)] at this; exact this
          rw [key]
          exact (sealed_iff (by omega)).2 h3.symm
        · rw [if_pos h4] at h; exact absurd h (by decide)
      · rw [if_pos h3] at h; exact absurd h (by decide)
  · rw [if_pos h1] at h; exact absurd h (by decide)
theorem read_none {b : List UInt8} (h : (ReadV b).2 ≠ 0 ∨ (ReadV b).1.Kind = 0) : (ReadV b).1 = Page0 := by
  unfold ReadV at *
  by_cases h1 : PFits b.length
  · rw [if_neg (by simp [h1])] at *
    by_cases h2 : ∀ x ∈ b, x = 255
    · rw [if_pos h2]
    · rw [if_neg h2] at *
      by_cases h3 : PSum b
      · rw [if_neg (by simp [h3])] at *
        by_cases h4 : PForm b
        · rw [if_neg (by simp [h4])] at *
          exfalso
          rcases h with h | h
          · exact h rfl
          · have e : ((b.getD 0 0).toNat : Int) = 0 := h
            rcases h4.1 with g | g <;> rw [g] at e <;> exact absurd e (by decide)
        · rw [if_pos h4]
      · rw [if_pos h3]
  · rw [if_pos h1]
end Go.Proofs.Ytefmfhbkihplgaa.Tr
namespace Go.Proofs.Ytefmfhbkihplgaa.Tr
open Go
theorem page_Read_all (b : List UInt8) : page_Read b = some (ReadV b) := by
  by_cases h : b.length ≤ 1000000
  · exact page_Read_eq b h
  · have h1 : ¬ PFits b.length := by unfold PFits; omega
    unfold page_Read ReadV
    rw [page_fits_eq, bind_s, cond_true (by simp [h1]), if_pos h1, bind_s]; rfl
def Root0 : Roots := ⟨0, []⟩
def numAt (b : List UInt8) (i : Nat) : Int := ((256 * (b.getD (2 * i) 0).toNat + (b.getD (2 * i + 1) 0).toNat : Nat) : Int)
def numsOf (b : List UInt8) : List Int := (List.range (b.length / 2)).map (numAt b)
def RForm (p : Page) : Prop := p.Kind = 2 ∧ p.Body.length % 2 = 0 ∧ p.Id = max 0 (((p.Body.length / 2 : Nat) : Int) - 1)
instance {p : Page} : Decidable (RForm p) := by unfold RForm; exact inferInstance
def RReadV (b : List UInt8) : Roots × Int :=
  if (ReadV b).2 ≠ 0 then (Root0, (ReadV b).2) else if (ReadV b).1.Kind = 0 then (Root0, 6) else if ¬ RForm (ReadV b).1 then (Root0, 2) else (⟨(ReadV b).1.Gen, numsOf (ReadV b).1.Body⟩, 0)
theorem read_body (b : List UInt8) : (ReadV b).1.Body.length ≤ 256 := by
  by_cases h : (ReadV b).2 ≠ 0 ∨ (ReadV b).1.Kind = 0
  · rw [read_none h]; show ([] : List UInt8).length ≤ 256; simp
  · have h1 : (ReadV b).2 = 0 := Decidable.not_not.1 fun x => h (.inl x)
    have h2 : (ReadV b).1.Kind ≠ 0 := fun x => h (.inr x)
    obtain ⟨q, -⟩ := read_ok h1 h2
    obtain ⟨⟨q1, q2⟩, -, -, -, -, q6⟩ := q
    omega
theorem or_bytes {x y : Nat} (hy : y < 256) : (x * 256) ||| y = 256 * x + y := by
  rw [show x * 256 = x <<< 8 by rw [Nat.shiftLeft_eq], ← Nat.shiftLeft_add_eq_or_of_lt (by omega), Nat.shiftLeft_eq]; omega
theorem root_Read_eq (b : List UInt8) : root_Read b = some (RReadV b) := by
  unfold root_Read RReadV
  rw [page_Read_all, bind_s]
  have hbl := read_body b
  by_cases h1 : (ReadV b).2 ≠ 0
  · rw [cond_true (by simpa using h1), if_pos h1, bind_s]; rfl
  · rw [cond_false (by simpa using h1), if_neg h1]
    by_cases h2 : (ReadV b).1.Kind = 0
    · rw [cond_true (by simpa using h2), if_pos h2, bind_s]; rfl
    · rw [cond_false (by simpa using h2), if_neg h2]
      generalize hr : ReadV b = rp at *
      obtain ⟨p, e⟩ := rp
      dsimp only at *
      have q1 : quoI (p.Body.length : Int) 2 = some ((p.Body.length / 2 : Nat) : Int) := quoI_nat (b := 2) (by omega)
      have q2 : remI (p.Body.length : Int) 2 = some ((p.Body.length % 2 : Nat) : Int) := remI_nat (b := 2) (by omega)
      rw [q1, bind_s, gb_of2 q2, bind_s, gb_of2 (subI_ok (by omega) (by omega)), bind_s]
      by_cases h3 : RForm p
      · obtain ⟨g1, g2, g3⟩ := h3
        have d1 : decide (p.Kind ≠ (2 : Int)) = false := by simp [g1]
        rw [d1]
        have d2 : decide ((bif !false then ((p.Body.length % 2 : Nat) : Int) else default) ≠ (0 : Int)) = false := by simp [g2]
        rw [d2]
        have d3 : decide (p.Id ≠ max (0 : Int) (bif !(false || false) then ((p.Body.length / 2 : Nat) : Int) - 1 else default)) = false := by
          rw [decide_eq_false_iff_not, Decidable.not_not]; exact g3
        rw [d3]
        rw [show ((false || false || false) : Bool) = false from rfl, cond_f, if_neg (by rw [Decidable.not_not]; exact ⟨g1, g2, g3⟩), bind_s, bind_s]
        refine (bind_of (loopO_iter (fun i => ((i : Int), (List.range i).map (numAt p.Body))) (p.Body.length / 2) (e := numsOf p.Body) (by omega) (fun i hi => ?_) ?_ rfl)).trans ?_
        · unfold root_Read_l1
          dsimp only
          have v1 := (p.Body.getD (2 * i) 0).toNat_lt
          have v2 := (p.Body.getD (2 * i + 1) 0).toNat_lt
          rw [lt_t hi, cond_t, mulI_ok (by omega) (by omega), bind_s, idx_D (b := p.Body) (i := 2 * i) (by omega) (by omega), bind_s]
          have e1 : shlI (((p.Body.getD (2 * i) 0).toNat : Nat) : Int) 8 = some (((p.Body.getD (2 * i) 0).toNat * 256 : Nat) : Int) := by
            have ep : (2 : Int) ^ (8 : Int).toNat = 256 := rfl
            unfold shlI
            rw [ep, if_pos ⟨by omega, by omega, by omega, by omega⟩]; rfl
          rw [e1, bind_s, bind_s, addI_ok (by omega) (by omega), bind_s, idx_D (b := p.Body) (i := 2 * i + 1) (by omega) (by omega), bind_s]
          have e2 : orI (((p.Body.getD (2 * i) 0).toNat * 256 : Nat) : Int) (((p.Body.getD (2 * i + 1) 0).toNat : Nat) : Int) = some (numAt p.Body i) := by
            unfold orI numAt
            rw [if_pos ⟨by omega, by omega⟩, Int.toNat_natCast, Int.toNat_natCast, or_bytes v2]
          rw [e2, bind_s, room_ok (by omega) (by simp; omega) (by simp; omega), bind_s, bind_s, addI_1 (by omega), bind_s, List.range_succ, List.map_append]
          rfl
        · unfold root_Read_l1
          dsimp only
          rw [lt_f, cond_f]; rfl
        · rw [bind_s]
      · rw [if_pos h3, cond_true, bind_s]
        · rfl
        · by_cases g1 : p.Kind = 2
          · have d1 : decide (p.Kind ≠ (2 : Int)) = false := by simp [g1]
            rw [d1]
            by_cases g2 : p.Body.length % 2 = 0
            · have d2 : decide ((bif !false then ((p.Body.length % 2 : Nat) : Int) else default) ≠ (0 : Int)) = false := by simp [g2]
              rw [d2]
              have : p.Id ≠ max 0 (((p.Body.length / 2 : Nat) : Int) - 1) := fun g3 => h3 ⟨g1, g2, g3⟩
              rw [show (bif !(false || false) then (((p.Body.length / 2 : Nat) : Int) - 1) else default) = ((p.Body.length / 2 : Nat) : Int) - 1 from rfl, decide_eq_true this]; rfl
            · have d2 : decide ((bif !false then ((p.Body.length % 2 : Nat) : Int) else default) ≠ (0 : Int)) = true := by
                rw [Bool.not_false, cond_t, decide_eq_true_eq]; omega
              rw [d2]; rfl
          · simp [g1]
theorem ints_eq (a b : List Int) (ha : a.length ≤ 1000000000000000) : bywayref08_Ints a b = some (decide (a = b)) := by
  unfold bywayref08_Ints
  by_cases hl : a.length = b.length
  · rw [cond_false (by simp [hl])]
    rcases loopO_find (f := fun s => bywayref08_Ints_l1 a b s) (fun i => (i : Int)) a.length (fun i => decide (a.getD i 0 ≠ b.getD i 0)) (fun _ => .inr false) (y := .inl ()) (by omega) (fun i hi hp => by
        have hx : a[i] = b[i]'(by omega) := by simpa [List.getD_eq_getElem?_getD, List.getElem?_eq_getElem hi, List.getElem?_eq_getElem (show i < b.length by omega)] using hp
        unfold bywayref08_Ints_l1
        rw [lt_t hi, cond_t, idx_nat hi, bind_s, idx_nat (show i < b.length by omega), bind_s, cond_false (by simp [hx]), addI_1 (by omega), bind_s]) (fun i hi hp => by
        have hx : a[i] ≠ b[i]'(by omega) := by simpa [List.getD_eq_getElem?_getD, List.getElem?_eq_getElem hi, List.getElem?_eq_getElem (show i < b.length by omega)] using hp
        unfold bywayref08_Ints_l1
        rw [lt_t hi, cond_t, idx_nat hi, bind_s, idx_nat (show i < b.length by omega), bind_s, cond_true (by simpa using hx)]) (by
        unfold bywayref08_Ints_l1
        rw [lt_f, cond_f]) (s := (0 : Int)) rfl with ⟨i, hi, hp, -, e⟩ | ⟨hall, e⟩
    · rw [e, bind_s, elS_inr]
      have : a ≠ b := fun h => by subst h; simp at hp
      rw [decide_eq_false this]
    · rw [e, bind_s, elS_inl]
      have : a = b := by
        apply List.ext_getElem hl
        intro j h1 h2
        have := hall j h1
        simpa [List.getD_eq_getElem?_getD, List.getElem?_eq_getElem h1, List.getElem?_eq_getElem h2] using this
      rw [decide_eq_true this]
  · rw [cond_true (by simp; omega)]
    have : a ≠ b := fun h => hl (by rw [h])
    rw [decide_eq_false this]
end Go.Proofs.Ytefmfhbkihplgaa.Tr
namespace Go.Proofs.Ytefmfhbkihplgaa.Tr
open Go
def Gets {α : Type} (x : Option α) (P : α → Prop) : Prop := ∃ v, x = some v ∧ P v
theorem Gets.s {α : Type} {v : α} {P : α → Prop} (h : P v) : Gets (some v) P := ⟨v, rfl, h⟩
theorem Gets.b {α β : Type} {x : Option α} {f : α → Option β} {P : α → Prop} {Q : β → Prop} (h : Gets x P) (k : ∀ v, P v → Gets (f v) Q) : Gets (x.bind f) Q := by
  obtain ⟨v, e, hv⟩ := h
  obtain ⟨u, e2, hu⟩ := k v hv
  exact ⟨u, by rw [e, bind_s, e2], hu⟩
theorem Gets.e {α : Type} {x : Option α} {v : α} (h : x = some v) : Gets x (fun u => u = v) := ⟨v, h, rfl⟩
theorem Gets.eq {α : Type} {x : Option α} {v : α} (h : Gets x (fun u => u = v)) : x = some v := by obtain ⟨u, e, rfl⟩ := h; exact e
theorem Gets.c {α : Type} {b : Bool} {x y : Option α} {P : α → Prop} (h1 : b = true → Gets x P) (h2 : b = false → Gets y P) : Gets (bif b then x else y) P := by
  cases b with
  | true => rw [cond_t]; exact h1 rfl
  | false => rw [cond_f]; exact h2 rfl
theorem Gets.g {α : Type} [Inhabited α] {c : Bool} {x : Option α} {P : α → Prop} (h : c = true → Gets x P) : Gets (gb c x) (fun v => c = true → P v) := by
  cases c with
  | true => rw [gb_true]; obtain ⟨v, e, hv⟩ := h rfl; exact ⟨v, e, fun _ => hv⟩
  | false => rw [gb_false]; exact ⟨_, rfl, fun h => by cases h⟩
theorem Gets.idx {α : Type} {l : List α} {k : Int} (h0 : 0 ≤ k) (h : k < l.length) : Gets (idx l k) (fun v => l[k.toNat]? = some v) := by
  rw [idx_of h0 h]; exact ⟨_, rfl, List.getElem?_eq_getElem (by omega)⟩
theorem Gets.loop {σ ε : Type} {f : σ → Option (σ ⊕ ε)} (I : σ → Prop) (μ : σ → Nat) {R : ε → Prop} (h : ∀ s, I s → Gets (f s) (fun x => (∃ s', x = .inl s' ∧ I s' ∧ μ s' < μ s) ∨ ∃ e, x = .inr e ∧ R e)) {s : σ} (hs : I s) (hm : μ s < 18446744073709551616) : Gets (loopO f s) R := by
  obtain ⟨e, h1, h2⟩ := loopO_inv (f := f) I μ R (fun s hs => by
    obtain ⟨x, e1, h1⟩ := h s hs
    rcases h1 with ⟨s', rfl, h2, h3⟩ | ⟨e, rfl, h2⟩
    · exact .inl ⟨s', e1, h2, h3⟩
    · exact .inr ⟨e, e1, h2⟩) hs hm
  exact ⟨e, h1, h2⟩
theorem Gets.l {σ ε : Type} {I : σ → Prop} {μ : σ → Nat} {R : ε → Prop} {m : Nat} {s' : σ} (h : I s') (hm : μ s' < m) : Gets (some (.inl s' : σ ⊕ ε)) (fun x => (∃ s', x = .inl s' ∧ I s' ∧ μ s' < m) ∨ ∃ e, x = .inr e ∧ R e) := ⟨_, rfl, .inl ⟨s', rfl, h, hm⟩⟩
theorem Gets.r {σ ε : Type} {I : σ → Prop} {μ : σ → Nat} {R : ε → Prop} {m : Nat} {e : ε} (h : R e) : Gets (some (.inr e : σ ⊕ ε)) (fun x => (∃ s', x = .inl s' ∧ I s' ∧ μ s' < m) ∨ ∃ e, x = .inr e ∧ R e) := ⟨_, rfl, .inr ⟨e, rfl, h⟩⟩
theorem Gets.elSl {α β γ : Type} {a : α} {f : α → Option γ} {g : β → Option γ} {P : γ → Prop} (h : Gets (f a) P) : Gets (elS (.inl a : α ⊕ β) f g) P := by rw [elS_inl]; exact h
theorem Gets.elSr {α β γ : Type} {a : β} {f : α → Option γ} {g : β → Option γ} {P : γ → Prop} (h : Gets (g a) P) : Gets (elS (.inr a : α ⊕ β) f g) P := by rw [elS_inr]; exact h
end Go.Proofs.Ytefmfhbkihplgaa.Tr
namespace Go.Proofs.Ytefmfhbkihplgaa.Tr
open Go
def lookV (b : List UInt8) (used : Bool) : image_sheet :=
  if ∀ x ∈ b, x = 255 then (if used then ⟨1, 0, 0⟩ else ⟨0, 0, 0⟩)
  else if (RReadV b).2 = 0 then ⟨2, 0, (RReadV b).1.Gen⟩
  else if (ReadV b).2 = 0 ∧ (ReadV b).1.Kind = 1 then ⟨3, (ReadV b).1.Id, (ReadV b).1.Gen⟩ else ⟨4, 0, 0⟩
theorem look_eq (b : List UInt8) (used : Bool) (hb : b.length ≤ 1000000) : image_look b used = some (lookV b used) := by
  unfold image_look lookV
  rw [page_Blank_eq b (by omega), bind_s]
  by_cases h1 : ∀ x ∈ b, x = 255
  · rw [decide_eq_true h1, cond_t, if_pos h1]
    cases used
    · rw [cond_f, bind_s]; rfl
    · rw [cond_t, bind_s]; rfl
  · rw [decide_eq_false h1, cond_f, if_neg h1, root_Read_eq, bind_s]
    by_cases h2 : (RReadV b).2 = 0
    · rw [decide_eq_true h2, cond_t, if_pos h2, bind_s]
    · rw [decide_eq_false h2, cond_f, if_neg h2, page_Read_eq b hb, bind_s]
      by_cases h3 : (ReadV b).2 = 0 ∧ (ReadV b).1.Kind = 1
      · rw [if_pos h3, cond_true (by simp [h3.1, h3.2]), bind_s]
      · rw [if_neg h3, cond_false (by simp only [Bool.and_eq_false_iff, decide_eq_false_iff_not]; omega), bind_s]
def blockPages (b : Block) : List (List UInt8 × Bool) := b.Pages.zipIdx.map fun p => (p.1, decide ((p.2 : Int) < b.Used))
def allPages (c : Chip) : List (List UInt8 × Bool) := c.Blocks.flatMap blockPages
def sheetsOf (c : Chip) : List image_sheet := (allPages c).map fun p => lookV p.1 p.2
def foldS {σ : Type} (yy : σ → Int → image_sheet → Option (σ × Bool)) : Nat → σ → List image_sheet → Option (σ × Bool)
  | _, s, [] => some (s, true)
  | n, s, x :: xs => (yy s ((n + 1 : Nat) : Int) x).bind fun r => bif r.2 then foldS yy (n + 1) r.1 xs else some (r.1, false)
theorem foldS_append {σ : Type} {yy : σ → Int → image_sheet → Option (σ × Bool)} : ∀ (xs ys : List image_sheet) (n : Nat) (s : σ), foldS yy n s (xs ++ ys) = (foldS yy n s xs).bind fun r => bif r.2 then foldS yy (n + xs.length) r.1 ys else some (r.1, false)
  | [], ys, n, s => by rw [List.nil_append, foldS, bind_s, cond_t]; rfl
  | x :: xs, ys, n, s => by
    rw [List.cons_append, foldS, foldS]
    cases h : yy s ((n + 1 : Nat) : Int) x with
    | none => rfl
    | some r =>
      rw [bind_s, bind_s]
      cases hr : r.2 with
      | false => rw [cond_f, cond_f, bind_s, cond_f]
      | true => rw [cond_t, cond_t, foldS_append xs ys (n + 1) r.1, show n + (x :: xs).length = n + 1 + xs.length by simp; omega]
theorem foldS_snoc {σ : Type} {yy : σ → Int → image_sheet → Option (σ × Bool)} (xs : List image_sheet) (y : image_sheet) (n : Nat) (s : σ) : foldS yy n s (xs ++ [y]) = (foldS yy n s xs).bind fun r => bif r.2 then ((yy r.1 ((n + xs.length + 1 : Nat) : Int) y).bind fun q => some (q.1, q.2)) else some (r.1, false) := by
  rw [foldS_append]
  congr 1
  funext r
  cases r.2 with
  | false => rfl
  | true =>
    rw [cond_t, cond_t, foldS]
    cases yy r.1 ((n + xs.length + 1 : Nat) : Int) y with
    | none => rfl
    | some q =>
      rw [bind_s, bind_s]
      cases h : q.2 with
      | true => rw [cond_t, foldS]
      | false => rw [cond_f]
theorem blockPages_length (b : Block) : (blockPages b).length = b.Pages.length := by simp [blockPages]
theorem sheets_l2 {σ : Type} {yy : σ → Int → image_sheet → Option (σ × Bool)} {b : Block} (hb : b.Pages.length ≤ 1000) (hp : ∀ p ∈ b.Pages, p.length ≤ 1000000) (n : Nat) (hn : n ≤ 1000000000) (s : σ) {r : σ × Bool} (h : foldS yy n s ((blockPages b).map fun p => lookV p.1 p.2) = some r) :
    loopO (fun t => image_sheets_1_l2 yy b t.1 t.2.1 t.2.2) ((n : Int), (0 : Int), s) = some (if r.2 then .inl (((n + b.Pages.length : Nat) : Int), r.1) else .inr r.1) := by
  have hl : ((blockPages b).map fun p => lookV p.1 p.2).length = b.Pages.length := by simp [blockPages]
  refine Gets.eq (Gets.loop (fun t => ∃ i : Nat, i ≤ b.Pages.length ∧ t.1 = ((n + i : Nat) : Int) ∧ t.2.1 = (i : Int) ∧ foldS yy n s (((blockPages b).map fun p => lookV p.1 p.2).take i) = some (t.2.2, true)) (fun t => b.Pages.length - t.2.1.toNat) ?_ ⟨0, Nat.zero_le _, rfl, rfl, by rw [List.take_zero, foldS]⟩ (by dsimp only; omega))
  rintro ⟨q, x, t⟩ ⟨i, hi, e1, e2, e3⟩
  dsimp only at e1 e2 e3 ⊢
  subst e1 e2
  unfold image_sheets_1_l2
  rcases Nat.lt_or_ge i b.Pages.length with hlt | hge
  · rw [lt_t hlt, cond_t]
    have hget : (((blockPages b).map fun p => lookV p.1 p.2))[i]'(by rw [hl]; exact hlt) = lookV b.Pages[i] (decide ((i : Int) < b.Used)) := by simp [blockPages]
    have hstep : foldS yy n s (((blockPages b).map fun p => lookV p.1 p.2).take (i + 1)) = (yy t ((n + i + 1 : Nat) : Int) (lookV b.Pages[i] (decide ((i : Int) < b.Used)))).bind fun q => some (q.1, q.2) := by
      rw [List.take_succ_eq_append_getElem (by rw [hl]; exact hlt), foldS_snoc, e3, bind_s, cond_t, hget, List.length_take, Nat.min_eq_left (by rw [hl]; omega)]
    have hfull : foldS yy n s ((blockPages b).map fun p => lookV p.1 p.2) = (foldS yy n s (((blockPages b).map fun p => lookV p.1 p.2).take (i + 1))).bind fun r => bif r.2 then foldS yy (n + (((blockPages b).map fun p => lookV p.1 p.2).take (i + 1)).length) r.1 (((blockPages b).map fun p => lookV p.1 p.2).drop (i + 1)) else some (r.1, false) := by
      rw [← foldS_append, List.take_append_drop]
    rw [h, hstep] at hfull
    rw [idx_nat hlt, bind_s, addI_ok (by omega) (by omega), bind_s, look_eq _ _ (hp _ (List.getElem_mem hlt)), bind_s, show ((n + i : Nat) : Int) + 1 = ((n + i + 1 : Nat) : Int) by omega]
    cases hy : yy t ((n + i + 1 : Nat) : Int) (lookV b.Pages[i] (decide ((i : Int) < b.Used))) with
    | none => rw [hy] at hfull; cases hfull
    | some z =>
      rw [hy, bind_s, bind_s] at hfull
      rw [hy, bind_s] at hstep
      rw [bind_s]
      cases hz : z.2 with
      | false =>
        rw [hz, cond_f] at hfull
        obtain rfl := Option.some.inj hfull
        rw [Bool.not_false, cond_t]
        exact Gets.r rfl
      | true =>
        rw [Bool.not_true, cond_f, addI_1 (by omega), bind_s]
        exact Gets.l ⟨i + 1, hlt, by rw [Nat.add_assoc], rfl, by rw [hstep, hz]⟩ (by dsimp only; omega)
  · obtain rfl : i = b.Pages.length := by omega
    rw [lt_f, cond_f]
    have : ((blockPages b).map fun p => lookV p.1 p.2).take b.Pages.length = (blockPages b).map fun p => lookV p.1 p.2 := List.take_of_length_le (by rw [hl]; omega)
    rw [this, h] at e3
    obtain rfl := Option.some.inj e3
    exact Gets.r (by rw [if_pos rfl])
theorem allPages_take (c : Chip) {i : Nat} (hi : i < c.Blocks.length) : (c.Blocks.take (i + 1)).flatMap blockPages = (c.Blocks.take i).flatMap blockPages ++ blockPages c.Blocks[i] := by
  rw [List.take_succ_eq_append_getElem hi, List.flatMap_append, List.flatMap_singleton]
theorem pages_count {l : List Block} {p : Nat} (h : ∀ b ∈ l, b.Pages.length = p) : (l.flatMap blockPages).length = l.length * p := by
  induction l with
  | nil => simp
  | cons b l ih =>
    rw [List.flatMap_cons, List.length_append, blockPages_length, h b (List.mem_cons_self ..), ih fun x hx => h x (List.mem_cons_of_mem _ hx), List.length_cons, Nat.succ_mul, Nat.add_comm]
theorem sheets_eq {σ : Type} {yy : σ → Int → image_sheet → Option (σ × Bool)} {c : Chip} (hc : cRight c = true) (s : σ) {r : σ × Bool} (h : foldS yy 0 s (sheetsOf c) = some r) : image_sheets_1 yy s c = some r.1 := by
  obtain ⟨h1, h2, h3, h4, h5, h6, h7, h8, h9, h10⟩ := cRight_spec hc
  obtain ⟨p, hp⟩ := Int.eq_ofNat_of_zero_le (show 0 ≤ c.Pages by omega)
  have hpl : ∀ b ∈ c.Blocks, b.Pages.length = p := fun b hb => by have := (h10 b hb).1; omega
  unfold image_sheets_1
  have key : loopO (fun t => image_sheets_1_l1 c yy t.1 t.2.1 t.2.2) ((0 : Int), (0 : Int), s) = some (if r.2 then .inl r.1 else .inr r.1) := by
    refine Gets.eq (Gets.loop (fun t => ∃ i : Nat, i ≤ c.Blocks.length ∧ t.1 = ((i * p : Nat) : Int) ∧ t.2.1 = (i : Int) ∧ foldS yy 0 s (((c.Blocks.take i).flatMap blockPages).map fun p => lookV p.1 p.2) = some (t.2.2, true)) (fun t => c.Blocks.length - t.2.1.toNat) ?_ ⟨0, Nat.zero_le _, by simp, rfl, by rw [List.take_zero]; rfl⟩ (by dsimp only; omega))
    rintro ⟨q, x, t⟩ ⟨i, hi, e1, e2, e3⟩
    dsimp only at e1 e2 e3 ⊢
    subst e1 e2
    unfold image_sheets_1_l1
    have hcnt : ∀ j, j ≤ c.Blocks.length → (((c.Blocks.take j).flatMap blockPages).map fun p => lookV p.1 p.2).length = j * p := fun j hj => by
      rw [List.length_map, pages_count (p := p) fun b hb => hpl b (List.mem_of_mem_take hb), List.length_take, Nat.min_eq_left hj]
    rcases Nat.lt_or_ge i c.Blocks.length with hlt | hge
    · rw [lt_t hlt, cond_t, idx_nat hlt, bind_s]
      have hb := hpl _ (List.getElem_mem hlt)
      have hip : i * p ≤ 32 * 16 := Nat.mul_le_mul (by omega) (by omega)
      have hsplit : ((c.Blocks.take (i + 1)).flatMap blockPages).map (fun p => lookV p.1 p.2) = ((c.Blocks.take i).flatMap blockPages).map (fun p => lookV p.1 p.2) ++ (blockPages c.Blocks[i]).map fun p => lookV p.1 p.2 := by rw [allPages_take c hlt, List.map_append]
      have hstep : foldS yy 0 s (((c.Blocks.take (i + 1)).flatMap blockPages).map fun p => lookV p.1 p.2) = foldS yy (i * p) t ((blockPages c.Blocks[i]).map fun p => lookV p.1 p.2) := by
        rw [hsplit, foldS_append, e3, bind_s, cond_t, hcnt i (by omega), Nat.zero_add]
      have hfull : foldS yy 0 s (sheetsOf c) = (foldS yy 0 s (((c.Blocks.take (i + 1)).flatMap blockPages).map fun p => lookV p.1 p.2)).bind fun r => bif r.2 then foldS yy (0 + (((c.Blocks.take (i + 1)).flatMap blockPages).map fun p => lookV p.1 p.2).length) r.1 (((c.Blocks.drop (i + 1)).flatMap blockPages).map fun p => lookV p.1 p.2) else some (r.1, false) := by
        rw [← foldS_append, ← List.map_append, ← List.flatMap_append, List.take_append_drop]; rfl
      rw [h, hstep] at hfull
      cases hy : foldS yy (i * p) t ((blockPages c.Blocks[i]).map fun p => lookV p.1 p.2) with
      | none => rw [hy] at hfull; cases hfull
      | some z =>
        rw [hy] at hstep hfull
        rw [bind_s] at hfull
        rw [sheets_l2 (by omega) (fun q hq => by have := (h10 _ (List.getElem_mem hlt)).2.2.2.2.2 q hq; omega) (i * p) (by omega) t hy, bind_s]
        cases hz : z.2 with
        | false =>
          rw [hz, cond_f] at hfull
          obtain rfl := Option.some.inj hfull
          rw [if_neg (by decide), elS_inr]
          exact Gets.r rfl
        | true =>
          rw [if_pos rfl, elS_inl, el2_at, addI_1 (by omega), bind_s]
          exact Gets.l ⟨i + 1, hlt, by rw [hb, Nat.succ_mul], rfl, by rw [hstep, ← hz]⟩ (by dsimp only; omega)
    · obtain rfl : i = c.Blocks.length := by omega
      rw [lt_f, cond_f]
      rw [List.take_length] at e3
      have e3 : foldS yy 0 s (sheetsOf c) = some (t, true) := e3
      rw [h] at e3
      obtain rfl := Option.some.inj e3
      exact Gets.r (by rw [if_pos rfl])
  rw [key, bind_s]
  cases r.2 with
  | true => rw [if_pos rfl, elS_inl]
  | false => rw [if_neg (by decide), elS_inr]
theorem sheets_count {c : Chip} (hc : cRight c = true) : (sheetsOf c).length ≤ 512 := by
  obtain ⟨h1, h2, h3, h4, h5, h6, h7, h8, h9, h10⟩ := cRight_spec hc
  obtain ⟨p, hp⟩ := Int.eq_ofNat_of_zero_le (show 0 ≤ c.Pages by omega)
  unfold sheetsOf allPages
  rw [List.length_map, pages_count (p := p) fun b hb => by have := (h10 b hb).1; omega]
  exact Nat.le_trans (Nat.mul_le_mul (show _ ≤ 32 by omega) (show p ≤ 16 by omega)) (by decide)
end Go.Proofs.Ytefmfhbkihplgaa.Tr
namespace Go.Proofs.Ytefmfhbkihplgaa.Tr
open Go
def foldG {σ : Type} (g : Nat → σ → image_sheet → σ) : Nat → σ → List image_sheet → σ
  | _, s, [] => s
  | n, s, x :: xs => foldG g (n + 1) (g n s x) xs
theorem foldS_inv {σ ε : Type} {f : σ → Int → image_sheet → Option (σ ⊕ ε)} (g : Nat → σ → image_sheet → σ) (I : Nat → σ → Prop) (step : ∀ n s v, n < 1000 → I n s → f s ((n + 1 : Nat) : Int) v = some (.inl (g n s v)) ∧ I (n + 1) (g n s v)) :
    ∀ (xs : List image_sheet) (n : Nat) (s : σ), I n s → n + xs.length ≤ 1000 → foldS (yT2 f) n (.inl s) xs = some (.inl (foldG g n s xs), true) ∧ I (n + xs.length) (foldG g n s xs)
  | [], n, s, h, _ => ⟨rfl, h⟩
  | x :: xs, n, s, h, hl => by
    simp only [List.length_cons] at hl
    obtain ⟨e1, h1⟩ := step n s x (by omega) h
    obtain ⟨e2, h2⟩ := foldS_inv g I step xs (n + 1) (g n s x) h1 (by omega)
    refine ⟨?_, ?_⟩
    · have e3 : yT2 f (.inl s) ((n + 1 : Nat) : Int) x = some (.inl (g n s x), true) := by simp only [yT2, e1]
      rw [foldS, e3, bind_s, cond_t]; exact e2
    · simp only [List.length_cons]
      rw [show n + (xs.length + 1) = n + 1 + xs.length by omega]; exact h2
def tstep (t : Tally) (v : image_sheet) : Tally :=
  if v.kind = 0 then ⟨t.Blank + 1, t.Data, t.Roots, t.Torn, t.Lost⟩ else if v.kind = 1 then ⟨t.Blank, t.Data, t.Roots, t.Torn, t.Lost + 1⟩
  else if v.kind = 2 then ⟨t.Blank, t.Data, t.Roots + 1, t.Torn, t.Lost⟩ else if v.kind = 3 then ⟨t.Blank, t.Data + 1, t.Roots, t.Torn, t.Lost⟩ else ⟨t.Blank, t.Data, t.Roots, t.Torn + 1, t.Lost⟩
def tallyOf (l : List image_sheet) : Tally :=
  ⟨(l.countP fun v => decide (v.kind = 0) : Nat), (l.countP fun v => decide (v.kind = 3) : Nat), (l.countP fun v => decide (v.kind = 2) : Nat), (l.countP fun v => !decide (v.kind = 0) && !decide (v.kind = 1) && !decide (v.kind = 2) && !decide (v.kind = 3) : Nat), (l.countP fun v => decide (v.kind = 1) : Nat)⟩
theorem tally_nil : tallyOf [] = (Dat.z : Tally) := rfl
theorem tally_snoc (l : List image_sheet) (v : image_sheet) : tallyOf (l ++ [v]) = tstep (tallyOf l) v := by
  unfold tallyOf tstep
  simp only [List.countP_append, List.countP_singleton]
  by_cases h0 : v.kind = 0
  · simp [h0]
  · by_cases h1 : v.kind = 1
    · simp [h1]
    · by_cases h2 : v.kind = 2
      · simp [h2]
      · by_cases h3 : v.kind = 3
        · simp [h3]
        · simp [h0, h1, h2, h3]
theorem foldG_tally : ∀ (xs pre : List image_sheet) (n : Nat), foldG (fun _ t v => tstep t v) n (tallyOf pre) xs = tallyOf (pre ++ xs)
  | [], pre, n => by rw [List.append_nil]; rfl
  | x :: xs, pre, n => by
    rw [foldG, ← tally_snoc, foldG_tally xs, List.append_assoc]; rfl
theorem count_eq {c : Chip} (hc : cRight c = true) : image_Count c = some (tallyOf (sheetsOf c), 0) := by
  unfold image_Count
  rw [chip_Right_eq, bind_s, hc, Bool.not_true, cond_f]
  unfold image_sheets
  rw [bind_s]
  have hl := sheets_count hc
  obtain ⟨e1, -⟩ := foldS_inv (ε := Empty) (f := fun (s : Tally) n_9 v_10 => image_Count_l1 s n_9 v_10) (fun _ t v => tstep t v) (fun n t => 0 ≤ t.Blank ∧ t.Blank ≤ n ∧ 0 ≤ t.Data ∧ t.Data ≤ n ∧ 0 ≤ t.Roots ∧ t.Roots ≤ n ∧ 0 ≤ t.Torn ∧ t.Torn ≤ n ∧ 0 ≤ t.Lost ∧ t.Lost ≤ n) (fun n t v hn h => by
    obtain ⟨h1, h2, h3, h4, h5, h6, h7, h8, h9, h10⟩ := h
    unfold image_Count_l1 tstep
    by_cases k0 : v.kind = 0
    · rw [decide_eq_true k0, cond_t, if_pos k0, addI_ok (by omega) (by omega), bind_s, bind_s]
      exact ⟨rfl, by dsimp only; omega⟩
    · rw [decide_eq_false k0, cond_f, if_neg k0]
      by_cases k1 : v.kind = 1
      · rw [decide_eq_true k1, cond_t, if_pos k1, addI_ok (by omega) (by omega), bind_s, bind_s]
        exact ⟨rfl, by dsimp only; omega⟩
      · rw [decide_eq_false k1, cond_f, if_neg k1]
        by_cases k2 : v.kind = 2
        · rw [decide_eq_true k2, cond_t, if_pos k2, addI_ok (by omega) (by omega), bind_s, bind_s]
          exact ⟨rfl, by dsimp only; omega⟩
        · rw [decide_eq_false k2, cond_f, if_neg k2]
          by_cases k3 : v.kind = 3
          · rw [decide_eq_true k3, cond_t, if_pos k3, addI_ok (by omega) (by omega), bind_s, bind_s]
            exact ⟨rfl, by dsimp only; omega⟩
          · rw [decide_eq_false k3, cond_f, if_neg k3, addI_ok (by omega) (by omega), bind_s, bind_s]
            exact ⟨rfl, by dsimp only; omega⟩) (sheetsOf c) 0 (Dat.z : Tally) ⟨Int.le_refl _, Int.le_refl _, Int.le_refl _, Int.le_refl _, Int.le_refl _, Int.le_refl _, Int.le_refl _, Int.le_refl _, Int.le_refl _, Int.le_refl _⟩ (by omega)
  rw [sheets_eq hc _ e1, bind_s, elS_inl]
  have := foldG_tally (sheetsOf c) [] 0
  rw [tally_nil, List.nil_append] at this
  rw [this]
theorem allPages_get {p : Nat} (hp : 0 < p) : ∀ (l : List Block), (∀ b ∈ l, b.Pages.length = p) → ∀ i, (l.flatMap blockPages)[i]? = (l[i / p]?).bind fun b => (b.Pages[i % p]?).map fun q => (q, decide (((i % p : Nat) : Int) < b.Used))
  | [], _, i => by simp
  | b :: l, h, i => by
    have hb := h b (List.mem_cons_self ..)
    rw [List.flatMap_cons]
    rcases Nat.lt_or_ge i p with h1 | h1
    · rw [List.getElem?_append_left (by rw [blockPages_length, hb]; exact h1), Nat.div_eq_of_lt h1, Nat.mod_eq_of_lt h1]
      have hi : i < b.Pages.length := by omega
      show (blockPages b)[i]? = _
      simp [blockPages, List.getElem?_eq_getElem hi]
    · rw [List.getElem?_append_right (by rw [blockPages_length, hb]; exact h1), blockPages_length, hb, allPages_get hp l (fun x hx => h x (List.mem_cons_of_mem _ hx))]
      have e1 : i / p = (i - p) / p + 1 := by
        rw [Nat.div_eq i p, if_pos ⟨hp, h1⟩]
      have e2 : i % p = (i - p) % p := Nat.mod_eq_sub_mod h1
      rw [e1, e2]; rfl
theorem pages_of {c : Chip} (hc : cRight c = true) : ∃ p : Nat, c.Pages = (p : Int) ∧ 0 < p ∧ p ≤ 16 ∧ (∀ b ∈ c.Blocks, b.Pages.length = p) ∧ (allPages c).length = c.Blocks.length * p ∧ c.Blocks.length * p ≤ 512 := by
  obtain ⟨h1, h2, h3, h4, h5, h6, h7, h8, h9, h10⟩ := cRight_spec hc
  obtain ⟨p, hp⟩ := Int.eq_ofNat_of_zero_le (show 0 ≤ c.Pages by omega)
  have hb : ∀ b ∈ c.Blocks, b.Pages.length = p := fun b hb => by have := (h10 b hb).1; omega
  exact ⟨p, hp, by omega, by omega, hb, pages_count hb, Nat.le_trans (Nat.mul_le_mul (show _ ≤ 32 by omega) (show p ≤ 16 by omega)) (by decide)⟩
theorem page_at {c : Chip} (hc : cRight c = true) {p : Nat} (hp : c.Pages = (p : Int)) (hp0 : 0 < p) (hb : ∀ b ∈ c.Blocks, b.Pages.length = p) {i : Nat} (hi : i < c.Blocks.length * p) :
    ∃ (h1 : i / p < c.Blocks.length) (h2 : i % p < c.Blocks[i / p].Pages.length), (allPages c)[i]? = some (c.Blocks[i / p].Pages[i % p], decide (((i % p : Nat) : Int) < c.Blocks[i / p].Used)) := by
  have h1 : i / p < c.Blocks.length := by rw [Nat.div_lt_iff_lt_mul hp0]; exact hi
  have h2 : i % p < c.Blocks[i / p].Pages.length := by rw [hb _ (List.getElem_mem h1)]; exact Nat.mod_lt _ hp0
  refine ⟨h1, h2, ?_⟩
  unfold allPages
  rw [allPages_get hp0 _ hb, List.getElem?_eq_getElem h1, Option.bind_some, List.getElem?_eq_getElem h2]
  rfl
def badP (p : List UInt8 × Bool) : Bool := (decide ((lookV p.1 p.2).kind = 4) || decide ((lookV p.1 p.2).kind = 1)) || (!p.2 && decide ((lookV p.1 p.2).kind ≠ 0))
def soundB (c : Chip) : Bool := (allPages c).all fun p => !badP p
theorem sound_eq {c : Chip} (hc : cRight c = true) : image_Sound c = some (soundB c) := by
  obtain ⟨p, hp, hp0, hp16, hb, hlen, h512⟩ := pages_of hc
  unfold image_Sound
  rw [chip_Right_eq, bind_s, hc, Bool.not_true, cond_f]
  unfold image_sheets
  rw [bind_s]
  have step : ∀ (i : Nat) (q : List UInt8 × Bool), (allPages c)[i]? = some q → image_Sound_l1 c ((i + 1 : Nat) : Int) (lookV q.1 q.2) = some (if badP q then .inr () else .inl ()) := fun i q hq => by
    have hi : i < c.Blocks.length * p := by rw [← hlen]; exact (List.getElem?_eq_some_iff.1 hq).1
    obtain ⟨g1, g2, g3⟩ := page_at hc hp hp0 hb hi
    rw [hq] at g3
    obtain rfl := Option.some.inj g3
    unfold image_Sound_l1
    have e1 : subI ((i + 1 : Nat) : Int) 1 = some (i : Int) := by rw [subI_ok (by omega) (by omega)]; congr 1; omega
    rw [e1, bind_s, hp, remI_nat hp0, bind_s, bind_s, quoI_nat hp0, bind_s, idx_nat g1, bind_s, bind_s]
    unfold badP
    dsimp only
    generalize lookV _ _ = v
    cases hk : (((decide (v.kind = (4 : Int))) || (decide (v.kind = (1 : Int)))) || ((!(decide (((i % p : Nat) : Int) < c.Blocks[i / p].Used))) && (decide (v.kind ≠ (0 : Int))))) with
    | true => rw [cond_t, if_pos rfl]
    | false => rw [cond_f, if_neg (by decide)]
  have key : ∀ (l : List (List UInt8 × Bool)) (n : Nat), (∀ j, (h : j < l.length) → (allPages c)[n + j]? = some l[j]) → foldS (yT2 fun (s : Unit) n_6 v_7 => image_Sound_l1 c n_6 v_7) n (.inl ()) (l.map fun p => lookV p.1 p.2) = some (if l.all fun p => !badP p then (.inl (), true) else (.inr (), false)) := by
    intro l
    induction l with
    | nil => intro n _; rfl
    | cons q l ih =>
      intro n h
      have h0 := h 0 (by simp)
      have e0 := step n q h0
      have ih := ih (n + 1) fun j hj => by have := h (j + 1) (by simpa using hj); rw [show n + 1 + j = n + (j + 1) by omega]; simpa using this
      rw [List.map_cons, foldS, List.all_cons]
      cases hq : badP q with
      | true =>
        have e3 : yT2 (fun (s : Unit) n_6 v_7 => image_Sound_l1 c n_6 v_7) (.inl ()) ((n + 1 : Nat) : Int) (lookV q.1 q.2) = some (.inr (), false) := by
          rw [hq, if_pos rfl] at e0; simp only [yT2, e0]
        rw [e3, bind_s, cond_f]; rfl
      | false =>
        have e3 : yT2 (fun (s : Unit) n_6 v_7 => image_Sound_l1 c n_6 v_7) (.inl ()) ((n + 1 : Nat) : Int) (lookV q.1 q.2) = some (.inl (), true) := by
          rw [hq, if_neg (by decide)] at e0; simp only [yT2, e0]
        rw [e3, bind_s, cond_t, ih]; rfl
  have hk := key (allPages c) 0 fun j hj => by rw [Nat.zero_add, List.getElem?_eq_getElem hj]
  have hk : foldS (yT2 fun (s : Unit) n_6 v_7 => image_Sound_l1 c n_6 v_7) 0 (.inl ()) (sheetsOf c) = _ := hk
  rw [sheets_eq hc _ hk, bind_s]
  unfold soundB
  cases (allPages c).all fun p => !badP p with
  | true => rw [if_pos rfl, elS_inl]
  | false => rw [if_neg (by decide), elS_inr]
end Go.Proofs.Ytefmfhbkihplgaa.Tr
namespace Go.Proofs.Ytefmfhbkihplgaa.Tr
open Go
section
variable {α : Type} [Inhabited α]
def nth (l : List α) (k : Int) : α := (l[k.toNat]?).getD default
theorem idx_nth {l : List α} {k : Int} (h0 : 0 ≤ k) (h : k < l.length) : idx l k = some (nth l k) := by
  have h2 : k.toNat < l.length := by omega
  unfold idx nth
  rw [if_pos h0, List.getElem?_eq_getElem h2]; rfl
theorem nth_get {l : List α} {k : Nat} (h : k < l.length) : nth l (k : Int) = l[k] := by
  unfold nth
  rw [Int.toNat_natCast, List.getElem?_eq_getElem h]; rfl
theorem nth_set {l : List α} {p k : Int} {v : α} (h0 : 0 ≤ p) (h : p < l.length) (hk : 0 ≤ k) : nth (l.set p.toNat v) k = if k = p then v else nth l k := by
  unfold nth
  rw [List.getElem?_set]
  by_cases e : k = p
  · subst e
    rw [if_pos rfl, if_pos rfl, if_pos (by omega)]; rfl
  · rw [if_neg e, if_neg (by omega)]
def sw (l : List α) (p q : Int) : List α := (l.set q.toNat (nth l p)).set p.toNat (nth l q)
theorem sw_len {l : List α} {p q : Int} : (sw l p q).length = l.length := by simp [sw]
theorem nth_sw {l : List α} {p q k : Int} (hp : 0 ≤ p) (hp2 : p < l.length) (hq : 0 ≤ q) (hq2 : q < l.length) (hk : 0 ≤ k) : nth (sw l p q) k = if k = p then nth l q else if k = q then nth l p else nth l k := by
  unfold sw
  rw [nth_set hp (by simp; omega) hk, nth_set hq hq2 hk]
theorem sw_perm {l : List α} {p q : Int} (hp : 0 ≤ p) (hp2 : p < l.length) (hq : 0 ≤ q) (hq2 : q < l.length) : (sw l p q).Perm l := by
  have h1 : nth l p = l[p.toNat]'(by omega) := by unfold nth; rw [List.getElem?_eq_getElem (by omega)]; rfl
  have h2 : nth l q = l[q.toNat]'(by omega) := by unfold nth; rw [List.getElem?_eq_getElem (by omega)]; rfl
  unfold sw
  rw [h1, h2]
  exact List.set_set_perm (by omega) (by omega)
structure Same (l l' : List α) (a b : Int) : Prop where
  len : l'.length = l.length
  perm : l'.Perm l
  out : ∀ k, 0 ≤ k → (k < a ∨ b ≤ k) → nth l' k = nth l k
  src : ∀ k, a ≤ k → k < b → ∃ j, a ≤ j ∧ j < b ∧ nth l' k = nth l j
theorem Same.rf {l : List α} {a b : Int} : Same l l a b := ⟨rfl, .refl _, fun _ _ _ => rfl, fun k h1 h2 => ⟨k, h1, h2, rfl⟩⟩
theorem Same.tr {l l' l'' : List α} {a b : Int} (h : Same l l' a b) (g : Same l' l'' a b) : Same l l'' a b :=
  ⟨g.len.trans h.len, g.perm.trans h.perm, fun k h1 h2 => (g.out k h1 h2).trans (h.out k h1 h2), fun k h1 h2 =>
    let ⟨j, h3, h4, e⟩ := g.src k h1 h2
    let ⟨i, h5, h6, e2⟩ := h.src j h3 h4
    ⟨i, h5, h6, e.trans e2⟩⟩
theorem Same.up {l l' : List α} {a b c d : Int} (h : Same l l' a b) (h0 : 0 ≤ c) (h1 : c ≤ a) (h2 : b ≤ d) : Same l l' c d :=
  ⟨h.len, h.perm, fun k h3 h4 => h.out k h3 (by omega), fun k h3 h4 => by
    by_cases e : a ≤ k ∧ k < b
    · obtain ⟨j, h5, h6, h7⟩ := h.src k e.1 e.2
      exact ⟨j, by omega, by omega, h7⟩
    · exact ⟨k, h3, h4, h.out k (by omega) (by omega)⟩⟩
theorem Same.sw {l : List α} {a b p q : Int} (h0 : 0 ≤ a) (hb : b ≤ l.length) (hp : a ≤ p) (hp2 : p < b) (hq : a ≤ q) (hq2 : q < b) : Same l (sw l p q) a b :=
  ⟨sw_len, sw_perm (by omega) (by omega) (by omega) (by omega), fun k h1 h2 => by
    rw [nth_sw (by omega) (by omega) (by omega) (by omega) h1, if_neg (by omega), if_neg (by omega)], fun k h1 h2 => by
    rw [nth_sw (by omega) (by omega) (by omega) (by omega) (by omega)]
    split
    · exact ⟨q, hq, hq2, rfl⟩
    · split
      · exact ⟨p, hp, hp2, rfl⟩
      · exact ⟨k, h1, h2, rfl⟩⟩
structure Weak (lt : α → α → Bool) : Prop where
  asym : ∀ x y, lt x y = true → lt y x = false
  tr : ∀ x y z, lt y x = false → lt z y = false → lt z x = false
omit [Inhabited α] in
theorem Weak.rf {lt : α → α → Bool} (h : Weak lt) (x : α) : lt x x = false := by
  cases e : lt x x with
  | false => rfl
  | true => rw [← e, h.asym x x e]
def Srt (lt : α → α → Bool) (l : List α) (a b : Int) : Prop := ∀ p q, a ≤ p → p < q → q < b → lt (nth l q) (nth l p) = false
theorem Srt.same {lt : α → α → Bool} {l l' : List α} {a b c d : Int} (h : Srt lt l a b) (g : Same l l' c d) (h0 : 0 ≤ a) (hd : b ≤ c ∨ d ≤ a) : Srt lt l' a b := fun p q h1 h2 h3 => by
  rw [g.out p (by omega) (by omega), g.out q (by omega) (by omega)]; exact h p q h1 h2 h3
variable {lt : α → α → Bool} (W : Weak lt)
include W
def But (lt : α → α → Bool) (l : List α) (a i j : Int) : Prop := ∀ p q, a ≤ p → p < q → q ≤ i → q ≠ j → lt (nth l q) (nth l p) = false
theorem But.done {l : List α} {a i j : Int} (h : But lt l a i j) (hj : a ≤ j) (hij : j ≤ i) (he : j ≤ a ∨ lt (nth l j) (nth l (j - 1)) = false) : Srt lt l a (i + 1) := fun p q h1 h2 h3 => by
  by_cases e : q = j
  · subst e
    rcases he with he | he
    · omega
    · by_cases e2 : p = q - 1
      · subst e2; exact he
      · exact W.tr _ _ _ (h p (q - 1) h1 (by omega) (by omega) (by omega)) he
  · exact h p q h1 h2 (by omega) e
theorem But.step {l : List α} {a i j : Int} (h : But lt l a i j) (h0 : 0 ≤ a) (hl : i < l.length) (hj : a < j) (hij : j ≤ i) (he : lt (nth l j) (nth l (j - 1)) = true) : But lt (sw l (j - 1) j) a i (j - 1) := fun p q h1 h2 h3 h4 => by
  have hs : ∀ k, 0 ≤ k → nth (sw l (j - 1) j) k = if k = j - 1 then nth l j else if k = j then nth l (j - 1) else nth l k := fun k hk => nth_sw (by omega) (by omega) (by omega) (by omega) hk
  rw [hs q (by omega), hs p (by omega), if_neg h4]
  by_cases e : q = j
  · rw [if_pos e]
    by_cases e2 : p = j - 1
    · rw [if_pos e2]; exact W.asym _ _ he
    · rw [if_neg e2, if_neg (by omega)]; exact h p (j - 1) h1 (by omega) (by omega) (by omega)
  · rw [if_neg e]
    by_cases e2 : p = j - 1
    · rw [if_pos e2]; exact h j q (by omega) (by omega) h3 e
    · rw [if_neg e2]
      by_cases e3 : p = j
      · rw [if_pos e3]; exact h (j - 1) q (by omega) (by omega) h3 e
      · rw [if_neg e3]; exact h p q h1 h2 h3 e
omit W in
theorem But.of {l : List α} {a i : Int} (h : Srt lt l a i) : But lt l a i i := fun p q h1 h2 h3 h4 => h p q h1 h2 (by omega)
def Hp (lt : α → α → Bool) (l : List α) (f lo n : Int) : Prop := ∀ k c, lo ≤ k → (c = 2 * k + 1 ∨ c = 2 * k + 2) → c < n → lt (nth l (f + k)) (nth l (f + c)) = false
def HpBut (lt : α → α → Bool) (l : List α) (f lo n r : Int) : Prop := (∀ k c, lo ≤ k → k ≠ r → (c = 2 * k + 1 ∨ c = 2 * k + 2) → c < n → lt (nth l (f + k)) (nth l (f + c)) = false) ∧ ∀ k c, lo ≤ k → (r = 2 * k + 1 ∨ r = 2 * k + 2) → (c = 2 * r + 1 ∨ c = 2 * r + 2) → c < n → lt (nth l (f + k)) (nth l (f + c)) = false
omit W in
theorem HpBut.done {l : List α} {f lo n r : Int} (h : HpBut lt l f lo n r) (g : ∀ c, (c = 2 * r + 1 ∨ c = 2 * r + 2) → c < n → lt (nth l (f + r)) (nth l (f + c)) = false) : Hp lt l f lo n := fun k c h1 h2 h3 => by
  by_cases e : k = r
  · subst e; exact g c h2 h3
  · exact h.1 k c h1 e h2 h3
theorem HpBut.step {l : List α} {f lo n r c : Int} (h : HpBut lt l f lo n r) (h0 : 0 ≤ f) (hlo : 0 ≤ lo) (hr : lo ≤ r) (hn : f + n ≤ l.length) (hc : c = 2 * r + 1 ∨ c = 2 * r + 2) (hcn : c < n) (ho : ∀ d, (d = 2 * r + 1 ∨ d = 2 * r + 2) → d < n → lt (nth l (f + c)) (nth l (f + d)) = false) (he : lt (nth l (f + r)) (nth l (f + c)) = true) : HpBut lt (sw l (f + c) (f + r)) f lo n c := by
  have hs : ∀ k, 0 ≤ k → nth (sw l (f + c) (f + r)) (f + k) = if k = c then nth l (f + r) else if k = r then nth l (f + c) else nth l (f + k) := fun k hk => by
    rw [nth_sw (by omega) (by omega) (by omega) (by omega) (by omega)]
    by_cases e : k = c
    · rw [if_pos e, if_pos (by omega)]
    · rw [if_neg e, if_neg (by omega)]
      by_cases e : k = r
      · rw [if_pos e, if_pos (by omega)]
      · rw [if_neg e, if_neg (by omega)]
  refine ⟨fun k d h1 h2 h3 h4 => ?_, fun k d h1 h2 h3 h4 => ?_⟩
  · rw [hs k (by omega), hs d (by omega), if_neg h2]
    by_cases e : k = r
    · rw [if_pos e]
      subst e
      by_cases e2 : d = c
      · rw [if_pos e2]; exact W.asym _ _ he
      · rw [if_neg e2, if_neg (by omega)]; exact ho d h3 h4
    · rw [if_neg e, if_neg (by omega)]
      by_cases e2 : d = r
      · rw [if_pos e2]; subst e2; exact h.2 k c h1 h3 hc hcn
      · rw [if_neg e2]; exact h.1 k d h1 e h3 h4
  · rw [hs k (by omega), hs d (by omega), if_neg (by omega), if_pos (by omega), if_neg (by omega), if_neg (by omega)]
    exact h.1 c d (by omega) (by omega) h3 h4
theorem Hp.top {l : List α} {f n : Int} (h : Hp lt l f 0 n) : ∀ (m : Nat) (k : Int), k.toNat ≤ m → 0 ≤ k → k < n → lt (nth l f) (nth l (f + k)) = false := by
  intro m
  induction m with
  | zero => intro k h1 h2 h3
            have : k = 0 := by omega
            subst this; rw [Int.add_zero]; exact W.rf _
  | succ m ih =>
    intro k h1 h2 h3
    by_cases e : k = 0
    · subst e; rw [Int.add_zero]; exact W.rf _
    · exact W.tr _ _ _ (h ((k - 1) / 2) k (by omega) (by omega) h3) (ih ((k - 1) / 2) (by omega) (by omega) (by omega))
end
end Go.Proofs.Ytefmfhbkihplgaa.Tr
namespace Go.Proofs.Ytefmfhbkihplgaa.Tr
open Go
set_option maxHeartbeats 1000000
def lt64 (x y : UInt64) : Bool := decide (x < y)
theorem weak64 : Weak lt64 := ⟨fun x y h => by
  have := of_decide_eq_true h
  refine decide_eq_false ?_; rw [UInt64.lt_iff_toNat_lt] at *; omega, fun x y z h g => by
  have h := of_decide_eq_false h
  have g := of_decide_eq_false g
  refine decide_eq_false ?_; rw [UInt64.lt_iff_toNat_lt] at *; omega⟩
theorem less64 (x y : UInt64) : cmp_Less_uint64 x y = some (lt64 x y) := by
  unfold cmp_Less_uint64 cmp_isNaN_uint64
  have e : decide (x ≠ x) = false := decide_eq_false (fun h => h rfl)
  rw [bind_s, e, gb_false, bind_s]; rfl
theorem dt_ {p : Prop} [Decidable p] (h : p) : decide p = true := decide_eq_true h
theorem df_ {p : Prop} [Decidable p] (h : ¬ p) : decide p = false := decide_eq_false h
theorem sw_fold {α : Type} [Inhabited α] {l : List α} {p q : Int} : (l.set (Int.toNat q) (nth l p)).set (Int.toNat p) (nth l q) = sw l p q := Eq.trans rfl rfl
theorem ins_get {l : List UInt64} {a b : Int} (h0 : 0 ≤ a) (hab : a ≤ b) (hb : b ≤ l.length) (hl : (l.length : Int) ≤ 281474976710656) : Gets (slices_insertionSortOrdered_uint64 l a b) (fun l' => Same l l' a b ∧ Srt lt64 l' a b) := by
  unfold slices_insertionSortOrdered_uint64; (simp (disch := first | omega | (simp only [List.length_set, sw_len]; omega)) only [idx_nth, addI_ok, subI_ok, mulI_ok, quoI_ok, bind_s, gb_true, gb_false, cond_t, cond_f, dt_, df_, Bool.true_and, Bool.false_and, Bool.not_true, Bool.not_false, el2, el3, el4, elS_inl, elS_inr, less64, sw_fold, lenI_ok])
  refine Gets.b (Gets.loop (I := fun s => a < s.1 ∧ (s.1 ≤ b ∨ s.1 = a + 1) ∧ Same l s.2 a b ∧ Srt lt64 s.2 a s.1) (μ := fun s => (b - s.1).toNat) (fun s hs => ?_) ⟨by dsimp only; omega, .inr rfl, .rf, fun p q h1 h2 h3 => by dsimp only at h3; omega⟩ (by dsimp only; omega)) (fun v hv => .s hv)
  obtain ⟨i, d⟩ := s
  obtain ⟨h1, h2, h3, h4⟩ := hs
  dsimp only at *
  have hL := h3.len
  unfold slices_insertionSortOrdered_uint64_l1
  refine Gets.c (fun e => ?_) (fun e => ?_)
  · have e := of_decide_eq_true e
    refine Gets.b (Gets.loop (I := fun s => a ≤ s.1 ∧ s.1 ≤ i ∧ Same l s.2 a b ∧ But lt64 s.2 a i s.1) (μ := fun s => s.1.toNat) (R := fun d' => Same l d' a b ∧ Srt lt64 d' a (i + 1)) (fun s hs => ?_) ⟨by dsimp only; omega, by dsimp only; omega, h3, But.of h4⟩ (by dsimp only; omega)) (fun d' hd' => ?_)
    · obtain ⟨j, d⟩ := s
      obtain ⟨h5, h6, h7, h8⟩ := hs
      dsimp only at *
      have hL := h7.len
      unfold slices_insertionSortOrdered_uint64_l2
      by_cases hj : a < j
      · (simp (disch := first | omega | (simp only [List.length_set, sw_len]; omega)) only [idx_nth, addI_ok, subI_ok, mulI_ok, quoI_ok, bind_s, gb_true, gb_false, cond_t, cond_f, dt_, df_, Bool.true_and, Bool.false_and, Bool.not_true, Bool.not_false, el2, el3, el4, elS_inl, elS_inr, less64, sw_fold, lenI_ok])
        refine Gets.c (fun e => ?_) (fun e => ?_)
        · exact .l ⟨by dsimp only; omega, by dsimp only; omega, h7.tr (.sw h0 (by omega) (by omega) (by omega) (by omega) (by omega)), But.step weak64 h8 h0 (by omega) hj h6 e⟩ (by dsimp only; omega)
        · exact .r ⟨h7, But.done weak64 h8 h5 h6 (.inr e)⟩
      · (simp (disch := first | omega | (simp only [List.length_set, sw_len]; omega)) only [idx_nth, addI_ok, subI_ok, mulI_ok, quoI_ok, bind_s, gb_true, gb_false, cond_t, cond_f, dt_, df_, Bool.true_and, Bool.false_and, Bool.not_true, Bool.not_false, el2, el3, el4, elS_inl, elS_inr, less64, sw_fold, lenI_ok])
        exact .r ⟨h7, But.done weak64 h8 h5 h6 (.inl (by omega))⟩
    · (simp (disch := first | omega | (simp only [List.length_set, sw_len]; omega)) only [idx_nth, addI_ok, subI_ok, mulI_ok, quoI_ok, bind_s, gb_true, gb_false, cond_t, cond_f, dt_, df_, Bool.true_and, Bool.false_and, Bool.not_true, Bool.not_false, el2, el3, el4, elS_inl, elS_inr, less64, sw_fold, lenI_ok])
      exact .l ⟨by dsimp only; omega, by dsimp only; omega, hd'.1, hd'.2⟩ (by dsimp only; omega)
  · have e := of_decide_eq_false e
    exact .r ⟨h3, fun p q g1 g2 g3 => h4 p q g1 g2 (by omega)⟩
theorem sift_get {l : List UInt64} {lo hi f : Int} (h0 : 0 ≤ lo) (hf : 0 ≤ f) (hlo : lo ≤ l.length) (hfn : f + hi ≤ l.length) (hl : (l.length : Int) ≤ 281474976710656) (hB : HpBut lt64 l f lo hi lo) : Gets (slices_siftDownOrdered_uint64 l lo hi f) (fun l' => Same l l' f (f + hi) ∧ Hp lt64 l' f lo hi) := by
  unfold slices_siftDownOrdered_uint64
  refine Gets.b (Gets.loop (I := fun s => lo ≤ s.1 ∧ s.1 ≤ (l.length : Int) ∧ Same l s.2 f (f + hi) ∧ HpBut lt64 s.2 f lo hi s.1) (μ := fun (s : Int × List UInt64) => ((l.length : Int) - s.1).toNat) (R := Sum.elim (fun l' => Same l l' f (f + hi) ∧ Hp lt64 l' f lo hi) (fun l' => Same l l' f (f + hi) ∧ Hp lt64 l' f lo hi)) (fun s hs => ?_) ⟨by dsimp only; omega, by dsimp only; omega, .rf, hB⟩ (by dsimp only; omega)) (fun v hv => ?_)
  · obtain ⟨r, d⟩ := s
    obtain ⟨h1, h2, h3, h4⟩ := hs
    dsimp only at *
    have hL := h3.len
    unfold slices_siftDownOrdered_uint64_l1
    by_cases c : 2 * r + 1 ≥ hi
    · (simp (disch := first | omega | (simp only [List.length_set, sw_len]; omega)) only [idx_nth, addI_ok, subI_ok, mulI_ok, quoI_ok, bind_s, gb_true, gb_false, cond_t, cond_f, dt_, df_, Bool.true_and, Bool.false_and, Bool.not_true, Bool.not_false, el2, el3, el4, elS_inl, elS_inr, less64, sw_fold, lenI_ok])
      exact .r (show _ ∧ _ from ⟨h3, h4.done (fun c hc hcn => by omega)⟩)
    · simp (disch := omega) only [addI_ok, mulI_ok, bind_s, df_, cond_f]
      refine Gets.b (P := fun c => (c = 2 * r + 1 ∨ c = 2 * r + 2) ∧ c < hi ∧ ∀ d', (d' = 2 * r + 1 ∨ d' = 2 * r + 2) → d' < hi → lt64 (nth d (f + c)) (nth d (f + d')) = false) ?_ (fun c hc => ?_)
      · by_cases c2 : 2 * r + 2 < hi
        · (simp (disch := first | omega | (simp only [List.length_set, sw_len]; omega)) only [idx_nth, addI_ok, subI_ok, mulI_ok, quoI_ok, bind_s, gb_true, gb_false, cond_t, cond_f, dt_, df_, Bool.true_and, Bool.false_and, Bool.not_true, Bool.not_false, el2, el3, el4, elS_inl, elS_inr, less64, sw_fold, lenI_ok])
          have e1 : f + (2 * r + 1) + 1 = f + (2 * r + 2) := by omega
          have e2 : 2 * r + 1 + 1 = 2 * r + 2 := by omega
          rw [e1, e2]
          refine Gets.c (fun e => ?_) (fun e => ?_)
          · refine .s ⟨.inr rfl, c2, fun d' g1 g2 => ?_⟩
            rcases g1 with rfl | rfl
            · exact weak64.asym _ _ e
            · exact weak64.rf _
          · refine .s ⟨.inl rfl, by omega, fun d' g1 g2 => ?_⟩
            rcases g1 with rfl | rfl
            · exact weak64.rf _
            · exact e
        · (simp (disch := first | omega | (simp only [List.length_set, sw_len]; omega)) only [idx_nth, addI_ok, subI_ok, mulI_ok, quoI_ok, bind_s, gb_true, gb_false, cond_t, cond_f, dt_, df_, Bool.true_and, Bool.false_and, Bool.not_true, Bool.not_false, el2, el3, el4, elS_inl, elS_inr, less64, sw_fold, lenI_ok])
          refine .s ⟨.inl rfl, by omega, fun d' g1 g2 => ?_⟩
          have : d' = 2 * r + 1 := by omega
          subst this
          exact weak64.rf _
      · obtain ⟨c1, c2, c3⟩ := hc
        (simp (disch := first | omega | (simp only [List.length_set, sw_len]; omega)) only [idx_nth, addI_ok, subI_ok, mulI_ok, quoI_ok, bind_s, gb_true, gb_false, cond_t, cond_f, dt_, df_, Bool.true_and, Bool.false_and, Bool.not_true, Bool.not_false, el2, el3, el4, elS_inl, elS_inr, less64, sw_fold, lenI_ok])
        refine Gets.c (fun e => ?_) (fun e => ?_)
        · refine .r (show _ ∧ _ from ⟨h3, h4.done (fun c' hc' hcn => ?_)⟩)
          have e : lt64 (nth d (f + r)) (nth d (f + c)) = false := by simpa using e
          exact weak64.tr _ _ _ (c3 c' hc' hcn) e
        · have e : lt64 (nth d (f + r)) (nth d (f + c)) = true := by simpa using e
          exact .l ⟨by dsimp only; omega, by dsimp only; omega, h3.tr (.sw hf (by omega) (by omega) (by omega) (by omega) (by omega)), h4.step weak64 hf h0 h1 (by omega) c1 c2 c3 e⟩ (by dsimp only; omega)
  · rcases v with v | v
    · exact .elSl (.s hv)
    · exact .elSr (.s hv)
theorem heap_get {l : List UInt64} {a b : Int} (h0 : 0 ≤ a) (hab : a < b) (hb : b ≤ l.length) (hl : (l.length : Int) ≤ 281474976710656) : Gets (slices_heapSortOrdered_uint64 l a b) (fun l' => Same l l' a b ∧ Srt lt64 l' a b) := by
  unfold slices_heapSortOrdered_uint64; (simp (disch := first | omega | (simp only [List.length_set, sw_len]; omega)) only [idx_nth, addI_ok, subI_ok, mulI_ok, quoI_ok, bind_s, gb_true, gb_false, cond_t, cond_f, dt_, df_, Bool.true_and, Bool.false_and, Bool.not_true, Bool.not_false, el2, el3, el4, elS_inl, elS_inr, less64, sw_fold, lenI_ok])
  refine Gets.b (Gets.loop (I := fun s => -1 ≤ s.1 ∧ s.1 ≤ (b - a - 1) / 2 ∧ Same l s.2 a b ∧ Hp lt64 s.2 a (s.1 + 1) (b - a)) (μ := fun s => (s.1 + 1).toNat) (R := fun d => Same l d a b ∧ Hp lt64 d a 0 (b - a)) (fun s hs => ?_) ⟨by dsimp only; omega, by dsimp only; omega, .rf, fun k c h1 h2 h3 => by dsimp only at h1; omega⟩ (by dsimp only; omega)) (fun d hd => ?_)
  · obtain ⟨i, d⟩ := s
    obtain ⟨h1, h2, h3, h4⟩ := hs
    dsimp only at *
    have hL := h3.len
    unfold slices_heapSortOrdered_uint64_l1
    by_cases c : i ≥ 0
    · (simp (disch := first | omega | (simp only [List.length_set, sw_len]; omega)) only [idx_nth, addI_ok, subI_ok, mulI_ok, quoI_ok, bind_s, gb_true, gb_false, cond_t, cond_f, dt_, df_, Bool.true_and, Bool.false_and, Bool.not_true, Bool.not_false, el2, el3, el4, elS_inl, elS_inr, less64, sw_fold, lenI_ok])
      refine Gets.b (sift_get c h0 (by omega) (by omega) (by omega) ⟨fun k c h5 h6 h7 h8 => h4 k c (by omega) h7 h8, fun k c h5 h6 h7 h8 => by omega⟩) (fun d' hd' => ?_)
      obtain ⟨g1, g2⟩ := hd'
      have hL := g1.len
      (simp (disch := first | omega | (simp only [List.length_set, sw_len]; omega)) only [idx_nth, addI_ok, subI_ok, mulI_ok, quoI_ok, bind_s, gb_true, gb_false, cond_t, cond_f, dt_, df_, Bool.true_and, Bool.false_and, Bool.not_true, Bool.not_false, el2, el3, el4, elS_inl, elS_inr, less64, sw_fold, lenI_ok])
      exact .l ⟨by dsimp only; omega, by dsimp only; omega, h3.tr (g1.up h0 (by omega) (by omega)), by dsimp only; rw [show i - 1 + 1 = i by omega]; exact g2⟩ (by dsimp only; omega)
    · (simp (disch := first | omega | (simp only [List.length_set, sw_len]; omega)) only [idx_nth, addI_ok, subI_ok, mulI_ok, quoI_ok, bind_s, gb_true, gb_false, cond_t, cond_f, dt_, df_, Bool.true_and, Bool.false_and, Bool.not_true, Bool.not_false, el2, el3, el4, elS_inl, elS_inr, less64, sw_fold, lenI_ok])
      exact .r ⟨h3, fun k c g1 g2 g3 => h4 k c (by omega) g2 g3⟩
  · obtain ⟨hS, hH⟩ := hd
    refine Gets.b (Gets.loop (I := fun s => -1 ≤ s.1 ∧ s.1 ≤ b - a - 1 ∧ Same l s.2 a b ∧ Hp lt64 s.2 a 0 (s.1 + 1) ∧ ∀ p q, a ≤ p → p < q → q < b → a + s.1 < q → lt64 (nth s.2 q) (nth s.2 p) = false) (μ := fun s => (s.1 + 1).toNat) (R := fun d => Same l d a b ∧ Srt lt64 d a b) (fun s hs => ?_) ⟨by dsimp only; omega, by dsimp only; omega, hS, by dsimp only; rw [show b - a - 1 + 1 = b - a by omega]; exact hH, fun p q g1 g2 g3 g4 => by dsimp only at g4; omega⟩ (by dsimp only; omega)) (fun d hd => .s hd)
    obtain ⟨i, d⟩ := s
    obtain ⟨h1, h2, h3, h4, h5⟩ := hs
    dsimp only at *
    have hL := h3.len
    unfold slices_heapSortOrdered_uint64_l2
    by_cases c : i ≥ 0
    · (simp (disch := first | omega | (simp only [List.length_set, sw_len]; omega)) only [idx_nth, addI_ok, subI_ok, mulI_ok, quoI_ok, bind_s, gb_true, gb_false, cond_t, cond_f, dt_, df_, Bool.true_and, Bool.false_and, Bool.not_true, Bool.not_false, el2, el3, el4, elS_inl, elS_inr, less64, sw_fold, lenI_ok])
      have hs : ∀ k, 0 ≤ k → nth (sw d (a + i) a) k = if k = a + i then nth d a else if k = a then nth d (a + i) else nth d k := fun k hk => nth_sw (by omega) (by omega) (by omega) (by omega) hk
      have hW : Same d (sw d (a + i) a) a (a + (i + 1)) := .sw h0 (by omega) (by omega) (by omega) (by omega) (by omega)
      refine Gets.b (sift_get (by omega) h0 (by omega) (by rw [sw_len]; omega) (by rw [sw_len]; omega) ⟨fun k c g1 g2 g3 g4 => ?_, fun k c g1 g2 g3 g4 => by omega⟩) (fun d' hd' => ?_)
      · rw [hs _ (by omega), hs _ (by omega), if_neg (by omega), if_neg (by omega), if_neg (by omega), if_neg (by omega)]
        exact h4 k c g1 g3 (by omega)
      · obtain ⟨g1, g2⟩ := hd'
        have hL2 := g1.len
        rw [sw_len] at hL2
        (simp (disch := first | omega | (simp only [List.length_set, sw_len]; omega)) only [idx_nth, addI_ok, subI_ok, mulI_ok, quoI_ok, bind_s, gb_true, gb_false, cond_t, cond_f, dt_, df_, Bool.true_and, Bool.false_and, Bool.not_true, Bool.not_false, el2, el3, el4, elS_inl, elS_inr, less64, sw_fold, lenI_ok])
        have hD : Same d d' a (a + (i + 1)) := hW.tr (g1.up h0 (by omega) (by omega))
        refine .l ⟨by dsimp only; omega, by dsimp only; omega, h3.tr (hD.up h0 (by omega) (by omega)), by dsimp only; rw [show i - 1 + 1 = i by omega]; exact g2, fun p q k1 k2 k3 k4 => ?_⟩ (by dsimp only; omega)
        dsimp only at *
        by_cases e : q = a + i
        · have e2 : nth d' q = nth d a := by rw [g1.out q (by omega) (by omega), hs q (by omega), if_pos e]
          obtain ⟨j, j1, j2, j3⟩ := hD.src p k1 (by omega)
          rw [e2, j3]
          have := h4.top weak64 (j - a).toNat (j - a) (Nat.le_refl _) (by omega) (by omega)
          rw [show a + (j - a) = j by omega] at this
          exact this
        · rw [hD.out q (by omega) (by omega)]
          by_cases e3 : p < a + (i + 1)
          · obtain ⟨j, j1, j2, j3⟩ := hD.src p k1 e3
            rw [j3]; exact h5 j q j1 (by omega) k3 (by omega)
          · rw [hD.out p (by omega) (by omega)]; exact h5 p q k1 k2 k3 (by omega)
    · (simp (disch := first | omega | (simp only [List.length_set, sw_len]; omega)) only [idx_nth, addI_ok, subI_ok, mulI_ok, quoI_ok, bind_s, gb_true, gb_false, cond_t, cond_f, dt_, df_, Bool.true_and, Bool.false_and, Bool.not_true, Bool.not_false, el2, el3, el4, elS_inl, elS_inr, less64, sw_fold, lenI_ok])
      exact .r ⟨h3, fun p q g1 g2 g3 => h5 p q g1 g2 g3 (by omega)⟩
theorem rev_get {l : List UInt64} {a b : Int} (h0 : 0 ≤ a) (hab : a ≤ b) (hb : b ≤ l.length) (hl : (l.length : Int) ≤ 281474976710656) : Gets (slices_reverseRangeOrdered_uint64 l a b) (fun l' => Same l l' a b) := by
  unfold slices_reverseRangeOrdered_uint64; (simp (disch := first | omega | (simp only [List.length_set, sw_len]; omega)) only [idx_nth, addI_ok, subI_ok, mulI_ok, quoI_ok, bind_s, gb_true, gb_false, cond_t, cond_f, dt_, df_, Bool.true_and, Bool.false_and, Bool.not_true, Bool.not_false, el2, el3, el4, elS_inl, elS_inr, less64, sw_fold, lenI_ok])
  refine Gets.b (Gets.loop (I := fun s => a ≤ s.1 ∧ s.2.1 < b ∧ s.1 ≤ s.2.1 + 2 ∧ Same l s.2.2 a b) (μ := fun s => (b - s.1).toNat) (R := fun d => Same l d a b) (fun s hs => ?_) ⟨by dsimp only; omega, by dsimp only; omega, by dsimp only; omega, .rf⟩ (by dsimp only; omega)) (fun d hd => .s hd)
  obtain ⟨i, j, d⟩ := s
  obtain ⟨h1, h2, h3, h4⟩ := hs
  dsimp only at *
  have hL := h4.len
  unfold slices_reverseRangeOrdered_uint64_l1
  by_cases c : i < j
  · (simp (disch := first | omega | (simp only [List.length_set, sw_len]; omega)) only [idx_nth, addI_ok, subI_ok, mulI_ok, quoI_ok, bind_s, gb_true, gb_false, cond_t, cond_f, dt_, df_, Bool.true_and, Bool.false_and, Bool.not_true, Bool.not_false, el2, el3, el4, elS_inl, elS_inr, less64, sw_fold, lenI_ok])
    exact .l ⟨by dsimp only; omega, by dsimp only; omega, by dsimp only; omega, h4.tr (.sw h0 (by omega) (by omega) (by omega) (by omega) (by omega))⟩ (by dsimp only; omega)
  · (simp (disch := first | omega | (simp only [List.length_set, sw_len]; omega)) only [idx_nth, addI_ok, subI_ok, mulI_ok, quoI_ok, bind_s, gb_true, gb_false, cond_t, cond_f, dt_, df_, Bool.true_and, Bool.false_and, Bool.not_true, Bool.not_false, el2, el3, el4, elS_inl, elS_inr, less64, sw_fold, lenI_ok])
    exact .r h4
end Go.Proofs.Ytefmfhbkihplgaa.Tr
namespace Go.Proofs.Ytefmfhbkihplgaa.Tr
open Go
set_option maxHeartbeats 1000000
theorem shr_n (n : UInt64) (s : Int) : (shr64 n s).toNat = n.toNat / 2 ^ s.toNat := by
  have h := n.toNat_lt
  have h2 : n.toNat / 2 ^ s.toNat ≤ n.toNat := Nat.div_le_self _ _
  unfold shr64
  rw [UInt64.toNat_ofNat']
  exact Nat.mod_eq_of_lt (by omega)
theorem half_le {m x k n : Nat} (h : 2 ^ m * x ≤ n) : 2 ^ (m + k) * (x / 2 ^ k) ≤ n := by
  rw [Nat.pow_add, Nat.mul_assoc]
  exact Nat.le_trans (Nat.mul_le_mul_left _ (Nat.mul_div_le x (2 ^ k))) h
set_option maxRecDepth 100000 in
theorem tab8 : ∀ v : Fin 256, (math_bits_Len64_t1.getD v.val 0).toNat ≤ 8 ∧ (1 ≤ v.val → 2 ^ (math_bits_Len64_t1.getD v.val 0).toNat ≤ 2 * v.val) := by decide +kernel
theorem tab8l : math_bits_Len64_t1.length = 256 := by decide +kernel
theorem len_get (n : UInt64) : Gets (math_bits_Len n) (fun k => 0 ≤ k ∧ k ≤ 64 ∧ (1 ≤ n.toNat → 2 ^ k.toNat ≤ 2 * n.toNat)) := by
  unfold math_bits_Len
  rw [cond_f]
  refine Gets.b ?_ (fun v hv => .s hv)
  unfold math_bits_Len64
  have hn := n.toNat_lt
  refine Gets.b (P := fun o => ∃ m : Nat, o.2 = (m : Int) ∧ m ≤ 32 ∧ (1 ≤ n.toNat → 1 ≤ o.1.toNat) ∧ o.1.toNat < 4294967296 ∧ 2 ^ m * o.1.toNat ≤ n.toNat) ?_ (fun o ho => ?_)
  · refine Gets.c (fun e => ?_) (fun e => ?_)
    · have e := of_decide_eq_true e
      rw [UInt64.le_iff_toNat_le] at e
      have e : 4294967296 ≤ n.toNat := e
      have hs : (shr64 n ((UInt64.ofNat 32).toNat : Int)).toNat = n.toNat / 4294967296 := shr_n _ _
      refine .s ⟨32, rfl, by omega, fun _ => ?_, ?_, ?_⟩
      · rw [hs]; omega
      · rw [hs]; omega
      · rw [hs]; have := Nat.mul_div_le n.toNat 4294967296; simpa using this
    · have e := of_decide_eq_false e
      rw [UInt64.le_iff_toNat_le] at e
      have e : ¬ 4294967296 ≤ n.toNat := e
      exact .s ⟨0, rfl, by omega, fun h => h, by dsimp only; omega, by simp⟩
  obtain ⟨x, n2⟩ := o
  obtain ⟨m, h1, h2, h3, h4, h5⟩ := ho
  dsimp only at *
  subst h1
  simp only [el2]
  refine Gets.b (P := fun o => ∃ m : Nat, o.2 = (m : Int) ∧ m ≤ 48 ∧ (1 ≤ n.toNat → 1 ≤ o.1.toNat) ∧ o.1.toNat < 65536 ∧ 2 ^ m * o.1.toNat ≤ n.toNat) ?_ (fun o ho => ?_)
  · refine Gets.c (fun e => ?_) (fun e => ?_)
    · have e := of_decide_eq_true e
      rw [UInt64.le_iff_toNat_le] at e
      have e : 65536 ≤ x.toNat := e
      have hs : (shr64 x ((UInt64.ofNat 16).toNat : Int)).toNat = x.toNat / 2 ^ 16 := shr_n _ _
      (simp (disch := first | omega | (simp only [List.length_set, sw_len]; omega)) only [idx_nth, addI_ok, subI_ok, mulI_ok, quoI_ok, bind_s, gb_true, gb_false, cond_t, cond_f, dt_, df_, Bool.true_and, Bool.false_and, Bool.not_true, Bool.not_false, el2, el3, el4, elS_inl, elS_inr, less64, sw_fold, lenI_ok])
      refine .s ⟨m + 16, rfl, by omega, fun _ => ?_, ?_, ?_⟩
      · rw [hs]; omega
      · rw [hs]; omega
      · rw [hs]; exact half_le h5
    · have e := of_decide_eq_false e
      rw [UInt64.le_iff_toNat_le] at e
      have e : ¬ 65536 ≤ x.toNat := e
      exact .s ⟨m, rfl, by omega, h3, by dsimp only; omega, h5⟩
  clear h2 h3 h4 h5
  obtain ⟨x, n2⟩ := o
  obtain ⟨m, h1, h2, h3, h4, h5⟩ := ho
  dsimp only at *
  subst h1
  refine Gets.b (P := fun o => ∃ m : Nat, o.2 = (m : Int) ∧ m ≤ 56 ∧ (1 ≤ n.toNat → 1 ≤ o.1.toNat) ∧ o.1.toNat < 256 ∧ 2 ^ m * o.1.toNat ≤ n.toNat) ?_ (fun o ho => ?_)
  · refine Gets.c (fun e => ?_) (fun e => ?_)
    · have e := of_decide_eq_true e
      rw [UInt64.le_iff_toNat_le] at e
      have e : 256 ≤ x.toNat := e
      have hs : (shr64 x ((UInt64.ofNat 8).toNat : Int)).toNat = x.toNat / 2 ^ 8 := shr_n _ _
      (simp (disch := first | omega | (simp only [List.length_set, sw_len]; omega)) only [idx_nth, addI_ok, subI_ok, mulI_ok, quoI_ok, bind_s, gb_true, gb_false, cond_t, cond_f, dt_, df_, Bool.true_and, Bool.false_and, Bool.not_true, Bool.not_false, el2, el3, el4, elS_inl, elS_inr, less64, sw_fold, lenI_ok])
      refine .s ⟨m + 8, rfl, by omega, fun _ => ?_, ?_, ?_⟩
      · rw [hs]; omega
      · rw [hs]; omega
      · rw [hs]; exact half_le h5
    · have e := of_decide_eq_false e
      rw [UInt64.le_iff_toNat_le] at e
      have e : ¬ 256 ≤ x.toNat := e
      exact .s ⟨m, rfl, by omega, h3, by dsimp only; omega, h5⟩
  clear h2 h3 h4 h5
  obtain ⟨x, n2⟩ := o
  obtain ⟨m, h1, h2, h3, h4, h5⟩ := ho
  dsimp only at *
  subst h1
  have hx : (x.toUInt8).toNat = x.toNat := by rw [UInt64.toNat_toUInt8]; omega
  obtain ⟨t1, t2⟩ := tab8 ⟨x.toNat, h4⟩
  dsimp only at t1 t2
  rw [hx]
  refine Gets.b (Gets.idx (by omega) (by rw [tab8l]; omega)) (fun u hu => ?_)
  rw [Int.toNat_natCast] at hu
  rw [List.getD_eq_getElem?_getD, hu] at t1 t2
  change u.toNat ≤ 8 at t1
  change 1 ≤ x.toNat → 2 ^ u.toNat ≤ 2 * x.toNat at t2
  (simp (disch := first | omega | (simp only [List.length_set, sw_len]; omega)) only [idx_nth, addI_ok, subI_ok, mulI_ok, quoI_ok, bind_s, gb_true, gb_false, cond_t, cond_f, dt_, df_, Bool.true_and, Bool.false_and, Bool.not_true, Bool.not_false, el2, el3, el4, elS_inl, elS_inr, less64, sw_fold, lenI_ok])
  refine .s ⟨by omega, by omega, fun h => ?_⟩
  rw [show ((m : Int) + (u.toNat : Int)).toNat = m + u.toNat by omega, Nat.pow_add]
  have t3 := Nat.mul_le_mul_left (2 ^ m) (t2 (h3 h))
  have t4 : 2 ^ m * (2 * x.toNat) = 2 * (2 ^ m * x.toNat) := by rw [Nat.mul_left_comm]
  omega
theorem pow_get {n : Int} (h1 : 1 ≤ n) (h2 : n ≤ 281474976710656) : Gets (slices_nextPowerOfTwo n) (fun x => 1 ≤ x.toNat ∧ (x.toNat : Int) ≤ 2 * n) := by
  unfold slices_nextPowerOfTwo
  have hn : (UInt64.ofInt n).toNat = n.toNat := by
    obtain ⟨k, rfl⟩ : ∃ k : Nat, n = (k : Int) := ⟨n.toNat, by omega⟩
    unfold UInt64.ofInt
    rw [UInt64.toNat_ofNat']
    omega
  refine Gets.b (len_get _) (fun k hk => ?_)
  obtain ⟨k1, k2, k3⟩ := hk
  rw [hn] at k3
  have k3 := k3 (by omega)
  refine Gets.b (x := cnt k) (P := fun _ => True) ⟨k.toNat, if_pos k1, trivial⟩ (fun _ _ => ?_)
  have e : (shl64 (UInt64.ofNat 1) k).toNat = 2 ^ k.toNat := by
    unfold shl64
    rw [UInt64.toNat_ofNat', show (UInt64.ofNat 1).toNat = 1 from rfl, Nat.one_mul]
    exact Nat.mod_eq_of_lt (by omega)
  refine .s ⟨?_, ?_⟩
  · rw [e]; exact Nat.one_le_two_pow
  · rw [e]; omega
theorem brk_get {l : List UInt64} {a b : Int} (h0 : 0 ≤ a) (hab : a ≤ b) (hb : b ≤ l.length) (hl : (l.length : Int) ≤ 281474976710656) : Gets (slices_breakPatternsOrdered_uint64 l a b) (fun l' => Same l l' a b) := by
  unfold slices_breakPatternsOrdered_uint64
  by_cases c : b - a ≥ 8
  · (simp (disch := first | omega | (simp only [List.length_set, sw_len]; omega)) only [idx_nth, addI_ok, subI_ok, mulI_ok, quoI_ok, bind_s, gb_true, gb_false, cond_t, cond_f, dt_, df_, Bool.true_and, Bool.false_and, Bool.not_true, Bool.not_false, el2, el3, el4, elS_inl, elS_inr, less64, sw_fold, lenI_ok])
    refine Gets.b (pow_get (by omega) (by omega)) (fun x hx => ?_)
    refine Gets.b (Gets.loop (I := fun s => a + (b - a) / 4 * 2 - 1 ≤ s.1 ∧ s.1 ≤ a + (b - a) / 4 * 2 + 2 ∧ Same l s.2.1 a b) (μ := fun s => (b + 8 - s.1).toNat) (R := fun d => Same l d a b) (fun s hs => ?_) ⟨by dsimp only; omega, by dsimp only; omega, .rf⟩ (by dsimp only; omega)) (fun d hd => .s hd)
    obtain ⟨i, d, r⟩ := s
    obtain ⟨h1, h2, h3⟩ := hs
    dsimp only at *
    have hL := h3.len
    unfold slices_breakPatternsOrdered_uint64_l1
    by_cases c2 : i ≤ a + (b - a) / 4 * 2 + 1
    · (simp (disch := first | omega | (simp only [List.length_set, sw_len]; omega)) only [idx_nth, addI_ok, subI_ok, mulI_ok, quoI_ok, bind_s, gb_true, gb_false, cond_t, cond_f, dt_, df_, Bool.true_and, Bool.false_and, Bool.not_true, Bool.not_false, el2, el3, el4, elS_inl, elS_inr, less64, sw_fold, lenI_ok])
      refine Gets.b (P := fun _ => True) (by unfold slices_xorshift_Next; simp only [bind_s]; exact .s trivial) (fun r _ => ?_)
      have hm : (r.1 &&& (x - UInt64.ofNat 1)).toNat < x.toNat := by
        have e1 : (x - UInt64.ofNat 1).toNat = x.toNat - 1 := UInt64.toNat_sub_of_le _ _ (by rw [UInt64.le_iff_toNat_le]; exact hx.1)
        rw [UInt64.toNat_and, e1]
        have := @Nat.and_le_right r.1.toNat (x.toNat - 1)
        omega
      revert hm
      generalize (r.1 &&& (x - UInt64.ofNat 1)).toNat = m
      intro hm
      simp (disch := omega) only [ok64_ok, bind_s]
      refine Gets.b (P := fun o => 0 ≤ o ∧ o < b - a) ?_ (fun o ho => ?_)
      · refine Gets.c (fun e => ?_) (fun e => ?_)
        · have e := of_decide_eq_true e
          (simp (disch := first | omega | (simp only [List.length_set, sw_len]; omega)) only [idx_nth, addI_ok, subI_ok, mulI_ok, quoI_ok, bind_s, gb_true, gb_false, cond_t, cond_f, dt_, df_, Bool.true_and, Bool.false_and, Bool.not_true, Bool.not_false, el2, el3, el4, elS_inl, elS_inr, less64, sw_fold, lenI_ok]); exact .s (by omega)
        · have e := of_decide_eq_false e
          exact .s (by omega)
      · (simp (disch := first | omega | (simp only [List.length_set, sw_len]; omega)) only [idx_nth, addI_ok, subI_ok, mulI_ok, quoI_ok, bind_s, gb_true, gb_false, cond_t, cond_f, dt_, df_, Bool.true_and, Bool.false_and, Bool.not_true, Bool.not_false, el2, el3, el4, elS_inl, elS_inr, less64, sw_fold, lenI_ok])
        exact .l ⟨by dsimp only; omega, by dsimp only; omega, h3.tr (.sw h0 (by omega) (by omega) (by omega) (by omega) (by omega))⟩ (by dsimp only; omega)
    · (simp (disch := first | omega | (simp only [List.length_set, sw_len]; omega)) only [idx_nth, addI_ok, subI_ok, mulI_ok, quoI_ok, bind_s, gb_true, gb_false, cond_t, cond_f, dt_, df_, Bool.true_and, Bool.false_and, Bool.not_true, Bool.not_false, el2, el3, el4, elS_inl, elS_inr, less64, sw_fold, lenI_ok])
      exact .r h3
  · (simp (disch := first | omega | (simp only [List.length_set, sw_len]; omega)) only [idx_nth, addI_ok, subI_ok, mulI_ok, quoI_ok, bind_s, gb_true, gb_false, cond_t, cond_f, dt_, df_, Bool.true_and, Bool.false_and, Bool.not_true, Bool.not_false, el2, el3, el4, elS_inl, elS_inr, less64, sw_fold, lenI_ok])
    exact .s .rf
theorem ord2_get {l : List UInt64} {a b s : Int} (ha : 0 ≤ a) (ha2 : a < l.length) (hb : 0 ≤ b) (hb2 : b < l.length) (hs : 0 ≤ s) (hs2 : s ≤ 100) : Gets (slices_order2Ordered_uint64 l a b s) (fun r => (r.1 = a ∨ r.1 = b) ∧ (r.2.1 = a ∨ r.2.1 = b) ∧ s ≤ r.2.2 ∧ r.2.2 ≤ s + 1) := by
  unfold slices_order2Ordered_uint64
  (simp (disch := first | omega | (simp only [List.length_set, sw_len]; omega)) only [idx_nth, addI_ok, subI_ok, mulI_ok, quoI_ok, bind_s, gb_true, gb_false, cond_t, cond_f, dt_, df_, Bool.true_and, Bool.false_and, Bool.not_true, Bool.not_false, el2, el3, el4, elS_inl, elS_inr, less64, sw_fold, lenI_ok])
  refine Gets.c (fun e => ?_) (fun e => ?_)
  · exact .s ⟨.inr rfl, .inl rfl, by dsimp only; omega, by dsimp only; omega⟩
  · exact .s ⟨.inl rfl, .inr rfl, by dsimp only; omega, by dsimp only; omega⟩
theorem med_get {l : List UInt64} {a b c s : Int} (ha : 0 ≤ a) (ha2 : a < l.length) (hb : 0 ≤ b) (hb2 : b < l.length) (hc : 0 ≤ c) (hc2 : c < l.length) (hs : 0 ≤ s) (hs2 : s ≤ 90) : Gets (slices_medianOrdered_uint64 l a b c s) (fun r => (r.1 = a ∨ r.1 = b ∨ r.1 = c) ∧ s ≤ r.2 ∧ r.2 ≤ s + 3) := by
  unfold slices_medianOrdered_uint64
  refine Gets.b (ord2_get ha ha2 hb hb2 hs (by omega)) (fun x hx => ?_)
  refine Gets.b (ord2_get (by omega) (by omega) hc hc2 (by omega) (by omega)) (fun y hy => ?_)
  refine Gets.b (ord2_get (by omega) (by omega) (by omega) (by omega) (by omega) (by omega)) (fun z hz => ?_)
  exact .s ⟨by dsimp only; omega, by dsimp only; omega, by dsimp only; omega⟩
theorem adj_get {l : List UInt64} {a s : Int} (ha : 1 ≤ a) (ha2 : a + 1 < l.length) (hl : (l.length : Int) ≤ 281474976710656) (hs : 0 ≤ s) (hs2 : s ≤ 90) : Gets (slices_medianAdjacentOrdered_uint64 l a s) (fun r => a - 1 ≤ r.1 ∧ r.1 ≤ a + 1 ∧ s ≤ r.2 ∧ r.2 ≤ s + 3) := by
  unfold slices_medianAdjacentOrdered_uint64
  (simp (disch := first | omega | (simp only [List.length_set, sw_len]; omega)) only [idx_nth, addI_ok, subI_ok, mulI_ok, quoI_ok, bind_s, gb_true, gb_false, cond_t, cond_f, dt_, df_, Bool.true_and, Bool.false_and, Bool.not_true, Bool.not_false, el2, el3, el4, elS_inl, elS_inr, less64, sw_fold, lenI_ok])
  refine Gets.b (med_get (by omega) (by omega) (by omega) (by omega) (by omega) (by omega) hs hs2) (fun x hx => ?_)
  exact .s ⟨by dsimp only; omega, by dsimp only; omega, by dsimp only; omega, by dsimp only; omega⟩
theorem piv_get {l : List UInt64} {a b : Int} (h0 : 0 ≤ a) (hab : a + 8 ≤ b) (hb : b ≤ l.length) (hl : (l.length : Int) ≤ 281474976710656) : Gets (slices_choosePivotOrdered_uint64 l a b) (fun r => a ≤ r.1 ∧ r.1 < b) := by
  unfold slices_choosePivotOrdered_uint64
  simp (disch := omega) only [subI_ok, quoI_ok, mulI_ok, addI_ok, bind_s, dt_, cond_t]
  refine Gets.b (P := fun o => a ≤ o.1 ∧ o.1 < b) ?_ (fun o ho => ?_)
  · refine Gets.b (P := fun o => a ≤ o.1 ∧ o.1 < b ∧ a ≤ o.2.1 ∧ o.2.1 < b ∧ a ≤ o.2.2.1 ∧ o.2.2.1 < b ∧ 0 ≤ o.2.2.2 ∧ o.2.2.2 ≤ 9) ?_ (fun o ho => ?_)
    · refine Gets.c (fun e => ?_) (fun e => ?_)
      · have e := of_decide_eq_true e
        refine Gets.b (adj_get (by omega) (by omega) hl (Int.le_refl 0) (by decide)) (fun x hx => ?_)
        have hx : _ ∧ _ ∧ 0 ≤ x.2 ∧ x.2 ≤ 0 + 3 := hx
        refine Gets.b (adj_get (by omega) (by omega) hl (by omega) (by omega)) (fun y hy => ?_)
        refine Gets.b (adj_get (by omega) (by omega) hl (by omega) (by omega)) (fun z hz => ?_)
        exact .s ⟨by dsimp only; omega, by dsimp only; omega, by dsimp only; omega, by dsimp only; omega, by dsimp only; omega, by dsimp only; omega, by dsimp only; omega, by dsimp only; omega⟩
      · exact .s ⟨by dsimp only; omega, by dsimp only; omega, by dsimp only; omega, by dsimp only; omega, by dsimp only; omega, by dsimp only; omega, Int.le_refl 0, by show (0 : Int) ≤ 9; decide⟩
    · obtain ⟨i, j, k, s⟩ := o
      dsimp only at ho
      simp only [el4]
      refine Gets.b (med_get (by omega) (by omega) (by omega) (by omega) (by omega) (by omega) (by omega) (by omega)) (fun x hx => ?_)
      exact .s ⟨by dsimp only; omega, by dsimp only; omega⟩
  · obtain ⟨j, s⟩ := o
    simp only [el2]
    refine Gets.c (fun e => .s ho) (fun e => ?_)
    exact Gets.c (fun e => .s ho) (fun e => .s ho)
end Go.Proofs.Ytefmfhbkihplgaa.Tr
namespace Go.Proofs.Ytefmfhbkihplgaa.Tr
open Go
set_option maxHeartbeats 1000000
theorem part_get {l : List UInt64} {a b : Int} (h0 : 0 ≤ a) (hab : a < b) (hb : b ≤ l.length) (hl : (l.length : Int) ≤ 281474976710656) (pre : ∀ k, 0 < a → a ≤ k → k < b → lt64 (nth l k) (nth l (a - 1)) = false) : Gets (slices_partialInsertionSortOrdered_uint64 l a b) (fun r => Same l r.2 a b ∧ (r.1 = true → Srt lt64 r.2 a b)) := by
  unfold slices_partialInsertionSortOrdered_uint64; (simp (disch := first | omega | (simp only [List.length_set, sw_len]; omega)) only [idx_nth, addI_ok, subI_ok, mulI_ok, quoI_ok, bind_s, gb_true, gb_false, cond_t, cond_f, dt_, df_, Bool.true_and, Bool.false_and, Bool.not_true, Bool.not_false, el2, el3, el4, elS_inl, elS_inr, less64, sw_fold, lenI_ok])
  refine Gets.b (Gets.loop (I := fun s => a < s.1 ∧ s.1 ≤ b ∧ 0 ≤ s.2.1 ∧ s.2.1 ≤ 5 ∧ Same l s.2.2 a b ∧ Srt lt64 s.2.2 a s.1) (μ := fun s => (5 - s.2.1).toNat) (R := Sum.elim (fun d => Same l d a b) (fun r => Same l r.2 a b ∧ (r.1 = true → Srt lt64 r.2 a b))) (fun s hs => ?_) ⟨by dsimp only; omega, by dsimp only; omega, by dsimp only; omega, by dsimp only; omega, .rf, fun p q h1 h2 h3 => by dsimp only at h3; omega⟩ (by dsimp only; omega)) (fun v hv => ?_)
  · obtain ⟨i, j, d⟩ := s
    obtain ⟨h1, h2, h3, h4, h5, h6⟩ := hs
    dsimp only at *
    have hL := h5.len
    unfold slices_partialInsertionSortOrdered_uint64_l1
    refine Gets.c (fun e => ?_) (fun e => .r (show Same l d a b from h5))
    have e := of_decide_eq_true e
    refine Gets.b (P := Sum.elim (fun s => a < s.1 ∧ s.1 ≤ b ∧ Same l s.2 a b ∧ Srt lt64 s.2 a s.1) (fun r => Same l r.2 a b ∧ (r.1 = true → Srt lt64 r.2 a b))) ?_ (fun o ho => ?_)
    · refine Gets.b (Gets.loop (I := fun i' => a < i' ∧ i' ≤ b ∧ Srt lt64 d a i') (μ := fun i' => (b - i').toNat) (R := fun i' => a < i' ∧ i' ≤ b ∧ Srt lt64 d a i') (fun i' hi => ?_) ⟨h1, h2, h6⟩ (by omega)) (fun i hi => ?_)
      · obtain ⟨g1, g2, g3⟩ := hi
        unfold slices_partialInsertionSortOrdered_uint64_l2
        by_cases c : i' < b
        · (simp (disch := first | omega | (simp only [List.length_set, sw_len]; omega)) only [idx_nth, addI_ok, subI_ok, mulI_ok, quoI_ok, bind_s, gb_true, gb_false, cond_t, cond_f, dt_, df_, Bool.true_and, Bool.false_and, Bool.not_true, Bool.not_false, el2, el3, el4, elS_inl, elS_inr, less64, sw_fold, lenI_ok])
          refine Gets.c (fun e => ?_) (fun e => ?_)
          · have e : lt64 (nth d i') (nth d (i' - 1)) = false := by simpa using e
            exact .l ⟨by omega, by omega, But.done weak64 (But.of g3) (by omega) (Int.le_refl _) (.inr e)⟩ (by omega)
          · exact .r ⟨g1, g2, g3⟩
        · (simp (disch := first | omega | (simp only [List.length_set, sw_len]; omega)) only [idx_nth, addI_ok, subI_ok, mulI_ok, quoI_ok, bind_s, gb_true, gb_false, cond_t, cond_f, dt_, df_, Bool.true_and, Bool.false_and, Bool.not_true, Bool.not_false, el2, el3, el4, elS_inl, elS_inr, less64, sw_fold, lenI_ok])
          exact .r ⟨g1, g2, g3⟩
      obtain ⟨g1, g2, g3⟩ := hi
      refine Gets.c (fun e => ?_) (fun e => ?_)
      · have e := of_decide_eq_true e
        subst e
        exact .s (show _ ∧ _ from ⟨h5, fun _ => g3⟩)
      have e := of_decide_eq_false e
      simp (disch := omega) only [subI_ok, bind_s]
      refine Gets.c (fun e => .s (show _ ∧ _ from ⟨h5, fun h => by cases h⟩)) (fun e50 => ?_)
      (simp (disch := first | omega | (simp only [List.length_set, sw_len]; omega)) only [idx_nth, addI_ok, subI_ok, mulI_ok, quoI_ok, bind_s, gb_true, gb_false, cond_t, cond_f, dt_, df_, Bool.true_and, Bool.false_and, Bool.not_true, Bool.not_false, el2, el3, el4, elS_inl, elS_inr, less64, sw_fold, lenI_ok])
      have hW : Same d (sw d (i - 1) i) (i - 1) (i + 1) := .sw (by omega) (by omega) (by omega) (by omega) (by omega) (by omega)
      have hW2 : Same l (sw d (i - 1) i) a b := h5.tr (hW.up h0 (by omega) (by omega))
      have hL2 := hW2.len
      revert hW hW2 hL2
      generalize sw d (i - 1) i = d2
      intro hW hW2 hL2
      refine Gets.b (P := fun d3 => Same l d3 a b ∧ Srt lt64 d3 a i) ?_ (fun d3 hd3 => ?_)
      · refine Gets.c (fun e2 => ?_) (fun e2 => ?_)
        · have e2 := of_decide_eq_true e2
          have hB : But lt64 d2 a (i - 1) (i - 1) := But.of (fun p q k1 k2 k3 => by
            rw [hW.out p (by omega) (by omega), hW.out q (by omega) (by omega)]; exact g3 p q k1 k2 (by omega))
          refine Gets.loop (I := fun s => a ≤ s.1 ∧ s.1 ≤ i - 1 ∧ Same l s.2 a b ∧ But lt64 s.2 a (i - 1) s.1) (μ := fun s => s.1.toNat) (fun s hs => ?_) ⟨by dsimp only; omega, by dsimp only; omega, hW2, hB⟩ (by dsimp only; omega)
          obtain ⟨j2, d4⟩ := s
          obtain ⟨k1, k2, k3, k4⟩ := hs
          dsimp only at *
          have hL4 := k3.len
          unfold slices_partialInsertionSortOrdered_uint64_l3
          have fin : (j2 ≤ a ∨ lt64 (nth d4 j2) (nth d4 (j2 - 1)) = false) → Srt lt64 d4 a i := fun h => by
            have := k4.done weak64 k1 k2 h
            rwa [show i - 1 + 1 = i by omega] at this
          by_cases c : j2 ≥ 1
          · (simp (disch := first | omega | (simp only [List.length_set, sw_len]; omega)) only [idx_nth, addI_ok, subI_ok, mulI_ok, quoI_ok, bind_s, gb_true, gb_false, cond_t, cond_f, dt_, df_, Bool.true_and, Bool.false_and, Bool.not_true, Bool.not_false, el2, el3, el4, elS_inl, elS_inr, less64, sw_fold, lenI_ok])
            refine Gets.c (fun e => ?_) (fun e => ?_)
            · have e : lt64 (nth d4 j2) (nth d4 (j2 - 1)) = false := by simpa using e
              exact .r ⟨k3, fin (.inr e)⟩
            · have e : lt64 (nth d4 j2) (nth d4 (j2 - 1)) = true := by simpa using e
              have hj : a < j2 := by
                by_cases hj : a < j2
                · exact hj
                · have : j2 = a := by omega
                  subst this
                  obtain ⟨m, m1, m2, m3⟩ := k3.src j2 (Int.le_refl _) hab
                  rw [m3, k3.out (j2 - 1) (by omega) (by omega), pre m (by omega) m1 m2] at e
                  cases e
              exact .l ⟨by dsimp only; omega, by dsimp only; omega, k3.tr (.sw h0 (by omega) (by omega) (by omega) (by omega) (by omega)), k4.step weak64 h0 (by omega) hj k2 e⟩ (by dsimp only; omega)
          · (simp (disch := first | omega | (simp only [List.length_set, sw_len]; omega)) only [idx_nth, addI_ok, subI_ok, mulI_ok, quoI_ok, bind_s, gb_true, gb_false, cond_t, cond_f, dt_, df_, Bool.true_and, Bool.false_and, Bool.not_true, Bool.not_false, el2, el3, el4, elS_inl, elS_inr, less64, sw_fold, lenI_ok])
            exact .r ⟨k3, fin (.inl (by omega))⟩
        · have e2 := of_decide_eq_false e2
          exact .s ⟨hW2, fun p q k1 k2 k3 => by omega⟩
      obtain ⟨m1, m2⟩ := hd3
      refine Gets.c (fun e2 => ?_) (fun e2 => .s (show _ ∧ _ from ⟨g1, g2, m1, m2⟩))
      have e2 := of_decide_eq_true e2
      refine Gets.b (Gets.loop (I := fun s => i < s.1 ∧ s.1 ≤ b ∧ Same l s.2 a b ∧ Srt lt64 s.2 a i) (μ := fun s => (b - s.1).toNat) (R := fun d => Same l d a b ∧ Srt lt64 d a i) (fun s hs => ?_) ⟨by dsimp only; omega, by dsimp only; omega, m1, m2⟩ (by dsimp only; omega)) (fun d hd => .s (show _ ∧ _ from ⟨g1, g2, hd.1, hd.2⟩))
      obtain ⟨j2, d4⟩ := s
      obtain ⟨k1, k2, k3, k4⟩ := hs
      dsimp only at *
      have hL4 := k3.len
      unfold slices_partialInsertionSortOrdered_uint64_l4
      by_cases c : j2 < b
      · (simp (disch := first | omega | (simp only [List.length_set, sw_len]; omega)) only [idx_nth, addI_ok, subI_ok, mulI_ok, quoI_ok, bind_s, gb_true, gb_false, cond_t, cond_f, dt_, df_, Bool.true_and, Bool.false_and, Bool.not_true, Bool.not_false, el2, el3, el4, elS_inl, elS_inr, less64, sw_fold, lenI_ok])
        refine Gets.c (fun e => .r ⟨k3, k4⟩) (fun e => ?_)
        have hV : Same d4 (sw d4 (j2 - 1) j2) i b := .sw (by omega) (by omega) (by omega) (by omega) (by omega) (by omega)
        exact .l ⟨by dsimp only; omega, by dsimp only; omega, k3.tr (hV.up h0 (by omega) (by omega)), k4.same hV h0 (.inl (Int.le_refl _))⟩ (by dsimp only; omega)
      · (simp (disch := first | omega | (simp only [List.length_set, sw_len]; omega)) only [idx_nth, addI_ok, subI_ok, mulI_ok, quoI_ok, bind_s, gb_true, gb_false, cond_t, cond_f, dt_, df_, Bool.true_and, Bool.false_and, Bool.not_true, Bool.not_false, el2, el3, el4, elS_inl, elS_inr, less64, sw_fold, lenI_ok])
        exact .r ⟨k3, k4⟩
    · rcases o with ⟨i', d'⟩ | r
      · rw [elS_inl]; simp only [el2]
        obtain ⟨g1, g2, g3, g4⟩ := ho
        (simp (disch := first | omega | (simp only [List.length_set, sw_len]; omega)) only [idx_nth, addI_ok, subI_ok, mulI_ok, quoI_ok, bind_s, gb_true, gb_false, cond_t, cond_f, dt_, df_, Bool.true_and, Bool.false_and, Bool.not_true, Bool.not_false, el2, el3, el4, elS_inl, elS_inr, less64, sw_fold, lenI_ok])
        exact .l ⟨g1, g2, by dsimp only; omega, by dsimp only; omega, g3, g4⟩ (by dsimp only; omega)
      · rw [elS_inr]
        exact .r (show _ ∧ _ from ho)
  · rcases v with v | v
    · exact .elSl (.s ⟨hv, fun h => by cases h⟩)
    · exact .elSr (.s hv)
theorem pteq_get {l : List UInt64} {a b pv : Int} (h0 : 0 ≤ a) (hp : a ≤ pv) (hp2 : pv < b) (hb : b ≤ l.length) (hl : (l.length : Int) ≤ 281474976710656) (hmin : ∀ k, a ≤ k → k < b → lt64 (nth l k) (nth l pv) = false) : Gets (slices_partitionEqualOrdered_uint64 l a b pv) (fun r => a < r.1 ∧ r.1 ≤ b ∧ Same l r.2 a b ∧ ∀ p q, a ≤ p → p < q → q < b → p < r.1 → lt64 (nth r.2 q) (nth r.2 p) = false) := by
  unfold slices_partitionEqualOrdered_uint64; (simp (disch := first | omega | (simp only [List.length_set, sw_len]; omega)) only [idx_nth, addI_ok, subI_ok, mulI_ok, quoI_ok, bind_s, gb_true, gb_false, cond_t, cond_f, dt_, df_, Bool.true_and, Bool.false_and, Bool.not_true, Bool.not_false, el2, el3, el4, elS_inl, elS_inr, less64, sw_fold, lenI_ok])
  have hW : Same l (sw l pv a) a b := .sw h0 hb (by omega) (by omega) (by omega) (by omega)
  have hA : nth (sw l pv a) a = nth l pv := by
    rw [nth_sw (by omega) (by omega) (by omega) (by omega) h0]
    split
    · rename_i e; rw [e]
    · rw [if_pos rfl]
  refine Gets.b (Gets.loop (I := fun s => a < s.1 ∧ s.2.1 < b ∧ s.1 ≤ s.2.1 + 1 ∧ Same l s.2.2 a b ∧ nth s.2.2 a = nth l pv ∧ ∀ k, a ≤ k → k < s.1 → lt64 (nth l pv) (nth s.2.2 k) = false) (μ := fun s => (b - s.1).toNat) (R := fun r => a < r.1 ∧ r.1 ≤ b ∧ Same l r.2 a b ∧ ∀ p q, a ≤ p → p < q → q < b → p < r.1 → lt64 (nth r.2 q) (nth r.2 p) = false) (fun s hs => ?_) ⟨by dsimp only; omega, by dsimp only; omega, by dsimp only; omega, hW, hA, fun k k1 k2 => by
      dsimp only at *
      have : k = a := by omega
      subst this; rw [hA]; exact weak64.rf _⟩ (by dsimp only; omega)) (fun o ho => ?_)
  · obtain ⟨i, j, d⟩ := s
    obtain ⟨h1, h2, h3, h4, h5, h6⟩ := hs
    dsimp only at *
    have hL := h4.len
    unfold slices_partitionEqualOrdered_uint64_l1
    refine Gets.b (Gets.loop (I := fun i' => i ≤ i' ∧ i' ≤ j + 1 ∧ ∀ k, a ≤ k → k < i' → lt64 (nth l pv) (nth d k) = false) (μ := fun i' => (b - i').toNat) (R := fun i' => i ≤ i' ∧ i' ≤ j + 1 ∧ (∀ k, a ≤ k → k < i' → lt64 (nth l pv) (nth d k) = false) ∧ (i' ≤ j → lt64 (nth l pv) (nth d i') = true)) (fun i' hi => ?_) ⟨Int.le_refl _, h3, h6⟩ (by omega)) (fun i' hi => ?_)
    · obtain ⟨g1, g2, g3⟩ := hi
      unfold slices_partitionEqualOrdered_uint64_l2
      by_cases c : i' ≤ j
      · (simp (disch := first | omega | (simp only [List.length_set, sw_len]; omega)) only [idx_nth, addI_ok, subI_ok, mulI_ok, quoI_ok, bind_s, gb_true, gb_false, cond_t, cond_f, dt_, df_, Bool.true_and, Bool.false_and, Bool.not_true, Bool.not_false, el2, el3, el4, elS_inl, elS_inr, less64, sw_fold, lenI_ok])
        rw [h5]
        refine Gets.c (fun e => ?_) (fun e => ?_)
        · have e : lt64 (nth l pv) (nth d i') = false := by simpa using e
          refine .l ⟨by omega, by omega, fun k k1 k2 => ?_⟩ (by omega)
          by_cases e2 : k = i'
          · subst e2; exact e
          · exact g3 k k1 (by omega)
        · have e : lt64 (nth l pv) (nth d i') = true := by simpa using e
          exact .r ⟨g1, g2, g3, fun _ => e⟩
      · (simp (disch := first | omega | (simp only [List.length_set, sw_len]; omega)) only [idx_nth, addI_ok, subI_ok, mulI_ok, quoI_ok, bind_s, gb_true, gb_false, cond_t, cond_f, dt_, df_, Bool.true_and, Bool.false_and, Bool.not_true, Bool.not_false, el2, el3, el4, elS_inl, elS_inr, less64, sw_fold, lenI_ok])
        exact .r ⟨g1, g2, g3, fun h => absurd h c⟩
    obtain ⟨g1, g2, g3, g4⟩ := hi
    refine Gets.b (Gets.loop (I := fun j' => i' ≤ j' + 1 ∧ j' ≤ j) (μ := fun j' => (j' - a).toNat) (R := fun j' => i' ≤ j' + 1 ∧ j' ≤ j ∧ (i' ≤ j' → lt64 (nth l pv) (nth d j') = false)) (fun j' hj => ?_) ⟨by omega, Int.le_refl _⟩ (by omega)) (fun j' hj => ?_)
    · obtain ⟨k1, k2⟩ := hj
      unfold slices_partitionEqualOrdered_uint64_l3
      by_cases c : i' ≤ j'
      · (simp (disch := first | omega | (simp only [List.length_set, sw_len]; omega)) only [idx_nth, addI_ok, subI_ok, mulI_ok, quoI_ok, bind_s, gb_true, gb_false, cond_t, cond_f, dt_, df_, Bool.true_and, Bool.false_and, Bool.not_true, Bool.not_false, el2, el3, el4, elS_inl, elS_inr, less64, sw_fold, lenI_ok])
        rw [h5]
        refine Gets.c (fun e => ?_) (fun e => ?_)
        · exact .l ⟨by omega, by omega⟩ (by omega)
        · exact .r ⟨k1, k2, fun _ => e⟩
      · (simp (disch := first | omega | (simp only [List.length_set, sw_len]; omega)) only [idx_nth, addI_ok, subI_ok, mulI_ok, quoI_ok, bind_s, gb_true, gb_false, cond_t, cond_f, dt_, df_, Bool.true_and, Bool.false_and, Bool.not_true, Bool.not_false, el2, el3, el4, elS_inl, elS_inr, less64, sw_fold, lenI_ok])
        exact .r ⟨k1, k2, fun h => absurd h c⟩
    obtain ⟨k1, k2, k3⟩ := hj
    by_cases c : i' > j'
    · (simp (disch := first | omega | (simp only [List.length_set, sw_len]; omega)) only [idx_nth, addI_ok, subI_ok, mulI_ok, quoI_ok, bind_s, gb_true, gb_false, cond_t, cond_f, dt_, df_, Bool.true_and, Bool.false_and, Bool.not_true, Bool.not_false, el2, el3, el4, elS_inl, elS_inr, less64, sw_fold, lenI_ok])
      refine .r ⟨by dsimp only; omega, by dsimp only; omega, h4, fun p q m1 m2 m3 m4 => ?_⟩
      dsimp only at *
      obtain ⟨k, n1, n2, n3⟩ := h4.src q (by omega) m3
      rw [n3]
      exact weak64.tr _ _ _ (g3 p m1 m4) (hmin k n1 n2)
    · have hne : i' ≠ j' := fun h => by
        have e1 := g4 (by omega)
        have e2 := k3 (by omega)
        rw [h, e2] at e1; cases e1
      (simp (disch := first | omega | (simp only [List.length_set, sw_len]; omega)) only [idx_nth, addI_ok, subI_ok, mulI_ok, quoI_ok, bind_s, gb_true, gb_false, cond_t, cond_f, dt_, df_, Bool.true_and, Bool.false_and, Bool.not_true, Bool.not_false, el2, el3, el4, elS_inl, elS_inr, less64, sw_fold, lenI_ok])
      have hs : ∀ k, 0 ≤ k → nth (sw d j' i') k = if k = j' then nth d i' else if k = i' then nth d j' else nth d k := fun k hk => nth_sw (by omega) (by omega) (by omega) (by omega) hk
      refine .l ⟨by dsimp only; omega, by dsimp only; omega, by dsimp only; omega, h4.tr (.sw h0 (by omega) (by omega) (by omega) (by omega) (by omega)), ?_, fun k m1 m2 => ?_⟩ (by dsimp only; omega)
      · dsimp only
        rw [hs a h0, if_neg (by omega), if_neg (by omega), h5]
      · dsimp only at *
        rw [hs k (by omega), if_neg (by omega)]
        by_cases e : k = i'
        · rw [if_pos e]; exact k3 (by omega)
        · rw [if_neg e]; exact g3 k m1 (by omega)
  · obtain ⟨i, d⟩ := o
    show Gets (some (i, d)) _
    exact .s ho
theorem ptn_fin {l d : List UInt64} {a b j : Int} (h0 : 0 ≤ a) (hb : b ≤ l.length) (h1 : a ≤ j) (h2 : j < b) (hS : Same l d a b) (hlo : ∀ k, a < k → k ≤ j → lt64 (nth d a) (nth d k) = false) (hhi : ∀ k, j < k → k < b → lt64 (nth d k) (nth d a) = false) : a ≤ j ∧ j < b ∧ Same l (sw d a j) a b ∧ (∀ k, a ≤ k → k < j → lt64 (nth (sw d a j) j) (nth (sw d a j) k) = false) ∧ (∀ k, j < k → k < b → lt64 (nth (sw d a j) k) (nth (sw d a j) j) = false) := by
  have hL := hS.len
  have hs : ∀ k, 0 ≤ k → nth (sw d a j) k = if k = a then nth d j else if k = j then nth d a else nth d k := fun k hk => nth_sw (by omega) (by omega) (by omega) (by omega) hk
  have hj : nth (sw d a j) j = nth d a := by
    rw [hs j (by omega)]
    split
    · rename_i e; rw [e]
    · rw [if_pos rfl]
  refine ⟨h1, h2, hS.tr (.sw h0 (by omega) (by omega) (by omega) (by omega) (by omega)), fun k k1 k2 => ?_, fun k k1 k2 => ?_⟩
  · rw [hj, hs k (by omega)]
    by_cases e : k = a
    · rw [if_pos e]; exact hlo j (by omega) (Int.le_refl _)
    · rw [if_neg e, if_neg (by omega)]; exact hlo k (by omega) (by omega)
  · rw [hj, hs k (by omega), if_neg (by omega), if_neg (by omega)]
    exact hhi k k1 k2
end Go.Proofs.Ytefmfhbkihplgaa.Tr
