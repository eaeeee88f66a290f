/- The functions, as plain ones. Conditions: none. -/
import Derived.Test.YtfdmajkeihdhnaaTab
import Derived.Test.YtfdmajkeihdhnaaChipA
import Derived.Test.YtfdmajkeihdhnaaChipB
namespace Go.Proofs.Ytfdmajkeihdhnaa.Tr
open Go Go.RowKit
set_option maxRecDepth 100000
set_option synthInstance.maxHeartbeats 400000
set_option synthInstance.maxSize 4096
set_option linter.unusedVariables false
set_option linter.unusedSimpArgs false

def bywaylaw06_ChipStill_l1 (c0 : Chip) (block0 : Int) (r_5 : (Chip × Int)) (r_7 : (Chip × Int)) (n_16 : Int) : Option (Int ⊕ (Unit ⊕ Bool)) :=
  bif (decide (n_16 < (c0.Blocks.length : Int))) then ((gb (decide (n_16 ≠ block0)) (idx r_5.1.Blocks n_16)).bind fun x_18 => (gb (decide (n_16 ≠ block0)) (idx c0.Blocks n_16)).bind fun x_19 => (gb (decide (n_16 ≠ block0)) (bywayref06_Blocks x_18 x_19)).bind fun x_20 => (gb ((decide (n_16 ≠ block0)) && (!(!x_20))) (idx r_7.1.Blocks n_16)).bind fun x_21 => (gb ((decide (n_16 ≠ block0)) && (!(!x_20))) (idx c0.Blocks n_16)).bind fun x_22 => (gb ((decide (n_16 ≠ block0)) && (!(!x_20))) (bywayref06_Blocks x_21 x_22)).bind fun x_23 => bif ((decide (n_16 ≠ block0)) && ((!x_20) || (!x_23))) then (some (.inr (.inr false))) else ((addI n_16 (1 : Int)).bind fun x_25 => some (.inl x_25))) else (some (.inr (.inl ())))
def bywaylaw06_ChipStill_l2 (c0 : Chip) (block0 : Int) (page0 : Int) (r_5 : (Chip × Int)) (k_36 : Int) : Option (Int ⊕ (Unit ⊕ Bool)) :=
  bif (decide (k_36 < c0.Pages)) then ((gb (decide (k_36 ≠ page0)) (idx r_5.1.Blocks block0)).bind fun x_38 => (gb (decide (k_36 ≠ page0)) (idx x_38.Pages k_36)).bind fun x_39 => (gb (decide (k_36 ≠ page0)) (idx c0.Blocks block0)).bind fun x_40 => (gb (decide (k_36 ≠ page0)) (idx x_40.Pages k_36)).bind fun x_41 => bif ((decide (k_36 ≠ page0)) && (decide (x_39 ≠ x_41))) then (some (.inr (.inr false))) else ((addI k_36 (1 : Int)).bind fun x_43 => some (.inl x_43))) else (some (.inr (.inl ())))
def bywaylaw06_ChipStill (c0 : Chip) (block0 : Int) (page0 : Int) (p0 : (List UInt8)) : Option Bool :=
  (bywaylaw06_awake).bind fun x_2 => bif (!x_2) then (some false) else ((bywayref06_Short c0).bind fun x_3 => (gb (!((!x_3) || (decide ((p0.length : Int) > (300 : Int))))) (chip_Right c0)).bind fun x_4 => bif (((((!x_3) || (decide ((p0.length : Int) > (300 : Int)))) || (!x_4)) || (decide (block0 < (0 : Int)))) || (decide (block0 ≥ (c0.Blocks.length : Int)))) then (some true) else ((chip_Program c0 block0 page0 p0).bind fun r_5 => (chip_Erase c0 block0).bind fun r_7 => (chip_Mark c0 block0).bind fun r_9 => (idx c0.Blocks block0).bind fun x_11 => (gb x_11.Bad (bywayref06_Same r_5.1 c0)).bind fun x_12 => (gb (x_11.Bad && (!(!x_12))) (bywayref06_Same r_7.1 c0)).bind fun x_13 => (gb (((!(x_11.Bad && ((!x_12) || (!x_13)))) && (decide (r_9.2 = (0 : Int)))) && (!(decide (r_9.1.Ops ≠ c0.Ops)))) (idx r_9.1.Blocks block0)).bind fun x_14 => bif ((x_11.Bad && ((!x_12) || (!x_13))) || ((decide (r_9.2 = (0 : Int))) && ((decide (r_9.1.Ops ≠ c0.Ops)) || (!x_14.Bad)))) then (some false) else ((loopO (fun s => bywaylaw06_ChipStill_l1 c0 block0 r_5 r_7 s) (0 : Int)).bind fun o_15 => elS o_15 (fun _ => (gb (decide (r_5.2 = (0 : Int))) (idx r_5.1.Blocks block0)).bind fun x_26 => (gb (decide (r_5.2 = (0 : Int))) (idx x_26.Pages page0)).bind fun x_27 => (gb ((decide (r_5.2 = (0 : Int))) && (!(decide (x_27 ≠ p0)))) (idx r_5.1.Blocks block0)).bind fun x_28 => (gb ((decide (r_5.2 = (0 : Int))) && (!(decide (x_27 ≠ p0)))) (addI page0 (1 : Int))).bind fun x_29 => (gb ((decide (r_5.2 = (0 : Int))) && (!((decide (x_27 ≠ p0)) || (decide (x_28.Used ≠ x_29))))) (addI c0.Ops (1 : Int))).bind fun x_30 => bif ((decide (r_5.2 = (0 : Int))) && (((decide (x_27 ≠ p0)) || (decide (x_28.Used ≠ x_29))) || (decide (r_5.1.Ops ≠ x_30)))) then (some false) else ((gb (decide (r_7.2 = (0 : Int))) (idx r_7.1.Blocks block0)).bind fun x_31 => (gb ((decide (r_7.2 = (0 : Int))) && (!(decide (x_31.Used ≠ (0 : Int))))) (idx r_7.1.Blocks block0)).bind fun x_32 => (gb ((decide (r_7.2 = (0 : Int))) && (!(decide (x_31.Used ≠ (0 : Int))))) (idx c0.Blocks block0)).bind fun x_33 => (gb ((decide (r_7.2 = (0 : Int))) && (!(decide (x_31.Used ≠ (0 : Int))))) (addI x_33.Worn (1 : Int))).bind fun x_34 => bif ((decide (r_7.2 = (0 : Int))) && ((decide (x_31.Used ≠ (0 : Int))) || (decide (x_32.Worn ≠ x_34)))) then (some false) else ((loopO (fun s => bywaylaw06_ChipStill_l2 c0 block0 page0 r_5 s) (0 : Int)).bind fun o_35 => elS o_35 (fun _ => some true) (fun q => some q)))) (fun q => some q))))
/-- bywaylaw06.ChipStill -/
theorem bywaylaw06_ChipStill_c {A : Nat → Prop} {c0 : Chip} {block0 : Int} {page0 : Int} {p0 : (List UInt8)}  {r : Bool} (w : World) (v0 v1 v2 v3 : Value) (hA : ∀ k, w.heap.size ≤ k → A k)  (h0 : (D (c0 : Chip)).p A w v0) (h1 : (D (block0 : Int)).p A w v1) (h2 : (D (page0 : Int)).p A w v2) (h3 : (D (p0 : (List UInt8))).p A w v3) (H : bywaylaw06_ChipStill c0 block0 page0 p0 = some r) :
    Calls Try.prog 8 #[v0, v1, v2, v3] w (Ret A w (D (r : Bool))) := by
  unfold bywaylaw06_ChipStill at H
  refine enter4 hA Try.func8 rfl Try.ntmps8 rfl h0 h1 h2 h3 ?_
  refine TC.seqS ?_
  refine TS.box rfl fun b4_0 => ?_
  refine TS.s OpY.assign rfl ?_
  refine TS.nil ?_
  refine TE.then ?_
  refine TC.kp [1, 2, 3, 4] [b4_0] ?_
  refine TC.seq ?_
  refine TC.seqS ?_
  obtain ⟨x_2, ex_2, H⟩ := bnd H
  refine TS.s (OpY.call0 fun w hA => bywaylaw06_awake_c w hA ex_2) rfl ?_
  refine TS.s OpY.notB rfl ?_
  refine TS.nil ?_
  refine TE.then ?_
  refine TC.kp [1, 2, 3, 4, 18] [b4_0] ?_
  refine TC.cond (fun hc => ?_) (fun hc => ?_)
  · replace H := cT H hc
    refine TC.seqS ?_
    refine TS.s OpY.assign rfl ?_
    refine TS.nil ?_
    refine TE.then ?_
    refine TC.kp [8] [] ?_
    refine TC.ret ?_
    refine TE.then_ret ?_
    obtain rfl := (Option.some.inj H)
    exact TE.ret1 rfl Cv.le
  · replace H := cF H hc
    refine TC.skip ?_
    refine TE.then ?_
    refine TC.kp [1, 2, 3, 4] [b4_0] ?_
    refine TC.seq ?_
    refine TC.seqS ?_
    refine TS.s (OpD.ldq Pl.one) rfl ?_
    obtain ⟨x_3, ex_3, H⟩ := bnd H
    refine TS.s (OpY.call1 fun w v0 hA h0 => bywayref06_Short_c w v0 hA (toD h0) ex_3) rfl ?_
    refine TS.s OpY.notB rfl ?_
    refine TS.s OpY.move rfl ?_
    refine TS.g 22 rfl (fun hg => OpY.move) rfl ?_
    refine TS.g 22 rfl (fun hg => OpD.len) rfl ?_
    refine TS.g 22 rfl (fun hg => OpY.gtr) rfl ?_
    refine TS.s OpY.pickOr rfl ?_
    refine TS.s OpY.move rfl ?_
    refine TS.g 27 rfl (fun hg => (OpD.ldq Pl.one)) rfl ?_
    obtain ⟨x_4, ex_4, H⟩ := bnd H
    refine TS.g 27 rfl (fun hg => (OpY.call1 fun w v0 hA h0 => chip_Right_c w v0 hA (toD h0) (gb_some ex_4 (nF hg.h)))) rfl ?_
    refine TS.g 27 rfl (fun hg => OpY.notB) rfl ?_
    refine TS.s OpY.pickOr rfl ?_
    refine TS.s OpY.move rfl ?_
    refine TS.g 32 rfl (fun hg => OpY.move) rfl ?_
    refine TS.g 32 rfl (fun hg => OpY.lss) rfl ?_
    refine TS.s OpY.pickOr rfl ?_
    refine TS.s OpY.move rfl ?_
    refine TS.g 36 rfl (fun hg => OpY.move) rfl ?_
    refine TS.g 36 rfl (fun hg => OpY.fieldAddr) rfl ?_
    refine TS.g 36 rfl (fun hg => (OpD.ldq (Pl.fld (off := 2) (α := Chip) (β := (List Block)) Pl.one))) rfl ?_
    refine TS.g 36 rfl (fun hg => OpD.len) rfl ?_
    refine TS.g 36 rfl (fun hg => OpY.geq) rfl ?_
    refine TS.s OpY.pickOr rfl ?_
    refine TS.nil ?_
    refine TE.then ?_
    refine TC.kp [1, 2, 3, 4, 42] [b4_0] ?_
    refine TC.cond (fun hc => ?_) (fun hc => ?_)
    · replace H := cT H hc
      refine TC.seqS ?_
      refine TS.s OpY.assign rfl ?_
      refine TS.nil ?_
      refine TE.then ?_
      refine TC.kp [8] [] ?_
      refine TC.ret ?_
      refine TE.then_ret ?_
      obtain rfl := (Option.some.inj H)
      exact TE.ret1 rfl Cv.le
    · replace H := cF H hc
      refine TC.skip ?_
      refine TE.then ?_
      refine TC.kp [1, 2, 3, 4] [b4_0] ?_
      refine TC.seqS ?_
      refine TS.s (OpD.ldq Pl.one) rfl ?_
      refine TS.s OpY.move rfl ?_
      refine TS.s OpY.move rfl ?_
      refine TS.s OpY.move rfl ?_
      obtain ⟨r_5, er_5, H⟩ := bnd H
      refine TS.s (OpY.call4 fun w v0 v1 v2 v3 hA h0 h1 h2 h3 => chip_Program_c w v0 v1 v2 v3 hA (toD h0) (toD h1) (toD h2) (toD h3) er_5) rfl ?_
      refine TS.s OpY.move rfl ?_
      refine TS.s (OpY.extract rfl) rfl ?_
      refine TS.s (OpY.extract rfl) rfl ?_
      refine TS.alloc (α := Chip) rfl fun b9_5 => ?_
      refine TS.un (OpT.storeq (y := (r_5.1 : Chip)) Pl.one) ?_
      refine TS.s OpY.assign rfl ?_
      refine TS.nil ?_
      refine TE.then ?_
      refine TC.kp [1, 2, 3, 4, 9, 10] [b4_0, b9_5] ?_
      refine TC.seqS ?_
      refine TS.s (OpD.ldq Pl.one) rfl ?_
      refine TS.s OpY.move rfl ?_
      obtain ⟨r_7, er_7, H⟩ := bnd H
      refine TS.s (OpY.call2 fun w v0 v1 hA h0 h1 => chip_Erase_c w v0 v1 hA (toD h0) (toD h1) er_7) rfl ?_
      refine TS.s OpY.move rfl ?_
      refine TS.s (OpY.extract rfl) rfl ?_
      refine TS.s (OpY.extract rfl) rfl ?_
      refine TS.alloc (α := Chip) rfl fun b11_7 => ?_
      refine TS.un (OpT.storeq (y := (r_7.1 : Chip)) Pl.one) ?_
      refine TS.s OpY.assign rfl ?_
      refine TS.nil ?_
      refine TE.then ?_
      refine TC.kp [1, 2, 3, 4, 9, 10, 11, 12] [b4_0, b9_5, b11_7] ?_
      refine TC.seqS ?_
      refine TS.s (OpD.ldq Pl.one) rfl ?_
      refine TS.s OpY.move rfl ?_
      obtain ⟨r_9, er_9, H⟩ := bnd H
      refine TS.s (OpY.call2 fun w v0 v1 hA h0 h1 => chip_Mark_c w v0 v1 hA (toD h0) (toD h1) er_9) rfl ?_
      refine TS.s OpY.move rfl ?_
      refine TS.s (OpY.extract rfl) rfl ?_
      refine TS.s (OpY.extract rfl) rfl ?_
      refine TS.alloc (α := Chip) rfl fun b13_9 => ?_
      refine TS.un (OpT.storeq (y := (r_9.1 : Chip)) Pl.one) ?_
      refine TS.s OpY.assign rfl ?_
      refine TS.nil ?_
      refine TE.then ?_
      refine TC.kp [1, 2, 3, 4, 9, 10, 11, 12, 13, 14] [b4_0, b9_5, b11_7, b13_9] ?_
      refine TC.seq ?_
      refine TC.seqS ?_
      refine TS.s OpY.fieldAddr rfl ?_
      refine TS.s (OpD.ldq (Pl.fld (off := 2) (α := Chip) (β := (List Block)) Pl.one)) rfl ?_
      refine TS.s OpY.move rfl ?_
      obtain ⟨x_11, ex_11, H⟩ := bnd H
      refine TS.s (OpD.index ex_11) rfl ?_
      refine TS.s OpY.fieldAddr rfl ?_
      refine TS.s OpY.load rfl ?_
      refine TS.s OpY.move rfl ?_
      refine TS.g 69 rfl (fun hg => (OpD.ldq Pl.one)) rfl ?_
      refine TS.g 69 rfl (fun hg => (OpD.ldq Pl.one)) rfl ?_
      obtain ⟨x_12, ex_12, H⟩ := bnd H
      refine TS.g 69 rfl (fun hg => (OpY.call2 fun w v0 v1 hA h0 h1 => bywayref06_Same_c w v0 v1 hA (toD h0) (toD h1) (gb_some ex_12 hg.h))) rfl ?_
      refine TS.g 69 rfl (fun hg => OpY.notB) rfl ?_
      refine TS.g 69 rfl (fun hg => OpY.move) rfl ?_
      refine TS.gg 74 rfl (fun hp hg => (OpD.ldq Pl.one)) rfl ?_
      refine TS.gg 74 rfl (fun hp hg => (OpD.ldq Pl.one)) rfl ?_
      obtain ⟨x_13, ex_13, H⟩ := bnd H
      refine TS.gg 74 rfl (fun hp hg => (OpY.call2 fun w v0 v1 hA h0 h1 => bywayref06_Same_c w v0 v1 hA (toD h0) (toD h1) (gb_some ex_13 (aT hp.h (nF hg.h))))) rfl ?_
      refine TS.gg 74 rfl (fun hp hg => OpY.notB) rfl ?_
      refine TS.g 69 rfl (fun hg => OpY.pickOr) rfl ?_
      refine TS.s OpY.pickAnd rfl ?_
      refine TS.s OpY.move rfl ?_
      refine TS.g 81 rfl (fun hg => OpY.move) rfl ?_
      refine TS.g 81 rfl (fun hg => OpY.eql) rfl ?_
      refine TS.g 81 rfl (fun hg => OpY.move) rfl ?_
      refine TS.gg 84 rfl (fun hp hg => OpY.fieldAddr) rfl ?_
      refine TS.gg 84 rfl (fun hp hg => (OpD.ldq (Pl.fld (off := 3) (α := Chip) (β := Int) Pl.one))) rfl ?_
      refine TS.gg 84 rfl (fun hp hg => OpY.fieldAddr) rfl ?_
      refine TS.gg 84 rfl (fun hp hg => (OpD.ldq (Pl.fld (off := 3) (α := Chip) (β := Int) Pl.one))) rfl ?_
      refine TS.gg 84 rfl (fun hp hg => OpY.neq) rfl ?_
      refine TS.gg 84 rfl (fun hp hg => OpY.move) rfl ?_
      refine TS.gg 90 rfl (fun hp hg => haveI l0 := Ft.l hp; haveI r0 := Ft.r hp; OpY.fieldAddr) rfl ?_
      refine TS.gg 90 rfl (fun hp hg => haveI l0 := Ft.l hp; haveI r0 := Ft.r hp; (OpD.ldq (Pl.fld (off := 2) (α := Chip) (β := (List Block)) Pl.one))) rfl ?_
      refine TS.gg 90 rfl (fun hp hg => haveI l0 := Ft.l hp; haveI r0 := Ft.r hp; OpY.move) rfl ?_
      obtain ⟨x_14, ex_14, H⟩ := bnd H
      refine TS.gg 90 rfl (fun hp hg => haveI l0 := Ft.l hp; haveI r0 := Ft.r hp; (OpD.index (gb_some ex_14 (aT (aT (nF hp.h.1) hp.h.2) (nF hg.h))))) rfl ?_
      refine TS.gg 90 rfl (fun hp hg => haveI l0 := Ft.l hp; haveI r0 := Ft.r hp; OpY.fieldAddr) rfl ?_
      refine TS.gg 90 rfl (fun hp hg => haveI l0 := Ft.l hp; haveI r0 := Ft.r hp; OpY.load) rfl ?_
      refine TS.gg 90 rfl (fun hp hg => haveI l0 := Ft.l hp; haveI r0 := Ft.r hp; OpY.notB) rfl ?_
      refine TS.gg 84 rfl (fun hp hg => OpY.pickOr) rfl ?_
      refine TS.g 81 rfl (fun hg => OpY.pickAnd) rfl ?_
      refine TS.s OpY.pickOr rfl ?_
      refine TS.nil ?_
      refine TE.then ?_
      refine TC.kp [1, 2, 3, 4, 9, 10, 11, 12, 100] [b4_0, b9_5, b11_7] ?_
      refine TC.cond (fun hc => ?_) (fun hc => ?_)
      · replace H := cT H hc
        refine TC.seqS ?_
        refine TS.s OpY.assign rfl ?_
        refine TS.nil ?_
        refine TE.then ?_
        refine TC.kp [8] [] ?_
        refine TC.ret ?_
        refine TE.then_ret ?_
        obtain rfl := (Option.some.inj H)
        exact TE.ret1 rfl Cv.le
      · replace H := cF H hc
        refine TC.skip ?_
        refine TE.then ?_
        refine TC.kp [1, 2, 3, 4, 9, 10, 11, 12] [b4_0, b9_5, b11_7] ?_
        refine TC.seq ?_
        refine TC.seqS ?_
        refine TS.s OpY.assign rfl ?_
        refine TS.nil ?_
        refine TE.then ?_
        refine TC.kp [1, 2, 3, 4, 9, 10, 11, 12, 15] [b4_0, b9_5, b11_7] ?_
        obtain ⟨o_15, H15, H⟩ := bnd H
        refine TC.cutP (fun s : Unit => o_15 = .inl s) (fun (_ : Unit) (_ : Unit) => (Env.set (Env.set (Env.set (Env.set (Env.set (Env.set (Env.set (Env.set Env.nil 1 (D (block0 : Int))) 2 (D (page0 : Int))) 3 (D (p0 : (List UInt8)))) 4 (Pt b4_0 0)) 9 (Pt b9_5 0)) 10 (D (r_5.2 : Int))) 11 (Pt b11_7 0)) 12 (D (r_7.2 : Int)))) (fun (_ : Unit) (_ : Unit) => [⟨b4_0, True, (One (c0 : Chip))⟩, ⟨b9_5, True, (One (r_5.1 : Chip))⟩, ⟨b11_7, True, (One (r_7.1 : Chip))⟩]) ?_ ?_
        · skip
          refine TC.block ?_
          refine TC.loopP H15 (fun (n_16 : Int) (_ : Unit) => (Env.set (Env.set (Env.set (Env.set (Env.set (Env.set (Env.set (Env.set (Env.set Env.nil 1 (D (block0 : Int))) 2 (D (page0 : Int))) 3 (D (p0 : (List UInt8)))) 4 (Pt b4_0 0)) 9 (Pt b9_5 0)) 10 (D (r_5.2 : Int))) 11 (Pt b11_7 0)) 12 (D (r_7.2 : Int))) 15 (D (n_16 : Int)))) (fun (n_16 : Int) (_ : Unit) => [⟨b4_0, True, (One (c0 : Chip))⟩, ⟨b9_5, True, (One (r_5.1 : Chip))⟩, ⟨b11_7, True, (One (r_7.1 : Chip))⟩]) () (Env.cv (Env.cv (Env.cv (Env.cv (Env.cv (Env.cv (Env.cv (Env.cv (Env.cv (Env.le_nil _)))))))))) (Less.pk rfl (Less.pk rfl (Less.pk rfl (Less.nil _)))) ?_
          rintro n_16 ⟨⟩ x_17 H17 he17
          replace H17 : bywaylaw06_ChipStill_l1 c0 block0 r_5 r_7 n_16 = some x_17 := H17
          unfold bywaylaw06_ChipStill_l1 at H17
          refine TC.seq ?_
          refine TC.seqS ?_
          refine TS.s OpY.move rfl ?_
          refine TS.s OpY.fieldAddr rfl ?_
          refine TS.s (OpD.ldq (Pl.fld (off := 2) (α := Chip) (β := (List Block)) Pl.one)) rfl ?_
          refine TS.s OpD.len rfl ?_
          refine TS.s OpY.lss rfl ?_
          refine TS.nil ?_
          refine TE.then ?_
          refine TC.kp [1, 2, 3, 4, 9, 10, 11, 12, 15, 105] [b4_0, b9_5, b11_7] ?_
          refine TC.cond (fun hc => ?_) (fun hc => ?_)
          · replace H17 := cT H17 hc
            refine TC.skip ?_
            refine TE.then ?_
            refine TC.kp [1, 2, 3, 4, 9, 10, 11, 12, 15] [b4_0, b9_5, b11_7] ?_
            refine TC.seq ?_
            refine TC.block ?_
            refine TC.seqD0 mix (by kernel_rfl) ?_
            refine TR.s OpY.move rfl ?_
            refine TR.s OpY.move rfl ?_
            refine TR.s OpY.neq rfl ?_
            refine TR.s OpY.move rfl ?_
            refine TR.g 111 rfl (fun hg => OpY.fieldAddr) rfl ?_
            refine TR.g 111 rfl (fun hg => (OpD.ldq (Pl.fld (off := 2) (α := Chip) (β := (List Block)) Pl.one))) rfl ?_
            refine TR.g 111 rfl (fun hg => OpY.move) rfl ?_
            obtain ⟨x_18, ex_18, H17⟩ := bnd H17
            refine TR.g 111 rfl (fun hg => (OpD.index (gb_some ex_18 hg.h))) rfl ?_
            refine TR.g 111 rfl (fun hg => OpY.load) rfl ?_
            refine TR.g 111 rfl (fun hg => OpY.fieldAddr) rfl ?_
            refine TR.g 111 rfl (fun hg => (OpD.ldq (Pl.fld (off := 2) (α := Chip) (β := (List Block)) Pl.one))) rfl ?_
            refine TR.g 111 rfl (fun hg => OpY.move) rfl ?_
            obtain ⟨x_19, ex_19, H17⟩ := bnd H17
            refine TR.g 111 rfl (fun hg => (OpD.index (gb_some ex_19 hg.h))) rfl ?_
            refine TR.g 111 rfl (fun hg => OpY.load) rfl ?_
            obtain ⟨x_20, ex_20, H17⟩ := bnd H17
            refine TR.g 111 rfl (fun hg => (OpY.call2 fun w v0 v1 hA h0 h1 => bywayref06_Blocks_c w v0 v1 hA (toD h0) (toD h1) (gb_some ex_20 hg.h))) rfl ?_
            refine TR.g 111 rfl (fun hg => OpY.notB) rfl ?_
            refine TR.g 111 rfl (fun hg => OpY.move) rfl ?_
            refine TR.gg 124 rfl (fun hp hg => OpY.fieldAddr) rfl ?_
            refine TR.gg 124 rfl (fun hp hg => (OpD.ldq (Pl.fld (off := 2) (α := Chip) (β := (List Block)) Pl.one))) rfl ?_
            refine TR.gg 124 rfl (fun hp hg => OpY.move) rfl ?_
            obtain ⟨x_21, ex_21, H17⟩ := bnd H17
            refine TR.gg 124 rfl (fun hp hg => (OpD.index (gb_some ex_21 (aT hp.h (nF hg.h))))) rfl ?_
            refine TR.gg 124 rfl (fun hp hg => OpY.load) rfl ?_
            refine TR.gg 124 rfl (fun hp hg => OpY.fieldAddr) rfl ?_
            refine TR.gg 124 rfl (fun hp hg => (OpD.ldq (Pl.fld (off := 2) (α := Chip) (β := (List Block)) Pl.one))) rfl ?_
            refine TR.gg 124 rfl (fun hp hg => OpY.move) rfl ?_
            obtain ⟨x_22, ex_22, H17⟩ := bnd H17
            refine TR.gg 124 rfl (fun hp hg => (OpD.index (gb_some ex_22 (aT hp.h (nF hg.h))))) rfl ?_
            refine TR.gg 124 rfl (fun hp hg => OpY.load) rfl ?_
            obtain ⟨x_23, ex_23, H17⟩ := bnd H17
            refine TR.gg 124 rfl (fun hp hg => (OpY.call2 fun w v0 v1 hA h0 h1 => bywayref06_Blocks_c w v0 v1 hA (toD h0) (toD h1) (gb_some ex_23 (aT hp.h (nF hg.h))))) rfl ?_
            refine TR.gg 124 rfl (fun hp hg => OpY.notB) rfl ?_
            refine TR.g 111 rfl (fun hg => OpY.pickOr) rfl ?_
            refine TR.s OpY.pickAnd rfl ?_
            refine TR.nil ?_
            refine TC.kp [1, 2, 3, 4, 9, 10, 11, 12, 15, 138] [b4_0, b9_5, b11_7] ?_
            refine TC.cond (fun hc => ?_) (fun hc => ?_)
            · replace H17 := cT H17 hc
              refine TC.seqS ?_
              refine TS.s OpY.assign rfl ?_
              refine TS.nil ?_
              refine TE.then ?_
              refine TC.kp [8] [] ?_
              refine TC.ret ?_
              refine TE.inBlock_ret ?_
              refine TE.then_ret ?_
              refine TE.then_ret ?_
              refine TE.inBlock_ret ?_
              refine TE.cut_ret ?_
              have R23 := elS_r (he17 _ (Option.some.inj H17).symm) H
              refine TE.then_ret ?_
              obtain rfl := (Option.some.inj R23)
              exact TE.ret1 rfl Cv.le
            · replace H17 := cF H17 hc
              refine TC.skip ?_
              refine TE.inBlock_normal ?_
              refine TE.then ?_
              refine TC.kp [1, 2, 3, 4, 9, 10, 11, 12, 15] [b4_0, b9_5, b11_7] ?_
              refine TC.regionS ?_
              refine TS.s OpY.move rfl ?_
              obtain ⟨x_25, ex_25, H17⟩ := bnd H17
              refine TS.s (OpD.add ex_25) rfl ?_
              refine TS.s OpY.assign rfl ?_
              refine TS.nil ?_
              refine TE.kp [1, 2, 3, 4, 9, 10, 11, 12, 15] [b4_0, b9_5, b11_7] ?_
              exact TE.backP x_25 () (Option.some.inj H17).symm (Env.cv (Env.cv (Env.cv (Env.cv (Env.cv (Env.cv (Env.cv (Env.cv (Env.cv (Env.le_nil _)))))))))) (Less.pk rfl (Less.pk rfl (Less.pk rfl (Less.nil _))))
          · replace H17 := cF H17 hc
            refine TC.exit ?_
            refine TE.then_exit ?_
            refine TE.then_exit ?_
            refine TE.inBlock_here ?_
            exact TE.cutP () () (he17 _ (Option.some.inj H17).symm).symm (Env.cv (Env.cv (Env.cv (Env.cv (Env.cv (Env.cv (Env.cv (Env.cv (Env.le_nil _))))))))) (Less.pk rfl (Less.pk rfl (Less.pk rfl (Less.nil _))))
        rintro ⟨⟩ ⟨⟩ hp
        replace H := elS_l hp H
        refine TE.then ?_
        refine TC.kp [1, 2, 3, 4, 9, 10, 11, 12] [b4_0, b9_5, b11_7] ?_
        refine TC.seq ?_
        refine TC.seqD0 mix (by kernel_rfl) ?_
        refine TR.s OpY.move rfl ?_
        refine TR.s OpY.eql rfl ?_
        refine TR.s OpY.move rfl ?_
        refine TR.g 141 rfl (fun hg => OpY.fieldAddr) rfl ?_
        refine TR.g 141 rfl (fun hg => (OpD.ldq (Pl.fld (off := 2) (α := Chip) (β := (List Block)) Pl.one))) rfl ?_
        refine TR.g 141 rfl (fun hg => OpY.move) rfl ?_
        obtain ⟨x_26, ex_26, H⟩ := bnd H
        refine TR.g 141 rfl (fun hg => (OpD.index (gb_some ex_26 hg.h))) rfl ?_
        refine TR.g 141 rfl (fun hg => OpY.fieldAddr) rfl ?_
        refine TR.g 141 rfl (fun hg => OpY.load) rfl ?_
        refine TR.g 141 rfl (fun hg => OpY.move) rfl ?_
        obtain ⟨x_27, ex_27, H⟩ := bnd H
        refine TR.g 141 rfl (fun hg => (OpD.index (gb_some ex_27 hg.h))) rfl ?_
        refine TR.g 141 rfl (fun hg => OpY.load) rfl ?_
        refine TR.g 141 rfl (fun hg => OpY.conv_slice_string) rfl ?_
        refine TR.g 141 rfl (fun hg => OpY.move) rfl ?_
        refine TR.g 141 rfl (fun hg => OpY.conv_slice_string) rfl ?_
        refine TR.g 141 rfl (fun hg => OpY.neq_string) rfl ?_
        refine TR.g 141 rfl (fun hg => OpY.move) rfl ?_
        refine TR.gg 155 rfl (fun hp hg => OpY.fieldAddr) rfl ?_
        refine TR.gg 155 rfl (fun hp hg => (OpD.ldq (Pl.fld (off := 2) (α := Chip) (β := (List Block)) Pl.one))) rfl ?_
        refine TR.gg 155 rfl (fun hp hg => OpY.move) rfl ?_
        obtain ⟨x_28, ex_28, H⟩ := bnd H
        refine TR.gg 155 rfl (fun hp hg => (OpD.index (gb_some ex_28 (aT hp.h (nF hg.h))))) rfl ?_
        refine TR.gg 155 rfl (fun hp hg => OpY.fieldAddr) rfl ?_
        refine TR.gg 155 rfl (fun hp hg => OpY.load) rfl ?_
        refine TR.gg 155 rfl (fun hp hg => OpY.move) rfl ?_
        obtain ⟨x_29, ex_29, H⟩ := bnd H
        refine TR.gg 155 rfl (fun hp hg => (OpD.add (gb_some ex_29 (aT hp.h (nF hg.h))))) rfl ?_
        refine TR.gg 155 rfl (fun hp hg => OpY.neq) rfl ?_
        refine TR.g 141 rfl (fun hg => OpY.pickOr) rfl ?_
        refine TR.g 141 rfl (fun hg => OpY.move) rfl ?_
        refine TR.gg 166 rfl (fun hp hg => OpY.fieldAddr) rfl ?_
        refine TR.gg 166 rfl (fun hp hg => (OpD.ldq (Pl.fld (off := 3) (α := Chip) (β := Int) Pl.one))) rfl ?_
        refine TR.gg 166 rfl (fun hp hg => OpY.fieldAddr) rfl ?_
        refine TR.gg 166 rfl (fun hp hg => (OpD.ldq (Pl.fld (off := 3) (α := Chip) (β := Int) Pl.one))) rfl ?_
        obtain ⟨x_30, ex_30, H⟩ := bnd H
        refine TR.gg 166 rfl (fun hp hg => (OpD.add (gb_some ex_30 (aT hp.h (nF hg.h))))) rfl ?_
        refine TR.gg 166 rfl (fun hp hg => OpY.neq) rfl ?_
        refine TR.g 141 rfl (fun hg => OpY.pickOr) rfl ?_
        refine TR.s OpY.pickAnd rfl ?_
        refine TR.nil ?_
        refine TC.kp [1, 2, 4, 9, 11, 12, 174] [b4_0, b9_5, b11_7] ?_
        refine TC.cond (fun hc => ?_) (fun hc => ?_)
        · replace H := cT H hc
          refine TC.seqS ?_
          refine TS.s OpY.assign rfl ?_
          refine TS.nil ?_
          refine TE.then ?_
          refine TC.kp [8] [] ?_
          refine TC.ret ?_
          refine TE.then_ret ?_
          obtain rfl := (Option.some.inj H)
          exact TE.ret1 rfl Cv.le
        · replace H := cF H hc
          refine TC.skip ?_
          refine TE.then ?_
          refine TC.kp [1, 2, 4, 9, 11, 12] [b4_0, b9_5, b11_7] ?_
          refine TC.seq ?_
          refine TC.seqD0 mix (by kernel_rfl) ?_
          refine TR.s OpY.move rfl ?_
          refine TR.s OpY.eql rfl ?_
          refine TR.s OpY.move rfl ?_
          refine TR.g 177 rfl (fun hg => OpY.fieldAddr) rfl ?_
          refine TR.g 177 rfl (fun hg => (OpD.ldq (Pl.fld (off := 2) (α := Chip) (β := (List Block)) Pl.one))) rfl ?_
          refine TR.g 177 rfl (fun hg => OpY.move) rfl ?_
          obtain ⟨x_31, ex_31, H⟩ := bnd H
          refine TR.g 177 rfl (fun hg => (OpD.index (gb_some ex_31 hg.h))) rfl ?_
          refine TR.g 177 rfl (fun hg => OpY.fieldAddr) rfl ?_
          refine TR.g 177 rfl (fun hg => OpY.load) rfl ?_
          refine TR.g 177 rfl (fun hg => OpY.neq) rfl ?_
          refine TR.g 177 rfl (fun hg => OpY.move) rfl ?_
          refine TR.gg 185 rfl (fun hp hg => OpY.fieldAddr) rfl ?_
          refine TR.gg 185 rfl (fun hp hg => (OpD.ldq (Pl.fld (off := 2) (α := Chip) (β := (List Block)) Pl.one))) rfl ?_
          refine TR.gg 185 rfl (fun hp hg => OpY.move) rfl ?_
          obtain ⟨x_32, ex_32, H⟩ := bnd H
          refine TR.gg 185 rfl (fun hp hg => (OpD.index (gb_some ex_32 (aT hp.h (nF hg.h))))) rfl ?_
          refine TR.gg 185 rfl (fun hp hg => OpY.fieldAddr) rfl ?_
          refine TR.gg 185 rfl (fun hp hg => OpY.load) rfl ?_
          refine TR.gg 185 rfl (fun hp hg => OpY.fieldAddr) rfl ?_
          refine TR.gg 185 rfl (fun hp hg => (OpD.ldq (Pl.fld (off := 2) (α := Chip) (β := (List Block)) Pl.one))) rfl ?_
          refine TR.gg 185 rfl (fun hp hg => OpY.move) rfl ?_
          obtain ⟨x_33, ex_33, H⟩ := bnd H
          refine TR.gg 185 rfl (fun hp hg => (OpD.index (gb_some ex_33 (aT hp.h (nF hg.h))))) rfl ?_
          refine TR.gg 185 rfl (fun hp hg => OpY.fieldAddr) rfl ?_
          refine TR.gg 185 rfl (fun hp hg => OpY.load) rfl ?_
          obtain ⟨x_34, ex_34, H⟩ := bnd H
          refine TR.gg 185 rfl (fun hp hg => (OpD.add (gb_some ex_34 (aT hp.h (nF hg.h))))) rfl ?_
          refine TR.gg 185 rfl (fun hp hg => OpY.neq) rfl ?_
          refine TR.g 177 rfl (fun hg => OpY.pickOr) rfl ?_
          refine TR.s OpY.pickAnd rfl ?_
          refine TR.nil ?_
          refine TC.kp [1, 2, 4, 9, 201] [b4_0, b9_5] ?_
          refine TC.cond (fun hc => ?_) (fun hc => ?_)
          · replace H := cT H hc
            refine TC.seqS ?_
            refine TS.s OpY.assign rfl ?_
            refine TS.nil ?_
            refine TE.then ?_
            refine TC.kp [8] [] ?_
            refine TC.ret ?_
            refine TE.then_ret ?_
            obtain rfl := (Option.some.inj H)
            exact TE.ret1 rfl Cv.le
          · replace H := cF H hc
            refine TC.skip ?_
            refine TE.then ?_
            refine TC.kp [1, 2, 4, 9] [b4_0, b9_5] ?_
            refine TC.seq ?_
            refine TC.seqS ?_
            refine TS.s OpY.assign rfl ?_
            refine TS.nil ?_
            refine TE.then ?_
            refine TC.kp [1, 2, 4, 9, 16] [b4_0, b9_5] ?_
            obtain ⟨o_35, H35, H⟩ := bnd H
            refine TC.cutP (fun s : Unit => o_35 = .inl s) (fun (_ : Unit) (_ : Unit) => Env.nil) (fun (_ : Unit) (_ : Unit) => []) ?_ ?_
            · skip
              refine TC.block ?_
              refine TC.loopP H35 (fun (k_36 : Int) (_ : Unit) => (Env.set (Env.set (Env.set (Env.set (Env.set Env.nil 1 (D (block0 : Int))) 2 (D (page0 : Int))) 4 (Pt b4_0 0)) 9 (Pt b9_5 0)) 16 (D (k_36 : Int)))) (fun (k_36 : Int) (_ : Unit) => [⟨b4_0, True, (One (c0 : Chip))⟩, ⟨b9_5, True, (One (r_5.1 : Chip))⟩]) () (Env.cv (Env.cv (Env.cv (Env.cv (Env.cv (Env.le_nil _)))))) (Less.pk rfl (Less.pk rfl (Less.nil _))) ?_
              rintro k_36 ⟨⟩ x_37 H37 he37
              replace H37 : bywaylaw06_ChipStill_l2 c0 block0 page0 r_5 k_36 = some x_37 := H37
              unfold bywaylaw06_ChipStill_l2 at H37
              refine TC.seq ?_
              refine TC.seqS ?_
              refine TS.s OpY.move rfl ?_
              refine TS.s OpY.fieldAddr rfl ?_
              refine TS.s (OpD.ldq (Pl.fld (off := 0) (α := Chip) (β := Int) Pl.one)) rfl ?_
              refine TS.s OpY.lss rfl ?_
              refine TS.nil ?_
              refine TE.then ?_
              refine TC.kp [1, 2, 4, 9, 16, 205] [b4_0, b9_5] ?_
              refine TC.cond (fun hc => ?_) (fun hc => ?_)
              · replace H37 := cT H37 hc
                refine TC.skip ?_
                refine TE.then ?_
                refine TC.kp [1, 2, 4, 9, 16] [b4_0, b9_5] ?_
                refine TC.seq ?_
                refine TC.block ?_
                refine TC.seqD0 mix (by kernel_rfl) ?_
                refine TR.s OpY.move rfl ?_
                refine TR.s OpY.move rfl ?_
                refine TR.s OpY.neq rfl ?_
                refine TR.s OpY.move rfl ?_
                refine TR.g 211 rfl (fun hg => OpY.fieldAddr) rfl ?_
                refine TR.g 211 rfl (fun hg => (OpD.ldq (Pl.fld (off := 2) (α := Chip) (β := (List Block)) Pl.one))) rfl ?_
                refine TR.g 211 rfl (fun hg => OpY.move) rfl ?_
                obtain ⟨x_38, ex_38, H37⟩ := bnd H37
                refine TR.g 211 rfl (fun hg => (OpD.index (gb_some ex_38 hg.h))) rfl ?_
                refine TR.g 211 rfl (fun hg => OpY.fieldAddr) rfl ?_
                refine TR.g 211 rfl (fun hg => OpY.load) rfl ?_
                refine TR.g 211 rfl (fun hg => OpY.move) rfl ?_
                obtain ⟨x_39, ex_39, H37⟩ := bnd H37
                refine TR.g 211 rfl (fun hg => (OpD.index (gb_some ex_39 hg.h))) rfl ?_
                refine TR.g 211 rfl (fun hg => OpY.load) rfl ?_
                refine TR.g 211 rfl (fun hg => OpY.conv_slice_string) rfl ?_
                refine TR.g 211 rfl (fun hg => OpY.fieldAddr) rfl ?_
                refine TR.g 211 rfl (fun hg => (OpD.ldq (Pl.fld (off := 2) (α := Chip) (β := (List Block)) Pl.one))) rfl ?_
                refine TR.g 211 rfl (fun hg => OpY.move) rfl ?_
                obtain ⟨x_40, ex_40, H37⟩ := bnd H37
                refine TR.g 211 rfl (fun hg => (OpD.index (gb_some ex_40 hg.h))) rfl ?_
                refine TR.g 211 rfl (fun hg => OpY.fieldAddr) rfl ?_
                refine TR.g 211 rfl (fun hg => OpY.load) rfl ?_
                refine TR.g 211 rfl (fun hg => OpY.move) rfl ?_
                obtain ⟨x_41, ex_41, H37⟩ := bnd H37
                refine TR.g 211 rfl (fun hg => (OpD.index (gb_some ex_41 hg.h))) rfl ?_
                refine TR.g 211 rfl (fun hg => OpY.load) rfl ?_
                refine TR.g 211 rfl (fun hg => OpY.conv_slice_string) rfl ?_
                refine TR.g 211 rfl (fun hg => OpY.neq_string) rfl ?_
                refine TR.s OpY.pickAnd rfl ?_
                refine TR.nil ?_
                refine TC.kp [1, 2, 4, 9, 16, 233] [b4_0, b9_5] ?_
                refine TC.cond (fun hc => ?_) (fun hc => ?_)
                · replace H37 := cT H37 hc
                  refine TC.seqS ?_
                  refine TS.s OpY.assign rfl ?_
                  refine TS.nil ?_
                  refine TE.then ?_
                  refine TC.kp [8] [] ?_
                  refine TC.ret ?_
                  refine TE.inBlock_ret ?_
                  refine TE.then_ret ?_
                  refine TE.then_ret ?_
                  refine TE.inBlock_ret ?_
                  refine TE.cut_ret ?_
                  have R41 := elS_r (he37 _ (Option.some.inj H37).symm) H
                  refine TE.then_ret ?_
                  obtain rfl := (Option.some.inj R41)
                  exact TE.ret1 rfl Cv.le
                · replace H37 := cF H37 hc
                  refine TC.skip ?_
                  refine TE.inBlock_normal ?_
                  refine TE.then ?_
                  refine TC.kp [1, 2, 4, 9, 16] [b4_0, b9_5] ?_
                  refine TC.regionS ?_
                  refine TS.s OpY.move rfl ?_
                  obtain ⟨x_43, ex_43, H37⟩ := bnd H37
                  refine TS.s (OpD.add ex_43) rfl ?_
                  refine TS.s OpY.assign rfl ?_
                  refine TS.nil ?_
                  refine TE.kp [1, 2, 4, 9, 16] [b4_0, b9_5] ?_
                  exact TE.backP x_43 () (Option.some.inj H37).symm (Env.cv (Env.cv (Env.cv (Env.cv (Env.cv (Env.le_nil _)))))) (Less.pk rfl (Less.pk rfl (Less.nil _)))
              · replace H37 := cF H37 hc
                refine TC.exit ?_
                refine TE.then_exit ?_
                refine TE.then_exit ?_
                refine TE.inBlock_here ?_
                exact TE.cutP () () (he37 _ (Option.some.inj H37).symm).symm (Env.le_nil _) (Less.nil _)
            rintro ⟨⟩ ⟨⟩ hp
            replace H := elS_l hp H
            refine TE.then ?_
            refine TC.kp [] [] ?_
            refine TC.seqS ?_
            refine TS.s OpY.assign rfl ?_
            refine TS.nil ?_
            refine TE.then ?_
            refine TC.kp [8] [] ?_
            refine TC.ret ?_
            obtain rfl := (Option.some.inj H)
            exact TE.ret1 rfl Cv.le
def bywaylaw06_ChipKeeps_l2 (x_19 : Int) (r_36 : (Chip × Int)) (sure_38 : (Vec (Vec Bool 4) 3)) (has_39 : (Vec (Vec UInt8 4) 3)) (k_54 : Int) : Option (Int ⊕ (Unit ⊕ Bool)) :=
  bif ((decide (k_54 < (4 : Int))) && (!r_36.1.Off)) then ((chip_Read r_36.1 x_19 k_54).bind fun r_56 => (gb (!((decide (r_56.2 ≠ (0 : Int))) || (decide ((r_56.1.length : Int) ≠ (5 : Int))))) (idx sure_38.l x_19)).bind fun x_57 => (gb (!((decide (r_56.2 ≠ (0 : Int))) || (decide ((r_56.1.length : Int) ≠ (5 : Int))))) (idx x_57.l k_54)).bind fun x_58 => (gb ((!((decide (r_56.2 ≠ (0 : Int))) || (decide ((r_56.1.length : Int) ≠ (5 : Int))))) && x_58) (idx r_56.1 (0 : Int))).bind fun x_59 => (gb ((!((decide (r_56.2 ≠ (0 : Int))) || (decide ((r_56.1.length : Int) ≠ (5 : Int))))) && x_58) (idx has_39.l x_19)).bind fun x_60 => (gb ((!((decide (r_56.2 ≠ (0 : Int))) || (decide ((r_56.1.length : Int) ≠ (5 : Int))))) && x_58) (idx x_60.l k_54)).bind fun x_61 => (gb (((!((decide (r_56.2 ≠ (0 : Int))) || (decide ((r_56.1.length : Int) ≠ (5 : Int))))) && x_58) && (!(decide (x_59 ≠ x_61)))) (idx r_56.1 (4 : Int))).bind fun x_62 => (gb (((!((decide (r_56.2 ≠ (0 : Int))) || (decide ((r_56.1.length : Int) ≠ (5 : Int))))) && x_58) && (!(decide (x_59 ≠ x_61)))) (idx has_39.l x_19)).bind fun x_63 => (gb (((!((decide (r_56.2 ≠ (0 : Int))) || (decide ((r_56.1.length : Int) ≠ (5 : Int))))) && x_58) && (!(decide (x_59 ≠ x_61)))) (idx x_63.l k_54)).bind fun x_64 => bif (((decide (r_56.2 ≠ (0 : Int))) || (decide ((r_56.1.length : Int) ≠ (5 : Int)))) || (x_58 && ((decide (x_59 ≠ x_61)) || (decide (x_62 ≠ x_64))))) then (some (.inr (.inr false))) else ((addI k_54 (1 : Int)).bind fun x_68 => some (.inl x_68))) else (some (.inr (.inl ())))
def bywaylaw06_ChipKeeps_l3 (x_19 : Int) (r_73 : (Chip × Int)) (k_81 : Int) (sure_82 : (Vec (Vec Bool 4) 3)) (has_83 : (Vec (Vec UInt8 4) 3)) : Option ((Int × (Vec (Vec Bool 4) 3) × (Vec (Vec UInt8 4) 3)) ⊕ ((Vec (Vec Bool 4) 3) × (Vec (Vec UInt8 4) 3))) :=
  bif (decide (k_81 < (4 : Int))) then ((idx sure_82.l x_19).bind fun x_85 => (idx x_85.l k_81).bind fun x_86 => (idx has_83.l x_19).bind fun x_87 => (idx x_87.l k_81).bind fun x_88 => (some ((Vec.set sure_82 (Int.toNat x_19) (Vec.set x_85 (Int.toNat k_81) (decide (r_73.2 = (0 : Int))))) : (Vec (Vec Bool 4) 3))).bind fun sure_89 => (some ((Vec.set has_83 (Int.toNat x_19) (Vec.set x_87 (Int.toNat k_81) (UInt8.ofNat 255))) : (Vec (Vec UInt8 4) 3))).bind fun has_90 => (addI k_81 (1 : Int)).bind fun x_91 => some (.inl (x_91, sure_89, has_90))) else (some (.inr (sure_82, has_83)))
def bywaylaw06_ChipKeeps_l4 (x_19 : Int) (c_69 : Chip) (sure_70 : (Vec (Vec Bool 4) 3)) (has_71 : (Vec (Vec UInt8 4) 3)) (k_106 : Int) : Option (Int ⊕ (Unit ⊕ Bool)) :=
  bif ((decide (k_106 < (4 : Int))) && (!c_69.Off)) then ((chip_Read c_69 x_19 k_106).bind fun r_108 => (gb (!((decide (r_108.2 ≠ (0 : Int))) || (decide ((r_108.1.length : Int) ≠ (5 : Int))))) (idx sure_70.l x_19)).bind fun x_109 => (gb (!((decide (r_108.2 ≠ (0 : Int))) || (decide ((r_108.1.length : Int) ≠ (5 : Int))))) (idx x_109.l k_106)).bind fun x_110 => (gb ((!((decide (r_108.2 ≠ (0 : Int))) || (decide ((r_108.1.length : Int) ≠ (5 : Int))))) && x_110) (idx r_108.1 (0 : Int))).bind fun x_111 => (gb ((!((decide (r_108.2 ≠ (0 : Int))) || (decide ((r_108.1.length : Int) ≠ (5 : Int))))) && x_110) (idx has_71.l x_19)).bind fun x_112 => (gb ((!((decide (r_108.2 ≠ (0 : Int))) || (decide ((r_108.1.length : Int) ≠ (5 : Int))))) && x_110) (idx x_112.l k_106)).bind fun x_113 => (gb (((!((decide (r_108.2 ≠ (0 : Int))) || (decide ((r_108.1.length : Int) ≠ (5 : Int))))) && x_110) && (!(decide (x_111 ≠ x_113)))) (idx r_108.1 (4 : Int))).bind fun x_114 => (gb (((!((decide (r_108.2 ≠ (0 : Int))) || (decide ((r_108.1.length : Int) ≠ (5 : Int))))) && x_110) && (!(decide (x_111 ≠ x_113)))) (idx has_71.l x_19)).bind fun x_115 => (gb (((!((decide (r_108.2 ≠ (0 : Int))) || (decide ((r_108.1.length : Int) ≠ (5 : Int))))) && x_110) && (!(decide (x_111 ≠ x_113)))) (idx x_115.l k_106)).bind fun x_116 => bif (((decide (r_108.2 ≠ (0 : Int))) || (decide ((r_108.1.length : Int) ≠ (5 : Int)))) || (x_110 && ((decide (x_111 ≠ x_113)) || (decide (x_114 ≠ x_116))))) then (some (.inr (.inr false))) else ((addI k_106 (1 : Int)).bind fun x_120 => some (.inl x_120))) else (some (.inr (.inl ())))
def bywaylaw06_ChipKeeps_l1 (faults0 : (List Fault)) (l0 : (List bywaylaw06_Do)) (i_9 : Int) (c_10 : Chip) (sure_11 : (Vec (Vec Bool 4) 3)) (has_12 : (Vec (Vec UInt8 4) 3)) : Option ((Int × Chip × (Vec (Vec Bool 4) 3) × (Vec (Vec UInt8 4) 3)) ⊕ (Chip ⊕ Bool)) :=
  bif ((decide (i_9 < (l0.length : Int))) && (decide (i_9 < (100 : Int)))) then (((idx l0 i_9).bind fun x_18 => (remI (x_18.Block.toNat : Int) (3 : Int)).bind fun x_19 => (idx l0 i_9).bind fun x_21 => (bif (decide ((x_21.Kind % (UInt8.ofNat 4)) = (UInt8.ofNat 0))) then (some (decide ((x_21.Kind % (UInt8.ofNat 4)) = (UInt8.ofNat 0)))) else (some (decide ((x_21.Kind % (UInt8.ofNat 4)) = (UInt8.ofNat 1))))).bind fun x_22 => bif x_22 then ((idx c_10.Blocks x_19).bind fun x_24 => bif (decide (x_24.Used = (4 : Int))) then ((room 1 (5 : Int)).bind fun u_25 => (chip_Program c_10 x_19 (3 : Int) (List.replicate (Int.toNat (5 : Int)) (Dat.z : UInt8))).bind fun r_26 => bif (decide (r_26.2 = (0 : Int))) then (some (.inr false)) else (some (.inl (c_10, sure_11, has_12)))) else ((idx l0 i_9).bind fun x_30 => (idx l0 i_9).bind fun x_31 => (idx l0 i_9).bind fun x_32 => (idx l0 i_9).bind fun x_33 => (idx l0 i_9).bind fun x_34 => (some (([x_30.Byte, x_31.Byte, x_32.Byte, x_33.Byte, x_34.Byte] : List UInt8) : (List UInt8))).bind fun p_35 => (chip_Program c_10 x_19 x_24.Used p_35).bind fun r_36 => (bif (!c_10.Off) then ((idx l0 i_9).bind fun x_41 => (idx sure_11.l x_19).bind fun x_42 => (idx x_42.l x_24.Used).bind fun x_43 => (idx has_12.l x_19).bind fun x_44 => (idx x_44.l x_24.Used).bind fun x_45 => (some ((Vec.set sure_11 (Int.toNat x_19) (Vec.set x_42 (Int.toNat x_24.Used) (decide (r_36.2 = (0 : Int))))) : (Vec (Vec Bool 4) 3))).bind fun sure_46 => (some ((Vec.set has_12 (Int.toNat x_19) (Vec.set x_44 (Int.toNat x_24.Used) x_41.Byte)) : (Vec (Vec UInt8 4) 3))).bind fun has_47 => some (sure_46, has_47)) else (some (sure_11, has_12))).bind fun o_40 => el2 o_40 (fun sure_38 has_39 => (gb c_10.Off (idx l0 i_9)).bind fun x_48 => (gb (c_10.Off && (decide ((x_48.Kind % (UInt8.ofNat 4)) ≠ (UInt8.ofNat 3)))) (bywayref06_Same r_36.1 c_10)).bind fun x_49 => (gb (!(((c_10.Off && (decide ((x_48.Kind % (UInt8.ofNat 4)) ≠ (UInt8.ofNat 3)))) && (!x_49)) || (decide (r_36.1.Ops < c_10.Ops)))) (addI c_10.Ops (1 : Int))).bind fun x_50 => bif ((((c_10.Off && (decide ((x_48.Kind % (UInt8.ofNat 4)) ≠ (UInt8.ofNat 3)))) && (!x_49)) || (decide (r_36.1.Ops < c_10.Ops))) || (decide (r_36.1.Ops > x_50))) then (some (.inr false)) else ((loopO (fun s => bywaylaw06_ChipKeeps_l2 x_19 r_36 sure_38 has_39 s) (0 : Int)).bind fun o_53 => elS o_53 (fun _ => some (.inl (r_36.1, sure_38, has_39))) (fun q => some (.inr q)))))) else ((bif (decide ((x_21.Kind % (UInt8.ofNat 4)) = (UInt8.ofNat 2))) then ((chip_Erase c_10 x_19).bind fun r_73 => (bif (!c_10.Off) then ((loopO (fun s => bywaylaw06_ChipKeeps_l3 x_19 r_73 s.1 s.2.1 s.2.2) ((0 : Int), sure_11, has_12)).bind fun o_80 => el2 o_80 (fun sure_78 has_79 => (idx r_73.1.Blocks x_19).bind fun x_92 => (idx c_10.Blocks x_19).bind fun x_93 => (addI x_93.Worn (1 : Int)).bind fun x_94 => bif (decide (x_92.Worn ≠ x_94)) then (some (.inr false)) else (some (.inl (sure_78, has_79))))) else (some (.inl (sure_11, has_12)))).bind fun o_77 => elS o_77 (fun s => el2 s (fun sure_75 has_76 => some (.inl (r_73.1, sure_75, has_76)))) (fun q => some (.inr q))) else ((chip_On c_10 faults0).bind fun r_99 => some (.inl (r_99.1, sure_11, has_12)))).bind fun o_72 => elS o_72 (fun s => el3 s (fun c_69 sure_70 has_71 => (gb c_10.Off (idx l0 i_9)).bind fun x_100 => (gb (c_10.Off && (decide ((x_100.Kind % (UInt8.ofNat 4)) ≠ (UInt8.ofNat 3)))) (bywayref06_Same c_69 c_10)).bind fun x_101 => (gb (!(((c_10.Off && (decide ((x_100.Kind % (UInt8.ofNat 4)) ≠ (UInt8.ofNat 3)))) && (!x_101)) || (decide (c_69.Ops < c_10.Ops)))) (addI c_10.Ops (1 : Int))).bind fun x_102 => bif ((((c_10.Off && (decide ((x_100.Kind % (UInt8.ofNat 4)) ≠ (UInt8.ofNat 3)))) && (!x_101)) || (decide (c_69.Ops < c_10.Ops))) || (decide (c_69.Ops > x_102))) then (some (.inr false)) else ((loopO (fun s => bywaylaw06_ChipKeeps_l4 x_19 c_69 sure_70 has_71 s) (0 : Int)).bind fun o_105 => elS o_105 (fun _ => some (.inl (c_69, sure_70, has_71))) (fun q => some (.inr q))))) (fun q => some (.inr q)))).bind fun o_17 => elS o_17 (fun s => el3 s (fun c_14 sure_15 has_16 => (addI i_9 (1 : Int)).bind fun x_121 => some (.inl (x_121, c_14, sure_15, has_16)))) (fun q => some (.inr (.inr q)))) else (some (.inr (.inl c_10)))
def bywaylaw06_ChipKeeps (faults0 : (List Fault)) (l0 : (List bywaylaw06_Do)) : Option Bool :=
  (bywaylaw06_awake).bind fun x_1 => bif (!x_1) then (some false) else ((chip_New (3 : Int) (4 : Int) (5 : Int)).bind fun r_2 => bif ((decide (r_2.2 ≠ (0 : Int))) || (decide ((faults0.length : Int) > (60 : Int)))) then (some (decide ((faults0.length : Int) > (60 : Int)))) else ((chip_On r_2.1 faults0).bind fun r_4 => (loopO (fun s => bywaylaw06_ChipKeeps_l1 faults0 l0 s.1 s.2.1 s.2.2.1 s.2.2.2) ((0 : Int), r_4.1, Dat.z, Dat.z)).bind fun o_8 => elS o_8 (fun c_7 => (chip_Right c_7).bind fun x_122 => some x_122) (fun q => some q)))
/-- bywaylaw06.ChipKeeps -/
theorem bywaylaw06_ChipKeeps_c {A : Nat → Prop} {faults0 : (List Fault)} {l0 : (List bywaylaw06_Do)}  {r : Bool} (w : World) (v0 v1 : Value) (hA : ∀ k, w.heap.size ≤ k → A k)  (h0 : (D (faults0 : (List Fault))).p A w v0) (h1 : (D (l0 : (List bywaylaw06_Do))).p A w v1) (H : bywaylaw06_ChipKeeps faults0 l0 = some r) :
    Calls Try.prog 7 #[v0, v1] w (Ret A w (D (r : Bool))) := by
  unfold bywaylaw06_ChipKeeps at H
  refine enter2 hA Try.func7 rfl Try.ntmps7 rfl h0 h1 ?_
  refine TC.seqS ?_
  refine TS.s OpY.assign rfl ?_
  refine TS.nil ?_
  refine TE.then ?_
  refine TC.kp [0, 1] [] ?_
  refine TC.seq ?_
  refine TC.seqS ?_
  obtain ⟨x_1, ex_1, H⟩ := bnd H
  refine TS.s (OpY.call0 fun w hA => bywaylaw06_awake_c w hA ex_1) rfl ?_
  refine TS.s OpY.notB rfl ?_
  refine TS.nil ?_
  refine TE.then ?_
  refine TC.kp [0, 1, 25] [] ?_
  refine TC.cond (fun hc => ?_) (fun hc => ?_)
  · replace H := cT H hc
    refine TC.seqS ?_
    refine TS.s OpY.assign rfl ?_
    refine TS.nil ?_
    refine TE.then ?_
    refine TC.kp [4] [] ?_
    refine TC.ret ?_
    refine TE.then_ret ?_
    obtain rfl := (Option.some.inj H)
    exact TE.ret1 rfl Cv.le
  · replace H := cF H hc
    refine TC.skip ?_
    refine TE.then ?_
    refine TC.kp [0, 1] [] ?_
    refine TC.seqS ?_
    obtain ⟨r_2, er_2, H⟩ := bnd H
    refine TS.s (OpY.call3 fun w v0 v1 v2 hA h0 h1 h2 => chip_New_c w v0 v1 v2 hA (toD h0) (toD h1) (toD h2) er_2) rfl ?_
    refine TS.s OpY.move rfl ?_
    refine TS.s (OpY.extract rfl) rfl ?_
    refine TS.s (OpY.extract rfl) rfl ?_
    refine TS.alloc (α := Chip) rfl fun b5_2 => ?_
    refine TS.un (OpT.storeq (y := (r_2.1 : Chip)) Pl.one) ?_
    refine TS.s OpY.assign rfl ?_
    refine TS.nil ?_
    refine TE.then ?_
    refine TC.kp [0, 1, 5, 6] [b5_2] ?_
    refine TC.seq ?_
    refine TC.seqS ?_
    refine TS.s OpY.move rfl ?_
    refine TS.s OpY.neq rfl ?_
    refine TS.s OpY.move rfl ?_
    refine TS.g 32 rfl (fun hg => OpY.move) rfl ?_
    refine TS.g 32 rfl (fun hg => OpD.len) rfl ?_
    refine TS.g 32 rfl (fun hg => OpY.gtr) rfl ?_
    refine TS.s OpY.pickOr rfl ?_
    refine TS.nil ?_
    refine TE.then ?_
    refine TC.kp [0, 1, 5, 36] [b5_2] ?_
    refine TC.cond (fun hc => ?_) (fun hc => ?_)
    · replace H := cT H hc
      refine TC.seqS ?_
      refine TS.s OpY.move rfl ?_
      refine TS.s OpD.len rfl ?_
      refine TS.s OpY.gtr rfl ?_
      refine TS.s OpY.assign rfl ?_
      refine TS.nil ?_
      refine TE.then ?_
      refine TC.kp [4] [] ?_
      refine TC.ret ?_
      refine TE.then_ret ?_
      obtain rfl := (Option.some.inj H)
      exact TE.ret1 rfl Cv.le
    · replace H := cF H hc
      refine TC.skip ?_
      refine TE.then ?_
      refine TC.kp [0, 1, 5] [b5_2] ?_
      refine TC.seqS ?_
      refine TS.s (OpD.ldq Pl.one) rfl ?_
      refine TS.s OpY.move rfl ?_
      obtain ⟨r_4, er_4, H⟩ := bnd H
      refine TS.s (OpY.call2 fun w v0 v1 hA h0 h1 => chip_On_c w v0 v1 hA (toD h0) (toD h1) er_4) rfl ?_
      refine TS.s OpY.move rfl ?_
      refine TS.s (OpY.extract rfl) rfl ?_
      refine TS.s (OpY.extract rfl) rfl ?_
      refine TS.un (OpT.storeq (y := (r_4.1 : Chip)) Pl.one) ?_
      refine TS.nil ?_
      refine TE.then ?_
      refine TC.kp [0, 1, 5] [b5_2] ?_
      refine TC.seqS ?_
      refine TS.alloc (α := (Vec (Vec Bool 4) 3)) rfl fun b7_4 => ?_
      refine TS.nil ?_
      refine TE.then ?_
      refine TC.kp [0, 1, 5, 7] [b5_2, b7_4] ?_
      refine TC.seqS ?_
      refine TS.alloc (α := (Vec (Vec UInt8 4) 3)) rfl fun b8_5 => ?_
      refine TS.nil ?_
      refine TE.then ?_
      refine TC.kp [0, 1, 5, 7, 8] [b5_2, b7_4, b8_5] ?_
      refine TC.seq ?_
      refine TC.seqS ?_
      refine TS.s OpY.assign rfl ?_
      refine TS.nil ?_
      refine TE.then ?_
      refine TC.kp [0, 1, 5, 7, 8, 9] [b5_2, b7_4, b8_5] ?_
      obtain ⟨o_8, H8, H⟩ := bnd H
      refine TC.cutP (fun s : Chip => o_8 = .inl s) (fun (c_7 : Chip) (_ : Unit) => (Env.set Env.nil 5 (Pt b5_2 0))) (fun (c_7 : Chip) (_ : Unit) => [⟨b5_2, True, (One (c_7 : Chip))⟩]) ?_ ?_
      · skip
        refine TC.block ?_
        refine TC.loopP H8 (fun ⟨i_9, c_10, sure_11, has_12⟩ (_ : Unit) => (Env.set (Env.set (Env.set (Env.set (Env.set (Env.set Env.nil 0 (D (faults0 : (List Fault)))) 1 (D (l0 : (List bywaylaw06_Do)))) 5 (Pt b5_2 0)) 7 (Pt b7_4 0)) 8 (Pt b8_5 0)) 9 (D (i_9 : Int)))) (fun ⟨i_9, c_10, sure_11, has_12⟩ (_ : Unit) => [⟨b5_2, True, (One (c_10 : Chip))⟩, ⟨b7_4, True, (One (sure_11 : (Vec (Vec Bool 4) 3)))⟩, ⟨b8_5, True, (One (has_12 : (Vec (Vec UInt8 4) 3)))⟩]) () (Env.cv (Env.cv (Env.cv (Env.cv (Env.cv (Env.cv (Env.le_nil _))))))) (Less.pk rfl (Less.pk rfl (Less.pk rfl (Less.nil _)))) ?_
        rintro ⟨i_9, c_10, sure_11, has_12⟩ ⟨⟩ x_13 H13 he13
        replace H13 : bywaylaw06_ChipKeeps_l1 faults0 l0 i_9 c_10 sure_11 has_12 = some x_13 := H13
        unfold bywaylaw06_ChipKeeps_l1 at H13
        refine TC.seq ?_
        refine TC.seqS ?_
        refine TS.s OpY.move rfl ?_
        refine TS.s OpY.move rfl ?_
        refine TS.s OpD.len rfl ?_
        refine TS.s OpY.lss rfl ?_
        refine TS.s OpY.move rfl ?_
        refine TS.g 50 rfl (fun hg => OpY.move) rfl ?_
        refine TS.g 50 rfl (fun hg => OpY.lss) rfl ?_
        refine TS.s OpY.pickAnd rfl ?_
        refine TS.nil ?_
        refine TE.then ?_
        refine TC.kp [0, 1, 5, 7, 8, 9, 53] [b5_2, b7_4, b8_5] ?_
        refine TC.cond (fun hc => ?_) (fun hc => ?_)
        · replace H13 := cT H13 hc
          refine TC.skip ?_
          refine TE.then ?_
          refine TC.kp [0, 1, 5, 7, 8, 9] [b5_2, b7_4, b8_5] ?_
          refine TC.seq ?_
          obtain ⟨o_17, H17, H13⟩ := bnd H13
          refine TC.cutP (fun s : (Chip × (Vec (Vec Bool 4) 3) × (Vec (Vec UInt8 4) 3)) => o_17 = .inl s) (fun ⟨c_14, sure_15, has_16⟩ (_ : Unit) => (Env.set (Env.set (Env.set (Env.set (Env.set (Env.set Env.nil 0 (D (faults0 : (List Fault)))) 1 (D (l0 : (List bywaylaw06_Do)))) 5 (Pt b5_2 0)) 7 (Pt b7_4 0)) 8 (Pt b8_5 0)) 9 (D (i_9 : Int)))) (fun ⟨c_14, sure_15, has_16⟩ (_ : Unit) => [⟨b5_2, True, (One (c_14 : Chip))⟩, ⟨b7_4, True, (One (sure_15 : (Vec (Vec Bool 4) 3)))⟩, ⟨b8_5, True, (One (has_16 : (Vec (Vec UInt8 4) 3)))⟩]) ?_ ?_
          · skip
            refine TC.block ?_
            refine TC.seqS ?_
            refine TS.s OpY.move rfl ?_
            refine TS.s OpY.move rfl ?_
            obtain ⟨x_18, ex_18, H17⟩ := bnd H17
            refine TS.s (OpD.index ex_18) rfl ?_
            refine TS.s OpY.fieldAddr rfl ?_
            refine TS.s OpY.load rfl ?_
            refine TS.s OpD.conv8_i rfl ?_
            obtain ⟨x_19, ex_19, H17⟩ := bnd H17
            refine TS.s (OpD.rem ex_19) rfl ?_
            refine TS.s OpY.assign rfl ?_
            refine TS.nil ?_
            refine TE.then ?_
            refine TC.kp [0, 1, 5, 7, 8, 9, 10] [b5_2, b7_4, b8_5] ?_
            refine TC.seqS ?_
            refine TS.s (OpD.ldq Pl.one) rfl ?_
            refine TS.alloc (α := Chip) rfl fun b11_19 => ?_
            refine TS.un (OpT.storeq (y := (c_10 : Chip)) Pl.one) ?_
            refine TS.nil ?_
            refine TE.then ?_
            refine TC.kp [0, 1, 5, 7, 8, 9, 10, 11] [b5_2, b7_4, b8_5, b11_19] ?_
            refine TC.seq ?_
            refine TC.seqS ?_
            refine TS.s OpY.move rfl ?_
            refine TS.s OpY.move rfl ?_
            obtain ⟨x_21, ex_21, H17⟩ := bnd H17
            refine TS.s (OpD.index ex_21) rfl ?_
            refine TS.s OpY.fieldAddr rfl ?_
            refine TS.s OpY.load rfl ?_
            refine TS.s (OpY.rem8 (by decide)) rfl ?_
            refine TS.nil ?_
            refine TE.then ?_
            refine TC.kp [0, 1, 5, 7, 8, 9, 10, 11, 69] [b5_2, b7_4, b8_5, b11_19] ?_
            refine TC.block ?_
            refine TC.seq ?_
            obtain ⟨o_23, H23, H17⟩ := bnd H17
            refine TC.cutP (fun s : Bool => o_23 = s) (fun (x_22 : Bool) (_ : Unit) => (Env.set (Env.set (Env.set (Env.set (Env.set (Env.set (Env.set (Env.set (Env.set (Env.set Env.nil 0 (D (faults0 : (List Fault)))) 1 (D (l0 : (List bywaylaw06_Do)))) 5 (Pt b5_2 0)) 7 (Pt b7_4 0)) 8 (Pt b8_5 0)) 9 (D (i_9 : Int))) 10 (D (x_19 : Int))) 11 (Pt b11_19 0)) 69 (D ((x_21.Kind % (UInt8.ofNat 4)) : UInt8))) 76 (D (x_22 : Bool)))) (fun (x_22 : Bool) (_ : Unit) => [⟨b5_2, True, (One (c_10 : Chip))⟩, ⟨b7_4, True, (One (sure_11 : (Vec (Vec Bool 4) 3)))⟩, ⟨b8_5, True, (One (has_12 : (Vec (Vec UInt8 4) 3)))⟩, ⟨b11_19, True, (One (c_10 : Chip))⟩]) ?_ ?_
            · skip
              refine TC.seqS ?_
              refine TS.s OpY.eql8 rfl ?_
              refine TS.s OpY.assign rfl ?_
              refine TS.nil ?_
              refine TE.then ?_
              refine TC.kp [0, 1, 5, 7, 8, 9, 10, 11, 69, 76] [b5_2, b7_4, b8_5, b11_19] ?_
              refine TC.cond (fun hc => ?_) (fun hc => ?_)
              · replace H23 := cT H23 hc
                refine TC.skip ?_
                exact TE.cutP (decide ((x_21.Kind % (UInt8.ofNat 4)) = (UInt8.ofNat 0))) () (Option.some.inj H23).symm (Env.cv (Env.cv (Env.cv (Env.cv (Env.cv (Env.cv (Env.cv (Env.cv (Env.cv (Env.cv (Env.le_nil _))))))))))) (Less.pk rfl (Less.pk rfl (Less.pk rfl (Less.pk rfl (Less.nil _)))))
              · replace H23 := cF H23 hc
                refine TC.regionS ?_
                refine TS.s OpY.eql8 rfl ?_
                refine TS.s OpY.assign rfl ?_
                refine TS.nil ?_
                refine TE.kp [0, 1, 5, 7, 8, 9, 10, 11, 69, 76] [b5_2, b7_4, b8_5, b11_19] ?_
                exact TE.cutP (decide ((x_21.Kind % (UInt8.ofNat 4)) = (UInt8.ofNat 1))) () (Option.some.inj H23).symm (Env.cv (Env.cv (Env.cv (Env.cv (Env.cv (Env.cv (Env.cv (Env.cv (Env.cv (Env.cv (Env.le_nil _))))))))))) (Less.pk rfl (Less.pk rfl (Less.pk rfl (Less.pk rfl (Less.nil _)))))
            rintro x_22 ⟨⟩ hp
            replace hp := hp.symm
            subst hp
            refine TE.then ?_
            refine TC.kp [0, 1, 5, 7, 8, 9, 10, 11, 69, 76] [b5_2, b7_4, b8_5, b11_19] ?_
            refine TC.cond (fun hc => ?_) (fun hc => ?_)
            · replace H17 := cT H17 hc
              refine TC.seqS ?_
              refine TS.s OpY.fieldAddr rfl ?_
              refine TS.s (OpD.ldq (Pl.fld (off := 2) (α := Chip) (β := (List Block)) Pl.one)) rfl ?_
              refine TS.s OpY.move rfl ?_
              obtain ⟨x_24, ex_24, H17⟩ := bnd H17
              refine TS.s (OpD.index ex_24) rfl ?_
              refine TS.s OpY.fieldAddr rfl ?_
              refine TS.s OpY.load rfl ?_
              refine TS.s OpY.assign rfl ?_
              refine TS.nil ?_
              refine TE.then ?_
              refine TC.kp [0, 1, 5, 7, 8, 9, 10, 11, 12] [b5_2, b7_4, b8_5, b11_19] ?_
              refine TC.seq ?_
              refine TC.seqS ?_
              refine TS.s OpY.move rfl ?_
              refine TS.s OpY.eql rfl ?_
              refine TS.nil ?_
              refine TE.then ?_
              refine TC.kp [0, 1, 5, 7, 8, 9, 10, 11, 12, 86] [b5_2, b7_4, b8_5, b11_19] ?_
              refine TC.cond (fun hc => ?_) (fun hc => ?_)
              · replace H17 := cT H17 hc
                refine TC.seqD [7, 8] [] mix (by kernel_rfl) (by kernel_rfl) ?_
                refine TR.s (OpD.ldq Pl.one) rfl ?_
                refine TR.s OpY.move rfl ?_
                obtain ⟨u_25, eu_25, H17⟩ := bnd H17
                refine TR.s (OpY.makeSlice (room_make eu_25).1 (room_make eu_25).2.1 (room_make eu_25).2.2) rfl ?_
                obtain ⟨r_26, er_26, H17⟩ := bnd H17
                refine TR.s (OpY.call4 fun w v0 v1 v2 v3 hA h0 h1 h2 h3 => chip_Program_c w v0 v1 v2 v3 hA (toD h0) (toD h1) (toD h2) (toD h3) er_26) rfl ?_
                refine TR.s OpY.move rfl ?_
                refine TR.s (OpY.extract rfl) rfl ?_
                refine TR.s (OpY.extract rfl) rfl ?_
                refine TR.t (fun g => OpT.allocT (α := Chip)) rfl ?_
                refine TR.tn (fun g => (OpT.storeq (y := (r_26.1 : Chip)) Pl.one)) rfl ?_
                refine TR.s OpY.assign rfl ?_
                refine TR.nil ?_
                rintro ⟨⟨_, ⟨b13_26, _⟩⟩, _⟩
                dsimp only [Fam.nextS, Fam.nextN, Fam.one, List.cons_append, List.nil_append]
                refine TC.kp [0, 1, 5, 7, 8, 9, 14] [b5_2, b7_4, b8_5] ?_
                refine TC.seq ?_
                refine TC.seqS ?_
                refine TS.s OpY.move rfl ?_
                refine TS.s OpY.eql rfl ?_
                refine TS.nil ?_
                refine TE.then ?_
                refine TC.kp [0, 1, 5, 7, 8, 9, 95] [b5_2, b7_4, b8_5] ?_
                refine TC.cond (fun hc => ?_) (fun hc => ?_)
                · replace H17 := cT H17 hc
                  refine TC.seqS ?_
                  refine TS.s OpY.assign rfl ?_
                  refine TS.nil ?_
                  refine TE.then ?_
                  refine TC.kp [4] [] ?_
                  refine TC.ret ?_
                  refine TE.then_ret ?_
                  refine TE.then_ret ?_
                  refine TE.inBlock_ret ?_
                  refine TE.then_ret ?_
                  refine TE.inBlock_ret ?_
                  refine TE.cut_ret ?_
                  have R27 := elS_r (Option.some.inj H17) H13
                  refine TE.then_ret ?_
                  refine TE.then_ret ?_
                  refine TE.inBlock_ret ?_
                  refine TE.cut_ret ?_
                  have R28 := elS_r (he13 _ (Option.some.inj R27).symm) H
                  refine TE.then_ret ?_
                  obtain rfl := (Option.some.inj R28)
                  exact TE.ret1 rfl Cv.le
                · replace H17 := cF H17 hc
                  refine TC.skip ?_
                  refine TE.then ?_
                  refine TC.kp [0, 1, 5, 7, 8, 9] [b5_2, b7_4, b8_5] ?_
                  refine TC.exit ?_
                  refine TE.then_exit ?_
                  refine TE.inBlock_other rfl ?_
                  refine TE.then_exit ?_
                  refine TE.inBlock_here ?_
                  exact TE.cutP ⟨c_10, sure_11, has_12⟩ () (Option.some.inj H17).symm (Env.cv (Env.cv (Env.cv (Env.cv (Env.cv (Env.cv (Env.le_nil _))))))) (Less.pk rfl (Less.pk rfl (Less.pk rfl (Less.nil _))))
              · replace H17 := cF H17 hc
                refine TC.skip ?_
                refine TE.then ?_
                refine TC.kp [0, 1, 5, 7, 8, 9, 10, 11, 12] [b5_2, b7_4, b8_5, b11_19] ?_
                refine TC.seqD0 mix (by kernel_rfl) ?_
                refine TR.s OpY.move rfl ?_
                refine TR.s OpY.move rfl ?_
                obtain ⟨x_30, ex_30, H17⟩ := bnd H17
                refine TR.s (OpD.index ex_30) rfl ?_
                refine TR.s OpY.fieldAddr rfl ?_
                refine TR.s OpY.load rfl ?_
                refine TR.s OpY.move rfl ?_
                refine TR.s OpY.move rfl ?_
                obtain ⟨x_31, ex_31, H17⟩ := bnd H17
                refine TR.s (OpD.index ex_31) rfl ?_
                refine TR.s OpY.fieldAddr rfl ?_
                refine TR.s OpY.load rfl ?_
                refine TR.s OpY.move rfl ?_
                refine TR.s OpY.move rfl ?_
                obtain ⟨x_32, ex_32, H17⟩ := bnd H17
                refine TR.s (OpD.index ex_32) rfl ?_
                refine TR.s OpY.fieldAddr rfl ?_
                refine TR.s OpY.load rfl ?_
                refine TR.s OpY.move rfl ?_
                refine TR.s OpY.move rfl ?_
                obtain ⟨x_33, ex_33, H17⟩ := bnd H17
                refine TR.s (OpD.index ex_33) rfl ?_
                refine TR.s OpY.fieldAddr rfl ?_
                refine TR.s OpY.load rfl ?_
                refine TR.s OpY.move rfl ?_
                refine TR.s OpY.move rfl ?_
                obtain ⟨x_34, ex_34, H17⟩ := bnd H17
                refine TR.s (OpD.index ex_34) rfl ?_
                refine TR.s OpY.fieldAddr rfl ?_
                refine TR.s OpY.load rfl ?_
                refine TR.s (OpY.buildSlice [.tmp 100, .tmp 105, .tmp 110, .tmp 115, .tmp 120] rfl rfl (by decide)) rfl ?_
                refine TR.s OpY.assign rfl ?_
                refine TR.nil ?_
                refine TC.kp [0, 1, 5, 7, 8, 9, 10, 11, 12, 15] [b5_2, b7_4, b8_5, b11_19] ?_
                obtain ⟨p_35, ep_35, H17⟩ := bnd H17
                refine TC.see 15 (D (p_35 : (List UInt8))) (nm_cv ep_35) ?_
                refine TC.seqS ?_
                refine TS.s (OpD.ldq Pl.one) rfl ?_
                refine TS.s OpY.move rfl ?_
                refine TS.s OpY.move rfl ?_
                refine TS.s OpY.move rfl ?_
                obtain ⟨r_36, er_36, H17⟩ := bnd H17
                refine TS.s (OpY.call4 fun w v0 v1 v2 v3 hA h0 h1 h2 h3 => chip_Program_c w v0 v1 v2 v3 hA (toD h0) (toD h1) (toD h2) (toD h3) er_36) rfl ?_
                refine TS.s OpY.move rfl ?_
                refine TS.s (OpY.extract rfl) rfl ?_
                refine TS.s (OpY.extract rfl) rfl ?_
                refine TS.alloc (α := Chip) rfl fun b16_36 => ?_
                refine TS.un (OpT.storeq (y := (r_36.1 : Chip)) Pl.one) ?_
                refine TS.s OpY.assign rfl ?_
                refine TS.nil ?_
                refine TE.then ?_
                refine TC.kp [0, 1, 5, 7, 8, 9, 10, 11, 12, 16, 17] [b5_2, b7_4, b8_5, b11_19, b16_36] ?_
                refine TC.seq ?_
                obtain ⟨o_40, H40, H17⟩ := bnd H17
                refine TC.cutP (fun s : ((Vec (Vec Bool 4) 3) × (Vec (Vec UInt8 4) 3)) => o_40 = s) (fun ⟨sure_38, has_39⟩ (_ : Unit) => (Env.set (Env.set (Env.set (Env.set (Env.set (Env.set (Env.set (Env.set (Env.set Env.nil 0 (D (faults0 : (List Fault)))) 1 (D (l0 : (List bywaylaw06_Do)))) 5 (Pt b5_2 0)) 7 (Pt b7_4 0)) 8 (Pt b8_5 0)) 9 (D (i_9 : Int))) 10 (D (x_19 : Int))) 11 (Pt b11_19 0)) 16 (Pt b16_36 0))) (fun ⟨sure_38, has_39⟩ (_ : Unit) => [⟨b5_2, True, (One (c_10 : Chip))⟩, ⟨b7_4, True, (One (sure_38 : (Vec (Vec Bool 4) 3)))⟩, ⟨b8_5, True, (One (has_39 : (Vec (Vec UInt8 4) 3)))⟩, ⟨b11_19, True, (One (c_10 : Chip))⟩, ⟨b16_36, True, (One (r_36.1 : Chip))⟩]) ?_ ?_
                · skip
                  refine TC.seqS ?_
                  refine TS.s OpY.fieldAddr rfl ?_
                  refine TS.s (OpD.ldq (Pl.fld (off := 4) (α := Chip) (β := Bool) Pl.one)) rfl ?_
                  refine TS.s OpY.notB rfl ?_
                  refine TS.nil ?_
                  refine TE.then ?_
                  refine TC.kp [0, 1, 5, 7, 8, 9, 10, 11, 12, 16, 17, 132] [b5_2, b7_4, b8_5, b11_19, b16_36] ?_
                  refine TC.cond (fun hc => ?_) (fun hc => ?_)
                  · replace H40 := cT H40 hc
                    refine TC.regD [13, 16] [b7_4, b8_5] mix (by kernel_rfl) (by kernel_rfl) ?_
                    refine TR.s OpY.move rfl ?_
                    refine TR.s OpY.move rfl ?_
                    refine TR.s OpY.move rfl ?_
                    refine TR.s OpY.move rfl ?_
                    refine TR.s OpY.move rfl ?_
                    refine TR.s OpY.eql rfl ?_
                    refine TR.s OpY.move rfl ?_
                    refine TR.s OpY.move rfl ?_
                    obtain ⟨x_41, ex_41, H40⟩ := bnd H40
                    refine TR.s (OpD.index ex_41) rfl ?_
                    refine TR.s OpY.fieldAddr rfl ?_
                    refine TR.s OpY.load rfl ?_
                    obtain ⟨x_42, ex_42, H40⟩ := bnd H40
                    refine TR.s (OpD.indexArq (idx_in ex_42 (Vec.h _).symm)) rfl ?_
                    obtain ⟨x_43, ex_43, H40⟩ := bnd H40
                    refine TR.s (OpD.indexArq (idx_in ex_43 (Vec.h _).symm)) rfl ?_
                    refine TR.tn (fun g => (OpT.storeq (y := ((decide (r_36.2 = (0 : Int))) : Bool)) (Pl.vec (α := Bool) (Pl.vec (α := (Vec Bool 4)) Pl.one ex_42) ex_43))) rfl ?_
                    obtain ⟨x_44, ex_44, H40⟩ := bnd H40
                    refine TR.s (OpD.indexArq (idx_in ex_44 (Vec.h _).symm)) rfl ?_
                    obtain ⟨x_45, ex_45, H40⟩ := bnd H40
                    refine TR.s (OpD.indexArq (idx_in ex_45 (Vec.h _).symm)) rfl ?_
                    refine TR.tn (fun g => (OpT.storeq (y := (x_41.Byte : UInt8)) (Pl.vec (α := UInt8) (Pl.vec (α := (Vec UInt8 4)) Pl.one ex_44) ex_45))) rfl ?_
                    refine TR.nil ?_
                    rintro ⟨⟨_, _⟩, _⟩
                    dsimp only [Fam.nextS, Fam.nextN, Fam.one, List.cons_append, List.nil_append]
                    refine TE.kp [0, 1, 5, 7, 8, 9, 10, 11, 16] [b5_2, b7_4, b8_5, b11_19, b16_36] ?_
                    obtain ⟨sure_46, esure_46, H40⟩ := bnd H40
                    refine TE.nmB b7_4 (nm_one esure_46) ?_
                    obtain ⟨has_47, ehas_47, H40⟩ := bnd H40
                    refine TE.nmB b8_5 (nm_one ehas_47) ?_
                    exact TE.cutP ⟨sure_46, has_47⟩ () (Option.some.inj H40).symm (Env.cv (Env.cv (Env.cv (Env.cv (Env.cv (Env.cv (Env.cv (Env.cv (Env.cv (Env.le_nil _)))))))))) (Less.pk rfl (Less.pk rfl (Less.pk rfl (Less.pk rfl (Less.pk rfl (Less.nil _))))))
                  · replace H40 := cF H40 hc
                    refine TC.skip ?_
                    exact TE.cutP ⟨sure_11, has_12⟩ () (Option.some.inj H40).symm (Env.cv (Env.cv (Env.cv (Env.cv (Env.cv (Env.cv (Env.cv (Env.cv (Env.cv (Env.le_nil _)))))))))) (Less.pk rfl (Less.pk rfl (Less.pk rfl (Less.pk rfl (Less.pk rfl (Less.nil _))))))
                rintro ⟨sure_38, has_39⟩ ⟨⟩ hp
                replace hp := hp.symm
                subst hp
                replace H17 := el2_mk H17
                refine TE.then ?_
                refine TC.kp [0, 1, 5, 7, 8, 9, 10, 11, 16] [b5_2, b7_4, b8_5, b11_19, b16_36] ?_
                refine TC.regionS ?_
                refine TS.s (OpD.ldq Pl.one) rfl ?_
                refine TS.un (OpT.storeq (y := (r_36.1 : Chip)) Pl.one) ?_
                refine TS.nil ?_
                refine TE.kp [0, 1, 5, 7, 8, 9, 10, 11] [b5_2, b7_4, b8_5, b11_19] ?_
                refine TE.inBlock_normal ?_
                refine TE.then ?_
                refine TC.kp [0, 1, 5, 7, 8, 9, 10, 11] [b5_2, b7_4, b8_5, b11_19] ?_
                refine TC.seq ?_
                refine TC.seqS ?_
                refine TS.s OpY.fieldAddr rfl ?_
                refine TS.s (OpD.ldq (Pl.fld (off := 4) (α := Chip) (β := Bool) Pl.one)) rfl ?_
                refine TS.s OpY.move rfl ?_
                refine TS.g 191 rfl (fun hg => OpY.move) rfl ?_
                refine TS.g 191 rfl (fun hg => OpY.move) rfl ?_
                obtain ⟨x_48, ex_48, H17⟩ := bnd H17
                refine TS.g 191 rfl (fun hg => (OpD.index (gb_some ex_48 hg.h))) rfl ?_
                refine TS.g 191 rfl (fun hg => OpY.fieldAddr) rfl ?_
                refine TS.g 191 rfl (fun hg => OpY.load) rfl ?_
                refine TS.g 191 rfl (fun hg => (OpY.rem8 (by decide))) rfl ?_
                refine TS.g 191 rfl (fun hg => OpY.neq8) rfl ?_
                refine TS.s OpY.pickAnd rfl ?_
                refine TS.s OpY.move rfl ?_
                refine TS.g 200 rfl (fun hg => (OpD.ldq Pl.one)) rfl ?_
                refine TS.g 200 rfl (fun hg => (OpD.ldq Pl.one)) rfl ?_
                obtain ⟨x_49, ex_49, H17⟩ := bnd H17
                refine TS.g 200 rfl (fun hg => (OpY.call2 fun w v0 v1 hA h0 h1 => bywayref06_Same_c w v0 v1 hA (toD h0) (toD h1) (gb_some ex_49 hg.h))) rfl ?_
                refine TS.g 200 rfl (fun hg => OpY.notB) rfl ?_
                refine TS.s OpY.pickAnd rfl ?_
                refine TS.s OpY.move rfl ?_
                refine TS.g 206 rfl (fun hg => OpY.fieldAddr) rfl ?_
                refine TS.g 206 rfl (fun hg => (OpD.ldq (Pl.fld (off := 3) (α := Chip) (β := Int) Pl.one))) rfl ?_
                refine TS.g 206 rfl (fun hg => OpY.fieldAddr) rfl ?_
                refine TS.g 206 rfl (fun hg => (OpD.ldq (Pl.fld (off := 3) (α := Chip) (β := Int) Pl.one))) rfl ?_
                refine TS.g 206 rfl (fun hg => OpY.lss) rfl ?_
                refine TS.s OpY.pickOr rfl ?_
                refine TS.s OpY.move rfl ?_
                refine TS.g 213 rfl (fun hg => OpY.fieldAddr) rfl ?_
                refine TS.g 213 rfl (fun hg => (OpD.ldq (Pl.fld (off := 3) (α := Chip) (β := Int) Pl.one))) rfl ?_
                refine TS.g 213 rfl (fun hg => OpY.fieldAddr) rfl ?_
                refine TS.g 213 rfl (fun hg => (OpD.ldq (Pl.fld (off := 3) (α := Chip) (β := Int) Pl.one))) rfl ?_
                obtain ⟨x_50, ex_50, H17⟩ := bnd H17
                refine TS.g 213 rfl (fun hg => (OpD.add (gb_some ex_50 (nF hg.h)))) rfl ?_
                refine TS.g 213 rfl (fun hg => OpY.gtr) rfl ?_
                refine TS.s OpY.pickOr rfl ?_
                refine TS.nil ?_
                refine TE.then ?_
                refine TC.kp [0, 1, 5, 7, 8, 9, 10, 220] [b5_2, b7_4, b8_5] ?_
                refine TC.cond (fun hc => ?_) (fun hc => ?_)
                · replace H17 := cT H17 hc
                  refine TC.seqS ?_
                  refine TS.s OpY.assign rfl ?_
                  refine TS.nil ?_
                  refine TE.then ?_
                  refine TC.kp [4] [] ?_
                  refine TC.ret ?_
                  refine TE.then_ret ?_
                  refine TE.inBlock_ret ?_
                  refine TE.cut_ret ?_
                  have R50 := elS_r (Option.some.inj H17) H13
                  refine TE.then_ret ?_
                  refine TE.then_ret ?_
                  refine TE.inBlock_ret ?_
                  refine TE.cut_ret ?_
                  have R51 := elS_r (he13 _ (Option.some.inj R50).symm) H
                  refine TE.then_ret ?_
                  obtain rfl := (Option.some.inj R51)
                  exact TE.ret1 rfl Cv.le
                · replace H17 := cF H17 hc
                  refine TC.skip ?_
                  refine TE.then ?_
                  refine TC.kp [0, 1, 5, 7, 8, 9, 10] [b5_2, b7_4, b8_5] ?_
                  refine TC.seqS ?_
                  refine TS.s OpY.assign rfl ?_
                  refine TS.nil ?_
                  refine TE.then ?_
                  refine TC.kp [0, 1, 5, 7, 8, 9, 10, 21] [b5_2, b7_4, b8_5] ?_
                  obtain ⟨o_53, H53, H17⟩ := bnd H17
                  refine TC.cutP (fun s : Unit => o_53 = .inl s) (fun (_ : Unit) (_ : Unit) => (Env.set (Env.set (Env.set (Env.set (Env.set (Env.set Env.nil 0 (D (faults0 : (List Fault)))) 1 (D (l0 : (List bywaylaw06_Do)))) 5 (Pt b5_2 0)) 7 (Pt b7_4 0)) 8 (Pt b8_5 0)) 9 (D (i_9 : Int)))) (fun (_ : Unit) (_ : Unit) => [⟨b5_2, True, (One (r_36.1 : Chip))⟩, ⟨b7_4, True, (One (sure_38 : (Vec (Vec Bool 4) 3)))⟩, ⟨b8_5, True, (One (has_39 : (Vec (Vec UInt8 4) 3)))⟩]) ?_ ?_
                  · skip
                    refine TC.block ?_
                    refine TC.loopP H53 (fun (k_54 : Int) (_ : Unit) => (Env.set (Env.set (Env.set (Env.set (Env.set (Env.set (Env.set (Env.set Env.nil 0 (D (faults0 : (List Fault)))) 1 (D (l0 : (List bywaylaw06_Do)))) 5 (Pt b5_2 0)) 7 (Pt b7_4 0)) 8 (Pt b8_5 0)) 9 (D (i_9 : Int))) 10 (D (x_19 : Int))) 21 (D (k_54 : Int)))) (fun (k_54 : Int) (_ : Unit) => [⟨b5_2, True, (One (r_36.1 : Chip))⟩, ⟨b7_4, True, (One (sure_38 : (Vec (Vec Bool 4) 3)))⟩, ⟨b8_5, True, (One (has_39 : (Vec (Vec UInt8 4) 3)))⟩]) () (Env.cv (Env.cv (Env.cv (Env.cv (Env.cv (Env.cv (Env.cv (Env.cv (Env.le_nil _))))))))) (Less.pk rfl (Less.pk rfl (Less.pk rfl (Less.nil _)))) ?_
                    rintro k_54 ⟨⟩ x_55 H55 he55
                    replace H55 : bywaylaw06_ChipKeeps_l2 x_19 r_36 sure_38 has_39 k_54 = some x_55 := H55
                    unfold bywaylaw06_ChipKeeps_l2 at H55
                    refine TC.seq ?_
                    refine TC.seqS ?_
                    refine TS.s OpY.move rfl ?_
                    refine TS.s OpY.lss rfl ?_
                    refine TS.s OpY.move rfl ?_
                    refine TS.g 223 rfl (fun hg => OpY.fieldAddr) rfl ?_
                    refine TS.g 223 rfl (fun hg => (OpD.ldq (Pl.fld (off := 4) (α := Chip) (β := Bool) Pl.one))) rfl ?_
                    refine TS.g 223 rfl (fun hg => OpY.notB) rfl ?_
                    refine TS.s OpY.pickAnd rfl ?_
                    refine TS.nil ?_
                    refine TE.then ?_
                    refine TC.kp [0, 1, 5, 7, 8, 9, 10, 21, 227] [b5_2, b7_4, b8_5] ?_
                    refine TC.cond (fun hc => ?_) (fun hc => ?_)
                    · replace H55 := cT H55 hc
                      refine TC.skip ?_
                      refine TE.then ?_
                      refine TC.kp [0, 1, 5, 7, 8, 9, 10, 21] [b5_2, b7_4, b8_5] ?_
                      refine TC.seq ?_
                      refine TC.block ?_
                      refine TC.seqS ?_
                      refine TS.s (OpD.ldq Pl.one) rfl ?_
                      refine TS.s OpY.move rfl ?_
                      refine TS.s OpY.move rfl ?_
                      obtain ⟨r_56, er_56, H55⟩ := bnd H55
                      refine TS.s (OpY.call3 fun w v0 v1 v2 hA h0 h1 h2 => chip_Read_c w v0 v1 v2 hA (toD h0) (toD h1) (toD h2) er_56) rfl ?_
                      refine TS.s OpY.move rfl ?_
                      refine TS.s (OpY.extract rfl) rfl ?_
                      refine TS.s (OpY.extract rfl) rfl ?_
                      refine TS.s OpY.assign rfl ?_
                      refine TS.s OpY.assign rfl ?_
                      refine TS.nil ?_
                      refine TE.then ?_
                      refine TC.kp [0, 1, 5, 7, 8, 9, 10, 21, 22, 23] [b5_2, b7_4, b8_5] ?_
                      refine TC.seqD0 mix (by kernel_rfl) ?_
                      refine TR.s OpY.move rfl ?_
                      refine TR.s OpY.neq rfl ?_
                      refine TR.s OpY.move rfl ?_
                      refine TR.g 239 rfl (fun hg => OpY.move) rfl ?_
                      refine TR.g 239 rfl (fun hg => OpD.len) rfl ?_
                      refine TR.g 239 rfl (fun hg => OpY.neq) rfl ?_
                      refine TR.s OpY.pickOr rfl ?_
                      refine TR.s OpY.move rfl ?_
                      refine TR.g 244 rfl (fun hg => OpY.move) rfl ?_
                      refine TR.g 244 rfl (fun hg => OpY.move) rfl ?_
                      obtain ⟨x_57, ex_57, H55⟩ := bnd H55
                      refine TR.g 244 rfl (fun hg => (OpD.indexArq (idx_in (gb_some ex_57 (nF hg.h)) (Vec.h _).symm))) rfl ?_
                      obtain ⟨x_58, ex_58, H55⟩ := bnd H55
                      refine TR.g 244 rfl (fun hg => (OpD.indexArq (idx_in (gb_some ex_58 (nF hg.h)) (Vec.h _).symm))) rfl ?_
                      refine TR.g 244 rfl (fun hg => (OpD.ldq (Pl.vec (α := Bool) (Pl.vec (α := (Vec Bool 4)) Pl.one (gb_some ex_57 (nF hg.h))) (gb_some ex_58 (nF hg.h))))) rfl ?_
                      refine TR.g 244 rfl (fun hg => OpY.move) rfl ?_
                      refine TR.gg 250 rfl (fun hp hg => OpY.move) rfl ?_
                      obtain ⟨x_59, ex_59, H55⟩ := bnd H55
                      refine TR.gg 250 rfl (fun hp hg => (OpD.index (gb_some ex_59 (aT (nF hp.h) hg.h)))) rfl ?_
                      refine TR.gg 250 rfl (fun hp hg => OpY.load) rfl ?_
                      refine TR.gg 250 rfl (fun hp hg => OpY.move) rfl ?_
                      refine TR.gg 250 rfl (fun hp hg => OpY.move) rfl ?_
                      obtain ⟨x_60, ex_60, H55⟩ := bnd H55
                      refine TR.gg 250 rfl (fun hp hg => (OpD.indexArq (idx_in (gb_some ex_60 (aT (nF hp.h) hg.h)) (Vec.h _).symm))) rfl ?_
                      obtain ⟨x_61, ex_61, H55⟩ := bnd H55
                      refine TR.gg 250 rfl (fun hp hg => (OpD.indexArq (idx_in (gb_some ex_61 (aT (nF hp.h) hg.h)) (Vec.h _).symm))) rfl ?_
                      refine TR.gg 250 rfl (fun hp hg => (OpD.ldq (Pl.vec (α := UInt8) (Pl.vec (α := (Vec UInt8 4)) Pl.one (gb_some ex_60 (aT (nF hp.h) hg.h))) (gb_some ex_61 (aT (nF hp.h) hg.h))))) rfl ?_
                      refine TR.gg 250 rfl (fun hp hg => OpY.neq8) rfl ?_
                      refine TR.gg 250 rfl (fun hp hg => OpY.move) rfl ?_
                      refine TR.gg 260 rfl (fun hp hg => haveI l0 := Ft.l hp; haveI r0 := Ft.r hp; OpY.move) rfl ?_
                      obtain ⟨x_62, ex_62, H55⟩ := bnd H55
                      refine TR.gg 260 rfl (fun hp hg => haveI l0 := Ft.l hp; haveI r0 := Ft.r hp; (OpD.index (gb_some ex_62 (aT (aT (nF hp.h.1) hp.h.2) (nF hg.h))))) rfl ?_
                      refine TR.gg 260 rfl (fun hp hg => haveI l0 := Ft.l hp; haveI r0 := Ft.r hp; OpY.load) rfl ?_
                      refine TR.gg 260 rfl (fun hp hg => haveI l0 := Ft.l hp; haveI r0 := Ft.r hp; OpY.move) rfl ?_
                      refine TR.gg 260 rfl (fun hp hg => haveI l0 := Ft.l hp; haveI r0 := Ft.r hp; OpY.move) rfl ?_
                      obtain ⟨x_63, ex_63, H55⟩ := bnd H55
                      refine TR.gg 260 rfl (fun hp hg => haveI l0 := Ft.l hp; haveI r0 := Ft.r hp; (OpD.indexArq (idx_in (gb_some ex_63 (aT (aT (nF hp.h.1) hp.h.2) (nF hg.h))) (Vec.h _).symm))) rfl ?_
                      obtain ⟨x_64, ex_64, H55⟩ := bnd H55
                      refine TR.gg 260 rfl (fun hp hg => haveI l0 := Ft.l hp; haveI r0 := Ft.r hp; (OpD.indexArq (idx_in (gb_some ex_64 (aT (aT (nF hp.h.1) hp.h.2) (nF hg.h))) (Vec.h _).symm))) rfl ?_
                      refine TR.gg 260 rfl (fun hp hg => haveI l0 := Ft.l hp; haveI r0 := Ft.r hp; (OpD.ldq (Pl.vec (α := UInt8) (Pl.vec (α := (Vec UInt8 4)) Pl.one (gb_some ex_63 (aT (aT (nF hp.h.1) hp.h.2) (nF hg.h)))) (gb_some ex_64 (aT (aT (nF hp.h.1) hp.h.2) (nF hg.h)))))) rfl ?_
                      refine TR.gg 260 rfl (fun hp hg => haveI l0 := Ft.l hp; haveI r0 := Ft.r hp; OpY.neq8) rfl ?_
                      refine TR.gg 250 rfl (fun hp hg => OpY.pickOr) rfl ?_
                      refine TR.g 244 rfl (fun hg => OpY.pickAnd) rfl ?_
                      refine TR.s OpY.pickOr rfl ?_
                      refine TR.nil ?_
                      refine TC.kp [0, 1, 5, 7, 8, 9, 10, 21, 272] [b5_2, b7_4, b8_5] ?_
                      refine TC.cond (fun hc => ?_) (fun hc => ?_)
                      · replace H55 := cT H55 hc
                        refine TC.seqS ?_
                        refine TS.s OpY.assign rfl ?_
                        refine TS.nil ?_
                        refine TE.then ?_
                        refine TC.kp [4] [] ?_
                        refine TC.ret ?_
                        refine TE.inBlock_ret ?_
                        refine TE.then_ret ?_
                        refine TE.then_ret ?_
                        refine TE.inBlock_ret ?_
                        refine TE.cut_ret ?_
                        have R64 := elS_r (he55 _ (Option.some.inj H55).symm) H17
                        refine TE.inBlock_ret ?_
                        refine TE.cut_ret ?_
                        have R65 := elS_r (Option.some.inj R64) H13
                        refine TE.then_ret ?_
                        refine TE.then_ret ?_
                        refine TE.inBlock_ret ?_
                        refine TE.cut_ret ?_
                        have R66 := elS_r (he13 _ (Option.some.inj R65).symm) H
                        refine TE.then_ret ?_
                        obtain rfl := (Option.some.inj R66)
                        exact TE.ret1 rfl Cv.le
                      · replace H55 := cF H55 hc
                        refine TC.skip ?_
                        refine TE.inBlock_normal ?_
                        refine TE.then ?_
                        refine TC.kp [0, 1, 5, 7, 8, 9, 10, 21] [b5_2, b7_4, b8_5] ?_
                        refine TC.regionS ?_
                        refine TS.s OpY.move rfl ?_
                        obtain ⟨x_68, ex_68, H55⟩ := bnd H55
                        refine TS.s (OpD.add ex_68) rfl ?_
                        refine TS.s OpY.assign rfl ?_
                        refine TS.nil ?_
                        refine TE.kp [0, 1, 5, 7, 8, 9, 10, 21] [b5_2, b7_4, b8_5] ?_
                        exact TE.backP x_68 () (Option.some.inj H55).symm (Env.cv (Env.cv (Env.cv (Env.cv (Env.cv (Env.cv (Env.cv (Env.cv (Env.le_nil _))))))))) (Less.pk rfl (Less.pk rfl (Less.pk rfl (Less.nil _))))
                    · replace H55 := cF H55 hc
                      refine TC.exit ?_
                      refine TE.then_exit ?_
                      refine TE.then_exit ?_
                      refine TE.inBlock_here ?_
                      exact TE.cutP () () (he55 _ (Option.some.inj H55).symm).symm (Env.cv (Env.cv (Env.cv (Env.cv (Env.cv (Env.cv (Env.le_nil _))))))) (Less.pk rfl (Less.pk rfl (Less.pk rfl (Less.nil _))))
                  rintro ⟨⟩ ⟨⟩ hp
                  replace H17 := elS_l hp H17
                  refine TE.inBlock_normal ?_
                  exact TE.cutP ⟨r_36.1, sure_38, has_39⟩ () (Option.some.inj H17).symm (Env.cv (Env.cv (Env.cv (Env.cv (Env.cv (Env.cv (Env.le_nil _))))))) (Less.pk rfl (Less.pk rfl (Less.pk rfl (Less.nil _))))
            · replace H17 := cF H17 hc
              refine TC.seqS ?_
              refine TS.s OpY.eql8 rfl ?_
              refine TS.s OpY.assign rfl ?_
              refine TS.nil ?_
              refine TE.then ?_
              refine TC.kp [0, 1, 5, 7, 8, 9, 10, 11, 149] [b5_2, b7_4, b8_5, b11_19] ?_
              obtain ⟨o_72, H72, H17⟩ := bnd H17
              refine TC.cutP (fun s : (Chip × (Vec (Vec Bool 4) 3) × (Vec (Vec UInt8 4) 3)) => o_72 = .inl s) (fun ⟨c_69, sure_70, has_71⟩ (_ : Unit) => (Env.set (Env.set (Env.set (Env.set (Env.set (Env.set (Env.set (Env.set Env.nil 0 (D (faults0 : (List Fault)))) 1 (D (l0 : (List bywaylaw06_Do)))) 5 (Pt b5_2 0)) 7 (Pt b7_4 0)) 8 (Pt b8_5 0)) 9 (D (i_9 : Int))) 10 (D (x_19 : Int))) 11 (Pt b11_19 0))) (fun ⟨c_69, sure_70, has_71⟩ (_ : Unit) => [⟨b5_2, True, (One (c_69 : Chip))⟩, ⟨b7_4, True, (One (sure_70 : (Vec (Vec Bool 4) 3)))⟩, ⟨b8_5, True, (One (has_71 : (Vec (Vec UInt8 4) 3)))⟩, ⟨b11_19, True, (One (c_10 : Chip))⟩]) ?_ ?_
              · skip
                refine TC.cond (fun hc => ?_) (fun hc => ?_)
                · replace H72 := cT H72 hc
                  refine TC.seqS ?_
                  refine TS.s (OpD.ldq Pl.one) rfl ?_
                  refine TS.s OpY.move rfl ?_
                  obtain ⟨r_73, er_73, H72⟩ := bnd H72
                  refine TS.s (OpY.call2 fun w v0 v1 hA h0 h1 => chip_Erase_c w v0 v1 hA (toD h0) (toD h1) er_73) rfl ?_
                  refine TS.s OpY.move rfl ?_
                  refine TS.s (OpY.extract rfl) rfl ?_
                  refine TS.s (OpY.extract rfl) rfl ?_
                  refine TS.alloc (α := Chip) rfl fun b18_73 => ?_
                  refine TS.un (OpT.storeq (y := (r_73.1 : Chip)) Pl.one) ?_
                  refine TS.s OpY.assign rfl ?_
                  refine TS.nil ?_
                  refine TE.then ?_
                  refine TC.kp [0, 1, 5, 7, 8, 9, 10, 11, 18, 19] [b5_2, b7_4, b8_5, b11_19, b18_73] ?_
                  refine TC.seq ?_
                  obtain ⟨o_77, H77, H72⟩ := bnd H72
                  refine TC.cutP (fun s : ((Vec (Vec Bool 4) 3) × (Vec (Vec UInt8 4) 3)) => o_77 = .inl s) (fun ⟨sure_75, has_76⟩ (_ : Unit) => (Env.set (Env.set (Env.set (Env.set (Env.set (Env.set (Env.set (Env.set (Env.set Env.nil 0 (D (faults0 : (List Fault)))) 1 (D (l0 : (List bywaylaw06_Do)))) 5 (Pt b5_2 0)) 7 (Pt b7_4 0)) 8 (Pt b8_5 0)) 9 (D (i_9 : Int))) 10 (D (x_19 : Int))) 11 (Pt b11_19 0)) 18 (Pt b18_73 0))) (fun ⟨sure_75, has_76⟩ (_ : Unit) => [⟨b5_2, True, (One (c_10 : Chip))⟩, ⟨b7_4, True, (One (sure_75 : (Vec (Vec Bool 4) 3)))⟩, ⟨b8_5, True, (One (has_76 : (Vec (Vec UInt8 4) 3)))⟩, ⟨b11_19, True, (One (c_10 : Chip))⟩, ⟨b18_73, True, (One (r_73.1 : Chip))⟩]) ?_ ?_
                  · skip
                    refine TC.seqS ?_
                    refine TS.s OpY.fieldAddr rfl ?_
                    refine TS.s (OpD.ldq (Pl.fld (off := 4) (α := Chip) (β := Bool) Pl.one)) rfl ?_
                    refine TS.s OpY.notB rfl ?_
                    refine TS.nil ?_
                    refine TE.then ?_
                    refine TC.kp [0, 1, 5, 7, 8, 9, 10, 11, 18, 19, 159] [b5_2, b7_4, b8_5, b11_19, b18_73] ?_
                    refine TC.cond (fun hc => ?_) (fun hc => ?_)
                    · replace H77 := cT H77 hc
                      refine TC.seq ?_
                      refine TC.seqS ?_
                      refine TS.s OpY.assign rfl ?_
                      refine TS.nil ?_
                      refine TE.then ?_
                      refine TC.kp [0, 1, 5, 7, 8, 9, 10, 11, 18, 19, 20] [b5_2, b7_4, b8_5, b11_19, b18_73] ?_
                      obtain ⟨o_80, H80, H77⟩ := bnd H77
                      refine TC.cutP (fun s : ((Vec (Vec Bool 4) 3) × (Vec (Vec UInt8 4) 3)) => o_80 = s) (fun ⟨sure_78, has_79⟩ (_ : Unit) => (Env.set (Env.set (Env.set (Env.set (Env.set (Env.set (Env.set (Env.set (Env.set Env.nil 0 (D (faults0 : (List Fault)))) 1 (D (l0 : (List bywaylaw06_Do)))) 5 (Pt b5_2 0)) 7 (Pt b7_4 0)) 8 (Pt b8_5 0)) 9 (D (i_9 : Int))) 10 (D (x_19 : Int))) 11 (Pt b11_19 0)) 18 (Pt b18_73 0))) (fun ⟨sure_78, has_79⟩ (_ : Unit) => [⟨b5_2, True, (One (c_10 : Chip))⟩, ⟨b7_4, True, (One (sure_78 : (Vec (Vec Bool 4) 3)))⟩, ⟨b8_5, True, (One (has_79 : (Vec (Vec UInt8 4) 3)))⟩, ⟨b11_19, True, (One (c_10 : Chip))⟩, ⟨b18_73, True, (One (r_73.1 : Chip))⟩]) ?_ ?_
                      · skip
                        refine TC.block ?_
                        refine TC.loopP H80 (fun ⟨k_81, sure_82, has_83⟩ (_ : Unit) => (Env.set (Env.set (Env.set (Env.set (Env.set (Env.set (Env.set (Env.set (Env.set (Env.set (Env.set Env.nil 0 (D (faults0 : (List Fault)))) 1 (D (l0 : (List bywaylaw06_Do)))) 5 (Pt b5_2 0)) 7 (Pt b7_4 0)) 8 (Pt b8_5 0)) 9 (D (i_9 : Int))) 10 (D (x_19 : Int))) 11 (Pt b11_19 0)) 18 (Pt b18_73 0)) 19 (D (r_73.2 : Int))) 20 (D (k_81 : Int)))) (fun ⟨k_81, sure_82, has_83⟩ (_ : Unit) => [⟨b5_2, True, (One (c_10 : Chip))⟩, ⟨b7_4, True, (One (sure_82 : (Vec (Vec Bool 4) 3)))⟩, ⟨b8_5, True, (One (has_83 : (Vec (Vec UInt8 4) 3)))⟩, ⟨b11_19, True, (One (c_10 : Chip))⟩, ⟨b18_73, True, (One (r_73.1 : Chip))⟩]) () (Env.cv (Env.cv (Env.cv (Env.cv (Env.cv (Env.cv (Env.cv (Env.cv (Env.cv (Env.cv (Env.cv (Env.le_nil _)))))))))))) (Less.pk rfl (Less.pk rfl (Less.pk rfl (Less.pk rfl (Less.pk rfl (Less.nil _)))))) ?_
                        rintro ⟨k_81, sure_82, has_83⟩ ⟨⟩ x_84 H84 he84
                        replace H84 : bywaylaw06_ChipKeeps_l3 x_19 r_73 k_81 sure_82 has_83 = some x_84 := H84
                        unfold bywaylaw06_ChipKeeps_l3 at H84
                        refine TC.seq ?_
                        refine TC.seqS ?_
                        refine TS.s OpY.move rfl ?_
                        refine TS.s OpY.lss rfl ?_
                        refine TS.nil ?_
                        refine TE.then ?_
                        refine TC.kp [0, 1, 5, 7, 8, 9, 10, 11, 18, 19, 20, 161] [b5_2, b7_4, b8_5, b11_19, b18_73] ?_
                        refine TC.cond (fun hc => ?_) (fun hc => ?_)
                        · replace H84 := cT H84 hc
                          refine TC.skip ?_
                          refine TE.then ?_
                          refine TC.kp [0, 1, 5, 7, 8, 9, 10, 11, 18, 19, 20] [b5_2, b7_4, b8_5, b11_19, b18_73] ?_
                          refine TC.seq ?_
                          refine TC.block ?_
                          refine TC.regD [8, 11] [b7_4, b8_5] mix (by kernel_rfl) (by kernel_rfl) ?_
                          refine TR.s OpY.move rfl ?_
                          refine TR.s OpY.move rfl ?_
                          refine TR.s OpY.move rfl ?_
                          refine TR.s OpY.move rfl ?_
                          refine TR.s OpY.move rfl ?_
                          refine TR.s OpY.eql rfl ?_
                          obtain ⟨x_85, ex_85, H84⟩ := bnd H84
                          refine TR.s (OpD.indexArq (idx_in ex_85 (Vec.h _).symm)) rfl ?_
                          obtain ⟨x_86, ex_86, H84⟩ := bnd H84
                          refine TR.s (OpD.indexArq (idx_in ex_86 (Vec.h _).symm)) rfl ?_
                          refine TR.tn (fun g => (OpT.storeq (y := ((decide (r_73.2 = (0 : Int))) : Bool)) (Pl.vec (α := Bool) (Pl.vec (α := (Vec Bool 4)) Pl.one ex_85) ex_86))) rfl ?_
                          obtain ⟨x_87, ex_87, H84⟩ := bnd H84
                          refine TR.s (OpD.indexArq (idx_in ex_87 (Vec.h _).symm)) rfl ?_
                          obtain ⟨x_88, ex_88, H84⟩ := bnd H84
                          refine TR.s (OpD.indexArq (idx_in ex_88 (Vec.h _).symm)) rfl ?_
                          refine TR.tn (fun g => (OpT.storeq (y := ((UInt8.ofNat 255) : UInt8)) (Pl.vec (α := UInt8) (Pl.vec (α := (Vec UInt8 4)) Pl.one ex_87) ex_88))) rfl ?_
                          refine TR.nil ?_
                          rintro ⟨⟨_, _⟩, _⟩
                          dsimp only [Fam.nextS, Fam.nextN, Fam.one, List.cons_append, List.nil_append]
                          refine TE.kp [0, 1, 5, 7, 8, 9, 10, 11, 18, 19, 20] [b5_2, b7_4, b8_5, b11_19, b18_73] ?_
                          obtain ⟨sure_89, esure_89, H84⟩ := bnd H84
                          refine TE.nmB b7_4 (nm_one esure_89) ?_
                          obtain ⟨has_90, ehas_90, H84⟩ := bnd H84
                          refine TE.nmB b8_5 (nm_one ehas_90) ?_
                          refine TE.inBlock_normal ?_
                          refine TE.then ?_
                          refine TC.kp [0, 1, 5, 7, 8, 9, 10, 11, 18, 19, 20] [b5_2, b7_4, b8_5, b11_19, b18_73] ?_
                          refine TC.regionS ?_
                          refine TS.s OpY.move rfl ?_
                          obtain ⟨x_91, ex_91, H84⟩ := bnd H84
                          refine TS.s (OpD.add ex_91) rfl ?_
                          refine TS.s OpY.assign rfl ?_
                          refine TS.nil ?_
                          refine TE.kp [0, 1, 5, 7, 8, 9, 10, 11, 18, 19, 20] [b5_2, b7_4, b8_5, b11_19, b18_73] ?_
                          exact TE.backP ⟨x_91, sure_89, has_90⟩ () (Option.some.inj H84).symm (Env.cv (Env.cv (Env.cv (Env.cv (Env.cv (Env.cv (Env.cv (Env.cv (Env.cv (Env.cv (Env.cv (Env.le_nil _)))))))))))) (Less.pk rfl (Less.pk rfl (Less.pk rfl (Less.pk rfl (Less.pk rfl (Less.nil _))))))
                        · replace H84 := cF H84 hc
                          refine TC.exit ?_
                          refine TE.then_exit ?_
                          refine TE.then_exit ?_
                          refine TE.inBlock_here ?_
                          exact TE.cutP ⟨sure_82, has_83⟩ () (he84 _ (Option.some.inj H84).symm).symm (Env.cv (Env.cv (Env.cv (Env.cv (Env.cv (Env.cv (Env.cv (Env.cv (Env.cv (Env.le_nil _)))))))))) (Less.pk rfl (Less.pk rfl (Less.pk rfl (Less.pk rfl (Less.pk rfl (Less.nil _))))))
                      rintro ⟨sure_78, has_79⟩ ⟨⟩ hp
                      replace hp := hp.symm
                      subst hp
                      replace H77 := el2_mk H77
                      refine TE.then ?_
                      refine TC.kp [0, 1, 5, 7, 8, 9, 10, 11, 18] [b5_2, b7_4, b8_5, b11_19, b18_73] ?_
                      refine TC.seqD0 mix (by kernel_rfl) ?_
                      refine TR.s OpY.fieldAddr rfl ?_
                      refine TR.s (OpD.ldq (Pl.fld (off := 2) (α := Chip) (β := (List Block)) Pl.one)) rfl ?_
                      refine TR.s OpY.move rfl ?_
                      obtain ⟨x_92, ex_92, H77⟩ := bnd H77
                      refine TR.s (OpD.index ex_92) rfl ?_
                      refine TR.s OpY.fieldAddr rfl ?_
                      refine TR.s OpY.load rfl ?_
                      refine TR.s OpY.fieldAddr rfl ?_
                      refine TR.s (OpD.ldq (Pl.fld (off := 2) (α := Chip) (β := (List Block)) Pl.one)) rfl ?_
                      refine TR.s OpY.move rfl ?_
                      obtain ⟨x_93, ex_93, H77⟩ := bnd H77
                      refine TR.s (OpD.index ex_93) rfl ?_
                      refine TR.s OpY.fieldAddr rfl ?_
                      refine TR.s OpY.load rfl ?_
                      obtain ⟨x_94, ex_94, H77⟩ := bnd H77
                      refine TR.s (OpD.add ex_94) rfl ?_
                      refine TR.s OpY.neq rfl ?_
                      refine TR.nil ?_
                      refine TC.kp [0, 1, 5, 7, 8, 9, 10, 11, 18, 187] [b5_2, b7_4, b8_5, b11_19, b18_73] ?_
                      refine TC.cond (fun hc => ?_) (fun hc => ?_)
                      · replace H77 := cT H77 hc
                        refine TC.seqS ?_
                        refine TS.s OpY.assign rfl ?_
                        refine TS.nil ?_
                        refine TE.then ?_
                        refine TC.kp [4] [] ?_
                        refine TC.ret ?_
                        refine TE.cut_ret ?_
                        have R94 := elS_r (Option.some.inj H77) H72
                        refine TE.then_ret ?_
                        refine TE.cut_ret ?_
                        have R95 := elS_r (Option.some.inj R94) H17
                        refine TE.inBlock_ret ?_
                        refine TE.then_ret ?_
                        refine TE.inBlock_ret ?_
                        refine TE.cut_ret ?_
                        have R96 := elS_r (Option.some.inj R95) H13
                        refine TE.then_ret ?_
                        refine TE.then_ret ?_
                        refine TE.inBlock_ret ?_
                        refine TE.cut_ret ?_
                        have R97 := elS_r (he13 _ (Option.some.inj R96).symm) H
                        refine TE.then_ret ?_
                        obtain rfl := (Option.some.inj R97)
                        exact TE.ret1 rfl Cv.le
                      · replace H77 := cF H77 hc
                        refine TC.skip ?_
                        exact TE.cutP ⟨sure_78, has_79⟩ () (Option.some.inj H77).symm (Env.cv (Env.cv (Env.cv (Env.cv (Env.cv (Env.cv (Env.cv (Env.cv (Env.cv (Env.le_nil _)))))))))) (Less.pk rfl (Less.pk rfl (Less.pk rfl (Less.pk rfl (Less.pk rfl (Less.nil _))))))
                    · replace H77 := cF H77 hc
                      refine TC.skip ?_
                      exact TE.cutP ⟨sure_11, has_12⟩ () (Option.some.inj H77).symm (Env.cv (Env.cv (Env.cv (Env.cv (Env.cv (Env.cv (Env.cv (Env.cv (Env.cv (Env.le_nil _)))))))))) (Less.pk rfl (Less.pk rfl (Less.pk rfl (Less.pk rfl (Less.pk rfl (Less.nil _))))))
                  rintro ⟨sure_75, has_76⟩ ⟨⟩ hp
                  replace H72 := elS_l hp H72
                  replace H72 := el2_mk H72
                  refine TE.then ?_
                  refine TC.kp [0, 1, 5, 7, 8, 9, 10, 11, 18] [b5_2, b7_4, b8_5, b11_19, b18_73] ?_
                  refine TC.regionS ?_
                  refine TS.s (OpD.ldq Pl.one) rfl ?_
                  refine TS.un (OpT.storeq (y := (r_73.1 : Chip)) Pl.one) ?_
                  refine TS.nil ?_
                  refine TE.kp [0, 1, 5, 7, 8, 9, 10, 11] [b5_2, b7_4, b8_5, b11_19] ?_
                  exact TE.cutP ⟨r_73.1, sure_75, has_76⟩ () (Option.some.inj H72).symm (Env.cv (Env.cv (Env.cv (Env.cv (Env.cv (Env.cv (Env.cv (Env.cv (Env.le_nil _))))))))) (Less.pk rfl (Less.pk rfl (Less.pk rfl (Less.pk rfl (Less.nil _)))))
                · replace H72 := cF H72 hc
                  refine TC.regionS ?_
                  refine TS.s (OpD.ldq Pl.one) rfl ?_
                  refine TS.s OpY.move rfl ?_
                  obtain ⟨r_99, er_99, H72⟩ := bnd H72
                  refine TS.s (OpY.call2 fun w v0 v1 hA h0 h1 => chip_On_c w v0 v1 hA (toD h0) (toD h1) er_99) rfl ?_
                  refine TS.s OpY.move rfl ?_
                  refine TS.s (OpY.extract rfl) rfl ?_
                  refine TS.s (OpY.extract rfl) rfl ?_
                  refine TS.un (OpT.storeq (y := (r_99.1 : Chip)) Pl.one) ?_
                  refine TS.nil ?_
                  refine TE.kp [0, 1, 5, 7, 8, 9, 10, 11] [b5_2, b7_4, b8_5, b11_19] ?_
                  exact TE.cutP ⟨r_99.1, sure_11, has_12⟩ () (Option.some.inj H72).symm (Env.cv (Env.cv (Env.cv (Env.cv (Env.cv (Env.cv (Env.cv (Env.cv (Env.le_nil _))))))))) (Less.pk rfl (Less.pk rfl (Less.pk rfl (Less.pk rfl (Less.nil _)))))
              rintro ⟨c_69, sure_70, has_71⟩ ⟨⟩ hp
              replace H17 := elS_l hp H17
              replace H17 := el3_mk H17
              refine TE.inBlock_normal ?_
              refine TE.then ?_
              refine TC.kp [0, 1, 5, 7, 8, 9, 10, 11] [b5_2, b7_4, b8_5, b11_19] ?_
              refine TC.seq ?_
              refine TC.seqS ?_
              refine TS.s OpY.fieldAddr rfl ?_
              refine TS.s (OpD.ldq (Pl.fld (off := 4) (α := Chip) (β := Bool) Pl.one)) rfl ?_
              refine TS.s OpY.move rfl ?_
              refine TS.g 191 rfl (fun hg => OpY.move) rfl ?_
              refine TS.g 191 rfl (fun hg => OpY.move) rfl ?_
              obtain ⟨x_100, ex_100, H17⟩ := bnd H17
              refine TS.g 191 rfl (fun hg => (OpD.index (gb_some ex_100 hg.h))) rfl ?_
              refine TS.g 191 rfl (fun hg => OpY.fieldAddr) rfl ?_
              refine TS.g 191 rfl (fun hg => OpY.load) rfl ?_
              refine TS.g 191 rfl (fun hg => (OpY.rem8 (by decide))) rfl ?_
              refine TS.g 191 rfl (fun hg => OpY.neq8) rfl ?_
              refine TS.s OpY.pickAnd rfl ?_
              refine TS.s OpY.move rfl ?_
              refine TS.g 200 rfl (fun hg => (OpD.ldq Pl.one)) rfl ?_
              refine TS.g 200 rfl (fun hg => (OpD.ldq Pl.one)) rfl ?_
              obtain ⟨x_101, ex_101, H17⟩ := bnd H17
              refine TS.g 200 rfl (fun hg => (OpY.call2 fun w v0 v1 hA h0 h1 => bywayref06_Same_c w v0 v1 hA (toD h0) (toD h1) (gb_some ex_101 hg.h))) rfl ?_
              refine TS.g 200 rfl (fun hg => OpY.notB) rfl ?_
              refine TS.s OpY.pickAnd rfl ?_
              refine TS.s OpY.move rfl ?_
              refine TS.g 206 rfl (fun hg => OpY.fieldAddr) rfl ?_
              refine TS.g 206 rfl (fun hg => (OpD.ldq (Pl.fld (off := 3) (α := Chip) (β := Int) Pl.one))) rfl ?_
              refine TS.g 206 rfl (fun hg => OpY.fieldAddr) rfl ?_
              refine TS.g 206 rfl (fun hg => (OpD.ldq (Pl.fld (off := 3) (α := Chip) (β := Int) Pl.one))) rfl ?_
              refine TS.g 206 rfl (fun hg => OpY.lss) rfl ?_
              refine TS.s OpY.pickOr rfl ?_
              refine TS.s OpY.move rfl ?_
              refine TS.g 213 rfl (fun hg => OpY.fieldAddr) rfl ?_
              refine TS.g 213 rfl (fun hg => (OpD.ldq (Pl.fld (off := 3) (α := Chip) (β := Int) Pl.one))) rfl ?_
              refine TS.g 213 rfl (fun hg => OpY.fieldAddr) rfl ?_
              refine TS.g 213 rfl (fun hg => (OpD.ldq (Pl.fld (off := 3) (α := Chip) (β := Int) Pl.one))) rfl ?_
              obtain ⟨x_102, ex_102, H17⟩ := bnd H17
              refine TS.g 213 rfl (fun hg => (OpD.add (gb_some ex_102 (nF hg.h)))) rfl ?_
              refine TS.g 213 rfl (fun hg => OpY.gtr) rfl ?_
              refine TS.s OpY.pickOr rfl ?_
              refine TS.nil ?_
              refine TE.then ?_
              refine TC.kp [0, 1, 5, 7, 8, 9, 10, 220] [b5_2, b7_4, b8_5] ?_
              refine TC.cond (fun hc => ?_) (fun hc => ?_)
              · replace H17 := cT H17 hc
                refine TC.seqS ?_
                refine TS.s OpY.assign rfl ?_
                refine TS.nil ?_
                refine TE.then ?_
                refine TC.kp [4] [] ?_
                refine TC.ret ?_
                refine TE.then_ret ?_
                refine TE.inBlock_ret ?_
                refine TE.cut_ret ?_
                have R102 := elS_r (Option.some.inj H17) H13
                refine TE.then_ret ?_
                refine TE.then_ret ?_
                refine TE.inBlock_ret ?_
                refine TE.cut_ret ?_
                have R103 := elS_r (he13 _ (Option.some.inj R102).symm) H
                refine TE.then_ret ?_
                obtain rfl := (Option.some.inj R103)
                exact TE.ret1 rfl Cv.le
              · replace H17 := cF H17 hc
                refine TC.skip ?_
                refine TE.then ?_
                refine TC.kp [0, 1, 5, 7, 8, 9, 10] [b5_2, b7_4, b8_5] ?_
                refine TC.seqS ?_
                refine TS.s OpY.assign rfl ?_
                refine TS.nil ?_
                refine TE.then ?_
                refine TC.kp [0, 1, 5, 7, 8, 9, 10, 21] [b5_2, b7_4, b8_5] ?_
                obtain ⟨o_105, H105, H17⟩ := bnd H17
                refine TC.cutP (fun s : Unit => o_105 = .inl s) (fun (_ : Unit) (_ : Unit) => (Env.set (Env.set (Env.set (Env.set (Env.set (Env.set Env.nil 0 (D (faults0 : (List Fault)))) 1 (D (l0 : (List bywaylaw06_Do)))) 5 (Pt b5_2 0)) 7 (Pt b7_4 0)) 8 (Pt b8_5 0)) 9 (D (i_9 : Int)))) (fun (_ : Unit) (_ : Unit) => [⟨b5_2, True, (One (c_69 : Chip))⟩, ⟨b7_4, True, (One (sure_70 : (Vec (Vec Bool 4) 3)))⟩, ⟨b8_5, True, (One (has_71 : (Vec (Vec UInt8 4) 3)))⟩]) ?_ ?_
                · skip
                  refine TC.block ?_
                  refine TC.loopP H105 (fun (k_106 : Int) (_ : Unit) => (Env.set (Env.set (Env.set (Env.set (Env.set (Env.set (Env.set (Env.set Env.nil 0 (D (faults0 : (List Fault)))) 1 (D (l0 : (List bywaylaw06_Do)))) 5 (Pt b5_2 0)) 7 (Pt b7_4 0)) 8 (Pt b8_5 0)) 9 (D (i_9 : Int))) 10 (D (x_19 : Int))) 21 (D (k_106 : Int)))) (fun (k_106 : Int) (_ : Unit) => [⟨b5_2, True, (One (c_69 : Chip))⟩, ⟨b7_4, True, (One (sure_70 : (Vec (Vec Bool 4) 3)))⟩, ⟨b8_5, True, (One (has_71 : (Vec (Vec UInt8 4) 3)))⟩]) () (Env.cv (Env.cv (Env.cv (Env.cv (Env.cv (Env.cv (Env.cv (Env.cv (Env.le_nil _))))))))) (Less.pk rfl (Less.pk rfl (Less.pk rfl (Less.nil _)))) ?_
                  rintro k_106 ⟨⟩ x_107 H107 he107
                  replace H107 : bywaylaw06_ChipKeeps_l4 x_19 c_69 sure_70 has_71 k_106 = some x_107 := H107
                  unfold bywaylaw06_ChipKeeps_l4 at H107
                  refine TC.seq ?_
                  refine TC.seqS ?_
                  refine TS.s OpY.move rfl ?_
                  refine TS.s OpY.lss rfl ?_
                  refine TS.s OpY.move rfl ?_
                  refine TS.g 223 rfl (fun hg => OpY.fieldAddr) rfl ?_
                  refine TS.g 223 rfl (fun hg => (OpD.ldq (Pl.fld (off := 4) (α := Chip) (β := Bool) Pl.one))) rfl ?_
                  refine TS.g 223 rfl (fun hg => OpY.notB) rfl ?_
                  refine TS.s OpY.pickAnd rfl ?_
                  refine TS.nil ?_
                  refine TE.then ?_
                  refine TC.kp [0, 1, 5, 7, 8, 9, 10, 21, 227] [b5_2, b7_4, b8_5] ?_
                  refine TC.cond (fun hc => ?_) (fun hc => ?_)
                  · replace H107 := cT H107 hc
                    refine TC.skip ?_
                    refine TE.then ?_
                    refine TC.kp [0, 1, 5, 7, 8, 9, 10, 21] [b5_2, b7_4, b8_5] ?_
                    refine TC.seq ?_
                    refine TC.block ?_
                    refine TC.seqS ?_
                    refine TS.s (OpD.ldq Pl.one) rfl ?_
                    refine TS.s OpY.move rfl ?_
                    refine TS.s OpY.move rfl ?_
                    obtain ⟨r_108, er_108, H107⟩ := bnd H107
                    refine TS.s (OpY.call3 fun w v0 v1 v2 hA h0 h1 h2 => chip_Read_c w v0 v1 v2 hA (toD h0) (toD h1) (toD h2) er_108) rfl ?_
                    refine TS.s OpY.move rfl ?_
                    refine TS.s (OpY.extract rfl) rfl ?_
                    refine TS.s (OpY.extract rfl) rfl ?_
                    refine TS.s OpY.assign rfl ?_
                    refine TS.s OpY.assign rfl ?_
                    refine TS.nil ?_
                    refine TE.then ?_
                    refine TC.kp [0, 1, 5, 7, 8, 9, 10, 21, 22, 23] [b5_2, b7_4, b8_5] ?_
                    refine TC.seqD0 mix (by kernel_rfl) ?_
                    refine TR.s OpY.move rfl ?_
                    refine TR.s OpY.neq rfl ?_
                    refine TR.s OpY.move rfl ?_
                    refine TR.g 239 rfl (fun hg => OpY.move) rfl ?_
                    refine TR.g 239 rfl (fun hg => OpD.len) rfl ?_
                    refine TR.g 239 rfl (fun hg => OpY.neq) rfl ?_
                    refine TR.s OpY.pickOr rfl ?_
                    refine TR.s OpY.move rfl ?_
                    refine TR.g 244 rfl (fun hg => OpY.move) rfl ?_
                    refine TR.g 244 rfl (fun hg => OpY.move) rfl ?_
                    obtain ⟨x_109, ex_109, H107⟩ := bnd H107
                    refine TR.g 244 rfl (fun hg => (OpD.indexArq (idx_in (gb_some ex_109 (nF hg.h)) (Vec.h _).symm))) rfl ?_
                    obtain ⟨x_110, ex_110, H107⟩ := bnd H107
                    refine TR.g 244 rfl (fun hg => (OpD.indexArq (idx_in (gb_some ex_110 (nF hg.h)) (Vec.h _).symm))) rfl ?_
                    refine TR.g 244 rfl (fun hg => (OpD.ldq (Pl.vec (α := Bool) (Pl.vec (α := (Vec Bool 4)) Pl.one (gb_some ex_109 (nF hg.h))) (gb_some ex_110 (nF hg.h))))) rfl ?_
                    refine TR.g 244 rfl (fun hg => OpY.move) rfl ?_
                    refine TR.gg 250 rfl (fun hp hg => OpY.move) rfl ?_
                    obtain ⟨x_111, ex_111, H107⟩ := bnd H107
                    refine TR.gg 250 rfl (fun hp hg => (OpD.index (gb_some ex_111 (aT (nF hp.h) hg.h)))) rfl ?_
                    refine TR.gg 250 rfl (fun hp hg => OpY.load) rfl ?_
                    refine TR.gg 250 rfl (fun hp hg => OpY.move) rfl ?_
                    refine TR.gg 250 rfl (fun hp hg => OpY.move) rfl ?_
                    obtain ⟨x_112, ex_112, H107⟩ := bnd H107
                    refine TR.gg 250 rfl (fun hp hg => (OpD.indexArq (idx_in (gb_some ex_112 (aT (nF hp.h) hg.h)) (Vec.h _).symm))) rfl ?_
                    obtain ⟨x_113, ex_113, H107⟩ := bnd H107
                    refine TR.gg 250 rfl (fun hp hg => (OpD.indexArq (idx_in (gb_some ex_113 (aT (nF hp.h) hg.h)) (Vec.h _).symm))) rfl ?_
                    refine TR.gg 250 rfl (fun hp hg => (OpD.ldq (Pl.vec (α := UInt8) (Pl.vec (α := (Vec UInt8 4)) Pl.one (gb_some ex_112 (aT (nF hp.h) hg.h))) (gb_some ex_113 (aT (nF hp.h) hg.h))))) rfl ?_
                    refine TR.gg 250 rfl (fun hp hg => OpY.neq8) rfl ?_
                    refine TR.gg 250 rfl (fun hp hg => OpY.move) rfl ?_
                    refine TR.gg 260 rfl (fun hp hg => haveI l0 := Ft.l hp; haveI r0 := Ft.r hp; OpY.move) rfl ?_
                    obtain ⟨x_114, ex_114, H107⟩ := bnd H107
                    refine TR.gg 260 rfl (fun hp hg => haveI l0 := Ft.l hp; haveI r0 := Ft.r hp; (OpD.index (gb_some ex_114 (aT (aT (nF hp.h.1) hp.h.2) (nF hg.h))))) rfl ?_
                    refine TR.gg 260 rfl (fun hp hg => haveI l0 := Ft.l hp; haveI r0 := Ft.r hp; OpY.load) rfl ?_
                    refine TR.gg 260 rfl (fun hp hg => haveI l0 := Ft.l hp; haveI r0 := Ft.r hp; OpY.move) rfl ?_
                    refine TR.gg 260 rfl (fun hp hg => haveI l0 := Ft.l hp; haveI r0 := Ft.r hp; OpY.move) rfl ?_
                    obtain ⟨x_115, ex_115, H107⟩ := bnd H107
                    refine TR.gg 260 rfl (fun hp hg => haveI l0 := Ft.l hp; haveI r0 := Ft.r hp; (OpD.indexArq (idx_in (gb_some ex_115 (aT (aT (nF hp.h.1) hp.h.2) (nF hg.h))) (Vec.h _).symm))) rfl ?_
                    obtain ⟨x_116, ex_116, H107⟩ := bnd H107
                    refine TR.gg 260 rfl (fun hp hg => haveI l0 := Ft.l hp; haveI r0 := Ft.r hp; (OpD.indexArq (idx_in (gb_some ex_116 (aT (aT (nF hp.h.1) hp.h.2) (nF hg.h))) (Vec.h _).symm))) rfl ?_
                    refine TR.gg 260 rfl (fun hp hg => haveI l0 := Ft.l hp; haveI r0 := Ft.r hp; (OpD.ldq (Pl.vec (α := UInt8) (Pl.vec (α := (Vec UInt8 4)) Pl.one (gb_some ex_115 (aT (aT (nF hp.h.1) hp.h.2) (nF hg.h)))) (gb_some ex_116 (aT (aT (nF hp.h.1) hp.h.2) (nF hg.h)))))) rfl ?_
                    refine TR.gg 260 rfl (fun hp hg => haveI l0 := Ft.l hp; haveI r0 := Ft.r hp; OpY.neq8) rfl ?_
                    refine TR.gg 250 rfl (fun hp hg => OpY.pickOr) rfl ?_
                    refine TR.g 244 rfl (fun hg => OpY.pickAnd) rfl ?_
                    refine TR.s OpY.pickOr rfl ?_
                    refine TR.nil ?_
                    refine TC.kp [0, 1, 5, 7, 8, 9, 10, 21, 272] [b5_2, b7_4, b8_5] ?_
                    refine TC.cond (fun hc => ?_) (fun hc => ?_)
                    · replace H107 := cT H107 hc
                      refine TC.seqS ?_
                      refine TS.s OpY.assign rfl ?_
                      refine TS.nil ?_
                      refine TE.then ?_
                      refine TC.kp [4] [] ?_
                      refine TC.ret ?_
                      refine TE.inBlock_ret ?_
                      refine TE.then_ret ?_
                      refine TE.then_ret ?_
                      refine TE.inBlock_ret ?_
                      refine TE.cut_ret ?_
                      have R116 := elS_r (he107 _ (Option.some.inj H107).symm) H17
                      refine TE.inBlock_ret ?_
                      refine TE.cut_ret ?_
                      have R117 := elS_r (Option.some.inj R116) H13
                      refine TE.then_ret ?_
                      refine TE.then_ret ?_
                      refine TE.inBlock_ret ?_
                      refine TE.cut_ret ?_
                      have R118 := elS_r (he13 _ (Option.some.inj R117).symm) H
                      refine TE.then_ret ?_
                      obtain rfl := (Option.some.inj R118)
                      exact TE.ret1 rfl Cv.le
                    · replace H107 := cF H107 hc
                      refine TC.skip ?_
                      refine TE.inBlock_normal ?_
                      refine TE.then ?_
                      refine TC.kp [0, 1, 5, 7, 8, 9, 10, 21] [b5_2, b7_4, b8_5] ?_
                      refine TC.regionS ?_
                      refine TS.s OpY.move rfl ?_
                      obtain ⟨x_120, ex_120, H107⟩ := bnd H107
                      refine TS.s (OpD.add ex_120) rfl ?_
                      refine TS.s OpY.assign rfl ?_
                      refine TS.nil ?_
                      refine TE.kp [0, 1, 5, 7, 8, 9, 10, 21] [b5_2, b7_4, b8_5] ?_
                      exact TE.backP x_120 () (Option.some.inj H107).symm (Env.cv (Env.cv (Env.cv (Env.cv (Env.cv (Env.cv (Env.cv (Env.cv (Env.le_nil _))))))))) (Less.pk rfl (Less.pk rfl (Less.pk rfl (Less.nil _))))
                  · replace H107 := cF H107 hc
                    refine TC.exit ?_
                    refine TE.then_exit ?_
                    refine TE.then_exit ?_
                    refine TE.inBlock_here ?_
                    exact TE.cutP () () (he107 _ (Option.some.inj H107).symm).symm (Env.cv (Env.cv (Env.cv (Env.cv (Env.cv (Env.cv (Env.le_nil _))))))) (Less.pk rfl (Less.pk rfl (Less.pk rfl (Less.nil _))))
                rintro ⟨⟩ ⟨⟩ hp
                replace H17 := elS_l hp H17
                refine TE.inBlock_normal ?_
                exact TE.cutP ⟨c_69, sure_70, has_71⟩ () (Option.some.inj H17).symm (Env.cv (Env.cv (Env.cv (Env.cv (Env.cv (Env.cv (Env.le_nil _))))))) (Less.pk rfl (Less.pk rfl (Less.pk rfl (Less.nil _))))
          rintro ⟨c_14, sure_15, has_16⟩ ⟨⟩ hp
          replace H13 := elS_l hp H13
          replace H13 := el3_mk H13
          refine TE.then ?_
          refine TC.kp [0, 1, 5, 7, 8, 9] [b5_2, b7_4, b8_5] ?_
          refine TC.regionS ?_
          refine TS.s OpY.move rfl ?_
          obtain ⟨x_121, ex_121, H13⟩ := bnd H13
          refine TS.s (OpD.add ex_121) rfl ?_
          refine TS.s OpY.assign rfl ?_
          refine TS.nil ?_
          refine TE.kp [0, 1, 5, 7, 8, 9] [b5_2, b7_4, b8_5] ?_
          exact TE.backP ⟨x_121, c_14, sure_15, has_16⟩ () (Option.some.inj H13).symm (Env.cv (Env.cv (Env.cv (Env.cv (Env.cv (Env.cv (Env.le_nil _))))))) (Less.pk rfl (Less.pk rfl (Less.pk rfl (Less.nil _))))
        · replace H13 := cF H13 hc
          refine TC.exit ?_
          refine TE.then_exit ?_
          refine TE.then_exit ?_
          refine TE.inBlock_here ?_
          exact TE.cutP c_10 () (he13 _ (Option.some.inj H13).symm).symm (Env.cv (Env.le_nil _)) (Less.pk rfl (Less.nil _))
      rintro c_7 ⟨⟩ hp
      replace H := elS_l hp H
      refine TE.then ?_
      refine TC.kp [5] [b5_2] ?_
      refine TC.seqS ?_
      refine TS.s (OpD.ldq Pl.one) rfl ?_
      obtain ⟨x_122, ex_122, H⟩ := bnd H
      refine TS.s (OpY.call1 fun w v0 hA h0 => chip_Right_c w v0 hA (toD h0) ex_122) rfl ?_
      refine TS.s OpY.assign rfl ?_
      refine TS.nil ?_
      refine TE.then ?_
      refine TC.kp [4] [] ?_
      refine TC.ret ?_
      obtain rfl := (Option.some.inj H)
      exact TE.ret1 rfl Cv.le
end Go.Proofs.Ytfdmajkeihdhnaa.Tr
