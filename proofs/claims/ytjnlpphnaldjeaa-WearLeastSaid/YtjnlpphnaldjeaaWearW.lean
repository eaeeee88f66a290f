/- The functions, as plain ones. Conditions: none. -/
import Derived.Test.YtjnlpphnaldjeaaTab
namespace Go.Proofs.Ytjnlpphnaldjeaa.Tr
open Go Go.RowKit
set_option maxRecDepth 100000
set_option synthInstance.maxHeartbeats 400000
set_option synthInstance.maxSize 4096
set_option linter.unusedVariables false
set_option linter.unusedSimpArgs false

def cmp_isNaN_int (x0 : Int) : Option Bool :=
  some (decide (x0 ≠ x0))
/-- cmp.isNaN int  -/
theorem cmp_isNaN_int_c {A : Nat → Prop} {x0 : Int}  {r : Bool} (w : World) (v0 : Value) (hA : ∀ k, w.heap.size ≤ k → A k)  (h0 : (D (x0 : Int)).p A w v0) (H : cmp_isNaN_int x0 = some r) :
    Calls Try.prog 52 #[v0] w (Ret A w (D (r : Bool))) := by
  unfold cmp_isNaN_int at H
  refine enter1 hA Try.func52 rfl Try.ntmps52 rfl h0 ?_
  refine TC.seqS ?_
  refine TS.s OpY.assign rfl ?_
  refine TS.nil ?_
  refine TE.then ?_
  refine TC.kp [0] [] ?_
  refine TC.seqS ?_
  refine TS.s OpY.move rfl ?_
  refine TS.s OpY.move rfl ?_
  refine TS.s OpY.neq rfl ?_
  refine TS.s OpY.assign rfl ?_
  refine TS.nil ?_
  refine TE.then ?_
  refine TC.kp [2] [] ?_
  refine TC.ret ?_
  obtain rfl := (Option.some.inj H)
  exact TE.ret1 rfl Cv.le
def cmp_Compare_int (x0 : Int) (y0 : Int) : Option Int :=
  (cmp_isNaN_int x0).bind fun x_1 => (cmp_isNaN_int y0).bind fun x_2 => bif x_1 then (bif x_2 then (some (0 : Int)) else (some (-1 : Int))) else (bif x_2 then (some (1 : Int)) else (bif (decide (x0 < y0)) then (some (-1 : Int)) else (bif (decide (x0 > y0)) then (some (1 : Int)) else (some (0 : Int)))))
/-- cmp.Compare int  -/
theorem cmp_Compare_int_c {A : Nat → Prop} {x0 : Int} {y0 : Int}  {r : Int} (w : World) (v0 v1 : Value) (hA : ∀ k, w.heap.size ≤ k → A k)  (h0 : (D (x0 : Int)).p A w v0) (h1 : (D (y0 : Int)).p A w v1) (H : cmp_Compare_int x0 y0 = some r) :
    Calls Try.prog 51 #[v0, v1] w (Ret A w (D (r : Int))) := by
  unfold cmp_Compare_int at H
  refine enter2 hA Try.func51 rfl Try.ntmps51 rfl h0 h1 ?_
  refine TC.seqS ?_
  refine TS.s OpY.assign rfl ?_
  refine TS.nil ?_
  refine TE.then ?_
  refine TC.kp [0, 1] [] ?_
  refine TC.seqS ?_
  refine TS.s OpY.move rfl ?_
  obtain ⟨x_1, ex_1, H⟩ := bnd H
  refine TS.s (OpY.call1 fun w v0 hA h0 => cmp_isNaN_int_c w v0 hA (toD h0) ex_1) rfl ?_
  refine TS.s OpY.assign rfl ?_
  refine TS.nil ?_
  refine TE.then ?_
  refine TC.kp [0, 1, 5] [] ?_
  refine TC.seqS ?_
  refine TS.s OpY.move rfl ?_
  obtain ⟨x_2, ex_2, H⟩ := bnd H
  refine TS.s (OpY.call1 fun w v0 hA h0 => cmp_isNaN_int_c w v0 hA (toD h0) ex_2) rfl ?_
  refine TS.s OpY.assign rfl ?_
  refine TS.nil ?_
  refine TE.then ?_
  refine TC.kp [0, 1, 5, 6] [] ?_
  refine TC.seq ?_
  refine TC.seqS ?_
  refine TS.s OpY.move rfl ?_
  refine TS.nil ?_
  refine TE.then ?_
  refine TC.kp [0, 1, 6, 11] [] ?_
  refine TC.cond (fun hc => ?_) (fun hc => ?_)
  · replace H := cT H hc
    refine TC.seq ?_
    refine TC.seqS ?_
    refine TS.s OpY.move rfl ?_
    refine TS.nil ?_
    refine TE.then ?_
    refine TC.kp [12] [] ?_
    refine TC.cond (fun hc => ?_) (fun hc => ?_)
    · replace H := cT H hc
      refine TC.seqS ?_
      refine TS.s OpY.assign rfl ?_
      refine TS.nil ?_
      refine TE.then ?_
      refine TC.kp [4] [] ?_
      refine TC.ret ?_
      refine TE.then_ret ?_
      refine TE.then_ret ?_
      obtain rfl := (Option.some.inj H)
      exact TE.ret1 rfl Cv.le
    · replace H := cF H hc
      refine TC.skip ?_
      refine TE.then ?_
      refine TC.kp [] [] ?_
      refine TC.seqS ?_
      refine TS.s OpY.assign rfl ?_
      refine TS.nil ?_
      refine TE.then ?_
      refine TC.kp [4] [] ?_
      refine TC.ret ?_
      refine TE.then_ret ?_
      obtain rfl := (Option.some.inj H)
      exact TE.ret1 rfl Cv.le
  · replace H := cF H hc
    refine TC.skip ?_
    refine TE.then ?_
    refine TC.kp [0, 1, 6] [] ?_
    refine TC.seq ?_
    refine TC.seqS ?_
    refine TS.s OpY.move rfl ?_
    refine TS.nil ?_
    refine TE.then ?_
    refine TC.kp [0, 1, 13] [] ?_
    refine TC.cond (fun hc => ?_) (fun hc => ?_)
    · replace H := cT H hc
      refine TC.seqS ?_
      refine TS.s OpY.assign rfl ?_
      refine TS.nil ?_
      refine TE.then ?_
      refine TC.kp [4] [] ?_
      refine TC.ret ?_
      refine TE.then_ret ?_
      obtain rfl := (Option.some.inj H)
      exact TE.ret1 rfl Cv.le
    · replace H := cF H hc
      refine TC.skip ?_
      refine TE.then ?_
      refine TC.kp [0, 1] [] ?_
      refine TC.seq ?_
      refine TC.seqS ?_
      refine TS.s OpY.move rfl ?_
      refine TS.s OpY.move rfl ?_
      refine TS.s OpY.lss rfl ?_
      refine TS.nil ?_
      refine TE.then ?_
      refine TC.kp [0, 1, 16] [] ?_
      refine TC.cond (fun hc => ?_) (fun hc => ?_)
      · replace H := cT H hc
        refine TC.seqS ?_
        refine TS.s OpY.assign rfl ?_
        refine TS.nil ?_
        refine TE.then ?_
        refine TC.kp [4] [] ?_
        refine TC.ret ?_
        refine TE.then_ret ?_
        obtain rfl := (Option.some.inj H)
        exact TE.ret1 rfl Cv.le
      · replace H := cF H hc
        refine TC.skip ?_
        refine TE.then ?_
        refine TC.kp [0, 1] [] ?_
        refine TC.seq ?_
        refine TC.seqS ?_
        refine TS.s OpY.move rfl ?_
        refine TS.s OpY.move rfl ?_
        refine TS.s OpY.gtr rfl ?_
        refine TS.nil ?_
        refine TE.then ?_
        refine TC.kp [19] [] ?_
        refine TC.cond (fun hc => ?_) (fun hc => ?_)
        · replace H := cT H hc
          refine TC.seqS ?_
          refine TS.s OpY.assign rfl ?_
          refine TS.nil ?_
          refine TE.then ?_
          refine TC.kp [4] [] ?_
          refine TC.ret ?_
          refine TE.then_ret ?_
          obtain rfl := (Option.some.inj H)
          exact TE.ret1 rfl Cv.le
        · replace H := cF H hc
          refine TC.skip ?_
          refine TE.then ?_
          refine TC.kp [] [] ?_
          refine TC.seqS ?_
          refine TS.s OpY.assign rfl ?_
          refine TS.nil ?_
          refine TE.then ?_
          refine TC.kp [4] [] ?_
          refine TC.ret ?_
          obtain rfl := (Option.some.inj H)
          exact TE.ret1 rfl Cv.le
def wear_block_fresher (b0 : wear_block) (c0 : wear_block) : Option Int :=
  (cmp_Compare_int b0.Wear.Worn c0.Wear.Worn).bind fun x_3 => some x_3
/--  wear.block .fresher -/
theorem wear_block_fresher_c {A : Nat → Prop} {b0 : wear_block} {c0 : wear_block}  {r : Int} (w : World) (v0 v1 : Value) (hA : ∀ k, w.heap.size ≤ k → A k)  (h0 : (D (b0 : wear_block)).p A w v0) (h1 : (D (c0 : wear_block)).p A w v1) (H : wear_block_fresher b0 c0 = some r) :
    Calls Try.prog 40 #[v0, v1] w (Ret A w (D (r : Int))) := by
  unfold wear_block_fresher at H
  refine enter2 hA Try.func40 rfl Try.ntmps40 rfl h0 h1 ?_
  refine TC.seqS ?_
  refine TS.box rfl fun b2_0 => ?_
  refine TS.box rfl fun b3_1 => ?_
  refine TS.s OpY.assign rfl ?_
  refine TS.nil ?_
  refine TE.then ?_
  refine TC.kp [2, 3] [b2_0, b3_1] ?_
  refine TC.seqS ?_
  refine TS.s OpY.fieldAddr rfl ?_
  refine TS.s OpY.fieldAddr rfl ?_
  refine TS.s (OpD.ldq (Pl.fld (off := 2) (α := Wear) (β := Int) (Pl.fld (off := 0) (α := wear_block) (β := Wear) Pl.one))) rfl ?_
  refine TS.s OpY.fieldAddr rfl ?_
  refine TS.s OpY.fieldAddr rfl ?_
  refine TS.s (OpD.ldq (Pl.fld (off := 2) (α := Wear) (β := Int) (Pl.fld (off := 0) (α := wear_block) (β := Wear) Pl.one))) rfl ?_
  obtain ⟨x_3, ex_3, H⟩ := bnd H
  refine TS.s (OpY.call2 fun w v0 v1 hA h0 h1 => cmp_Compare_int_c w v0 v1 hA (toD h0) (toD h1) ex_3) rfl ?_
  refine TS.s OpY.assign rfl ?_
  refine TS.nil ?_
  refine TE.then ?_
  refine TC.kp [4] [] ?_
  refine TC.ret ?_
  obtain rfl := (Option.some.inj H)
  exact TE.ret1 rfl Cv.le
instance {Γ : Env} : Has Γ (.func 40) (D (⟨wear_block_fresher⟩ : F2 Try.prog wear_block wear_block Int)) := ⟨fun a A w _ => F2.const (P := Try.prog) (f := 40) fun w v0 v1 hA h0 h1 e => wear_block_fresher_c w v0 v1 hA h0 h1 e⟩
def wear_Right_l1 (l0 : (List Wear)) (pages0 : Int) (x_2 : Int) : Option (Int ⊕ (Unit ⊕ Bool)) :=
  bif (decide (x_2 < (l0.length : Int))) then ((idx l0 x_2).bind fun x_4 => bif (((((decide (x_4.Live < (0 : Int))) || (decide (x_4.Live > x_4.Used))) || (decide (x_4.Used > pages0))) || (decide (x_4.Worn < (0 : Int)))) || (decide (x_4.Worn > (1099511627776 : Int)))) then (some (.inr (.inr false))) else ((addI x_2 (1 : Int)).bind fun x_7 => some (.inl x_7))) else (some (.inr (.inl ())))
def wear_Right (l0 : (List Wear)) (pages0 : Int) : Option Bool :=
  bif ((((decide ((l0.length : Int) < (1 : Int))) || (decide ((l0.length : Int) > (32 : Int)))) || (decide (pages0 < (1 : Int)))) || (decide (pages0 > (16 : Int)))) then (some false) else ((loopO (fun s => wear_Right_l1 l0 pages0 s) (0 : Int)).bind fun o_1 => elS o_1 (fun _ => some true) (fun q => some q))
/-- wear.Right -/
theorem wear_Right_c {A : Nat → Prop} {l0 : (List Wear)} {pages0 : Int}  {r : Bool} (w : World) (v0 v1 : Value) (hA : ∀ k, w.heap.size ≤ k → A k)  (h0 : (D (l0 : (List Wear))).p A w v0) (h1 : (D (pages0 : Int)).p A w v1) (H : wear_Right l0 pages0 = some r) :
    Calls Try.prog 27 #[v0, v1] w (Ret A w (D (r : Bool))) := by
  unfold wear_Right at H
  refine enter2 hA Try.func27 rfl Try.ntmps27 rfl h0 h1 ?_
  refine TC.seqS ?_
  refine TS.s OpY.assign rfl ?_
  refine TS.nil ?_
  refine TE.then ?_
  refine TC.kp [0, 1] [] ?_
  refine TC.seq ?_
  refine TC.seqS ?_
  refine TS.s OpY.move rfl ?_
  refine TS.s OpD.len rfl ?_
  refine TS.s OpY.lss rfl ?_
  refine TS.s OpY.move rfl ?_
  refine TS.g 10 rfl (fun hg => OpY.move) rfl ?_
  refine TS.g 10 rfl (fun hg => OpD.len) rfl ?_
  refine TS.g 10 rfl (fun hg => OpY.gtr) rfl ?_
  refine TS.s OpY.pickOr rfl ?_
  refine TS.s OpY.move rfl ?_
  refine TS.g 15 rfl (fun hg => OpY.move) rfl ?_
  refine TS.g 15 rfl (fun hg => OpY.lss) rfl ?_
  refine TS.s OpY.pickOr rfl ?_
  refine TS.s OpY.move rfl ?_
  refine TS.g 19 rfl (fun hg => OpY.move) rfl ?_
  refine TS.g 19 rfl (fun hg => OpY.gtr) rfl ?_
  refine TS.s OpY.pickOr rfl ?_
  refine TS.nil ?_
  refine TE.then ?_
  refine TC.kp [0, 1, 22] [] ?_
  refine TC.cond (fun hc => ?_) (fun hc => ?_)
  · replace H := cT H hc
    refine TC.seqS ?_
    refine TS.s OpY.assign rfl ?_
    refine TS.nil ?_
    refine TE.then ?_
    refine TC.kp [4] [] ?_
    refine TC.ret ?_
    refine TE.then_ret ?_
    obtain rfl := (Option.some.inj H)
    exact TE.ret1 rfl Cv.le
  · replace H := cF H hc
    refine TC.skip ?_
    refine TE.then ?_
    refine TC.kp [0, 1] [] ?_
    refine TC.seq ?_
    refine TC.seqS ?_
    refine TS.s OpY.move rfl ?_
    refine TS.s OpD.len rfl ?_
    refine TS.s OpY.move rfl ?_
    refine TS.nil ?_
    refine TE.then ?_
    refine TC.kp [1, 23, 24, 25] [] ?_
    obtain ⟨o_1, H1, H⟩ := bnd H
    refine TC.cutP (fun s : Unit => o_1 = .inl s) (fun (_ : Unit) (_ : Unit) => Env.nil) (fun (_ : Unit) (_ : Unit) => []) ?_ ?_
    · skip
      refine TC.block ?_
      refine TC.loopP H1 (fun (x_2 : Int) (_ : Unit) => (Env.set (Env.set (Env.set (Env.set Env.nil 1 (D (pages0 : Int))) 23 (D (l0 : (List Wear)))) 24 (D ((l0.length : Int) : Int))) 25 (D (x_2 : Int)))) (fun (x_2 : Int) (_ : Unit) => []) () (Env.cv (Env.cv (Env.cv (Env.cv (Env.le_nil _))))) (Less.nil _) ?_
      rintro x_2 ⟨⟩ x_3 H3 he3
      replace H3 : wear_Right_l1 l0 pages0 x_2 = some x_3 := H3
      unfold wear_Right_l1 at H3
      refine TC.seqS ?_
      refine TS.s OpY.lss rfl ?_
      refine TS.nil ?_
      refine TE.then ?_
      refine TC.kp [1, 23, 24, 25, 26] [] ?_
      refine TC.seq ?_
      refine TC.cond (fun hc => ?_) (fun hc => ?_)
      · replace H3 := cT H3 hc
        refine TC.skip ?_
        refine TE.then ?_
        refine TC.kp [1, 23, 24, 25] [] ?_
        refine TC.seq ?_
        refine TC.block ?_
        refine TC.seqS ?_
        obtain ⟨x_4, ex_4, H3⟩ := bnd H3
        refine TS.s (OpD.index ex_4) rfl ?_
        refine TS.s OpY.load rfl ?_
        refine TS.alloc (α := Wear) rfl fun b6_4 => ?_
        refine TS.un (OpT.storeq (y := (x_4 : Wear)) Pl.one) ?_
        refine TS.nil ?_
        refine TE.then ?_
        refine TC.kp [1, 6, 23, 24, 25] [b6_4] ?_
        refine TC.seqS ?_
        refine TS.s OpY.fieldAddr rfl ?_
        refine TS.s (OpD.ldq (Pl.fld (off := 0) (α := Wear) (β := Int) Pl.one)) rfl ?_
        refine TS.s OpY.lss rfl ?_
        refine TS.s OpY.move rfl ?_
        refine TS.g 32 rfl (fun hg => OpY.fieldAddr) rfl ?_
        refine TS.g 32 rfl (fun hg => (OpD.ldq (Pl.fld (off := 0) (α := Wear) (β := Int) Pl.one))) rfl ?_
        refine TS.g 32 rfl (fun hg => OpY.fieldAddr) rfl ?_
        refine TS.g 32 rfl (fun hg => (OpD.ldq (Pl.fld (off := 1) (α := Wear) (β := Int) Pl.one))) rfl ?_
        refine TS.g 32 rfl (fun hg => OpY.gtr) rfl ?_
        refine TS.s OpY.pickOr rfl ?_
        refine TS.s OpY.move rfl ?_
        refine TS.g 39 rfl (fun hg => OpY.fieldAddr) rfl ?_
        refine TS.g 39 rfl (fun hg => (OpD.ldq (Pl.fld (off := 1) (α := Wear) (β := Int) Pl.one))) rfl ?_
        refine TS.g 39 rfl (fun hg => OpY.move) rfl ?_
        refine TS.g 39 rfl (fun hg => OpY.gtr) rfl ?_
        refine TS.s OpY.pickOr rfl ?_
        refine TS.s OpY.move rfl ?_
        refine TS.g 45 rfl (fun hg => OpY.fieldAddr) rfl ?_
        refine TS.g 45 rfl (fun hg => (OpD.ldq (Pl.fld (off := 2) (α := Wear) (β := Int) Pl.one))) rfl ?_
        refine TS.g 45 rfl (fun hg => OpY.lss) rfl ?_
        refine TS.s OpY.pickOr rfl ?_
        refine TS.s OpY.move rfl ?_
        refine TS.g 50 rfl (fun hg => OpY.fieldAddr) rfl ?_
        refine TS.g 50 rfl (fun hg => (OpD.ldq (Pl.fld (off := 2) (α := Wear) (β := Int) Pl.one))) rfl ?_
        refine TS.g 50 rfl (fun hg => OpY.gtr) rfl ?_
        refine TS.s OpY.pickOr rfl ?_
        refine TS.nil ?_
        refine TE.then ?_
        refine TC.kp [1, 23, 24, 25, 54] [] ?_
        refine TC.cond (fun hc => ?_) (fun hc => ?_)
        · replace H3 := cT H3 hc
          refine TC.seqS ?_
          refine TS.s OpY.assign rfl ?_
          refine TS.nil ?_
          refine TE.then ?_
          refine TC.kp [4] [] ?_
          refine TC.ret ?_
          refine TE.inBlock_ret ?_
          refine TE.then_ret ?_
          refine TE.then_ret ?_
          refine TE.inBlock_ret ?_
          refine TE.cut_ret ?_
          have R5 := elS_r (he3 _ (Option.some.inj H3).symm) H
          refine TE.then_ret ?_
          obtain rfl := (Option.some.inj R5)
          exact TE.ret1 rfl Cv.le
        · replace H3 := cF H3 hc
          refine TC.skip ?_
          refine TE.inBlock_normal ?_
          refine TE.then ?_
          refine TC.kp [1, 23, 24, 25] [] ?_
          refine TC.regionS ?_
          obtain ⟨x_7, ex_7, H3⟩ := bnd H3
          refine TS.s (OpD.add ex_7) rfl ?_
          refine TS.s OpY.move rfl ?_
          refine TS.nil ?_
          refine TE.kp [1, 23, 24, 25] [] ?_
          exact TE.backP x_7 () (Option.some.inj H3).symm (Env.cv (Env.cv (Env.cv (Env.cv (Env.le_nil _))))) (Less.nil _)
      · replace H3 := cF H3 hc
        refine TC.exit ?_
        refine TE.then_exit ?_
        refine TE.then_exit ?_
        refine TE.inBlock_here ?_
        exact TE.cutP () () (he3 _ (Option.some.inj H3).symm).symm (Env.le_nil _) (Less.nil _)
    rintro ⟨⟩ ⟨⟩ hp
    replace H := elS_l hp H
    refine TE.then ?_
    refine TC.kp [] [] ?_
    refine TC.seqS ?_
    refine TS.s OpY.assign rfl ?_
    refine TS.nil ?_
    refine TE.then ?_
    refine TC.kp [4] [] ?_
    refine TC.ret ?_
    obtain rfl := (Option.some.inj H)
    exact TE.ret1 rfl Cv.le
def wear_ahead_l1 (a0 : wear_block) (b0 : wear_block) (orders0 : (List (F2 Try.prog wear_block wear_block Int))) (x_4 : Int) : Option (Int ⊕ (Unit ⊕ Bool)) :=
  bif (decide (x_4 < (orders0.length : Int))) then ((idx orders0 x_4).bind fun x_6 => ((x_6).f a0 b0).bind fun x_7 => bif (decide (x_7 ≠ (0 : Int))) then (some (.inr (.inr (decide (x_7 < (0 : Int)))))) else ((addI x_4 (1 : Int)).bind fun x_9 => some (.inl x_9))) else (some (.inr (.inl ())))
def wear_ahead (a0 : wear_block) (b0 : wear_block) (orders0 : (List (F2 Try.prog wear_block wear_block Int))) : Option Bool :=
  (loopO (fun s => wear_ahead_l1 a0 b0 orders0 s) (0 : Int)).bind fun o_3 => elS o_3 (fun _ => some false) (fun q => some q)
/-- wear.ahead -/
theorem wear_ahead_c {A : Nat → Prop} {a0 : wear_block} {b0 : wear_block} {orders0 : (List (F2 Try.prog wear_block wear_block Int))}  {r : Bool} (w : World) (v0 v1 v2 : Value) (hA : ∀ k, w.heap.size ≤ k → A k)  (h0 : (D (a0 : wear_block)).p A w v0) (h1 : (D (b0 : wear_block)).p A w v1) (h2 : (D (orders0 : (List (F2 Try.prog wear_block wear_block Int)))).p A w v2) (H : wear_ahead a0 b0 orders0 = some r) :
    Calls Try.prog 50 #[v0, v1, v2] w (Ret A w (D (r : Bool))) := by
  unfold wear_ahead at H
  refine enter3 hA Try.func50 rfl Try.ntmps50 rfl h0 h1 h2 ?_
  refine TC.seqS ?_
  refine TS.box rfl fun b3_0 => ?_
  refine TS.box rfl fun b4_1 => ?_
  refine TS.s OpY.assign rfl ?_
  refine TS.nil ?_
  refine TE.then ?_
  refine TC.kp [2, 3, 4] [b3_0, b4_1] ?_
  refine TC.seq ?_
  refine TC.seqS ?_
  refine TS.s OpY.move rfl ?_
  refine TS.s OpD.len rfl ?_
  refine TS.s OpY.move rfl ?_
  refine TS.nil ?_
  refine TE.then ?_
  refine TC.kp [3, 4, 10, 11, 12] [b3_0, b4_1] ?_
  obtain ⟨o_3, H3, H⟩ := bnd H
  refine TC.cutP (fun s : Unit => o_3 = .inl s) (fun (_ : Unit) (_ : Unit) => Env.nil) (fun (_ : Unit) (_ : Unit) => []) ?_ ?_
  · skip
    refine TC.block ?_
    refine TC.loopP H3 (fun (x_4 : Int) (_ : Unit) => (Env.set (Env.set (Env.set (Env.set (Env.set Env.nil 3 (Pt b3_0 0)) 4 (Pt b4_1 0)) 10 (D (orders0 : (List (F2 Try.prog wear_block wear_block Int))))) 11 (D ((orders0.length : Int) : Int))) 12 (D (x_4 : Int)))) (fun (x_4 : Int) (_ : Unit) => [⟨b3_0, True, (One (a0 : wear_block))⟩, ⟨b4_1, True, (One (b0 : wear_block))⟩]) () (Env.cv (Env.cv (Env.cv (Env.cv (Env.cv (Env.le_nil _)))))) (Less.pk rfl (Less.pk rfl (Less.nil _))) ?_
    rintro x_4 ⟨⟩ x_5 H5 he5
    replace H5 : wear_ahead_l1 a0 b0 orders0 x_4 = some x_5 := H5
    unfold wear_ahead_l1 at H5
    refine TC.seqS ?_
    refine TS.s OpY.lss rfl ?_
    refine TS.nil ?_
    refine TE.then ?_
    refine TC.kp [3, 4, 10, 11, 12, 13] [b3_0, b4_1] ?_
    refine TC.seq ?_
    refine TC.cond (fun hc => ?_) (fun hc => ?_)
    · replace H5 := cT H5 hc
      refine TC.skip ?_
      refine TE.then ?_
      refine TC.kp [3, 4, 10, 11, 12] [b3_0, b4_1] ?_
      refine TC.seq ?_
      refine TC.block ?_
      refine TC.seqS ?_
      obtain ⟨x_6, ex_6, H5⟩ := bnd H5
      refine TS.s (OpD.index ex_6) rfl ?_
      refine TS.s OpY.load rfl ?_
      refine TS.s OpY.assign rfl ?_
      refine TS.nil ?_
      refine TE.then ?_
      refine TC.kp [3, 4, 8, 10, 11, 12] [b3_0, b4_1] ?_
      refine TC.seqS ?_
      refine TS.s OpY.move rfl ?_
      refine TS.s (OpD.ldq Pl.one) rfl ?_
      refine TS.s (OpD.ldq Pl.one) rfl ?_
      obtain ⟨x_7, ex_7, H5⟩ := bnd H5
      refine TS.s (OpY.callV2 ex_7) rfl ?_
      refine TS.s OpY.assign rfl ?_
      refine TS.nil ?_
      refine TE.then ?_
      refine TC.kp [3, 4, 9, 10, 11, 12] [b3_0, b4_1] ?_
      refine TC.seqS ?_
      refine TS.s OpY.move rfl ?_
      refine TS.s OpY.neq rfl ?_
      refine TS.nil ?_
      refine TE.then ?_
      refine TC.kp [3, 4, 9, 10, 11, 12, 21] [b3_0, b4_1] ?_
      refine TC.cond (fun hc => ?_) (fun hc => ?_)
      · replace H5 := cT H5 hc
        refine TC.seqS ?_
        refine TS.s OpY.move rfl ?_
        refine TS.s OpY.lss rfl ?_
        refine TS.s OpY.assign rfl ?_
        refine TS.nil ?_
        refine TE.then ?_
        refine TC.kp [6] [] ?_
        refine TC.ret ?_
        refine TE.inBlock_ret ?_
        refine TE.then_ret ?_
        refine TE.then_ret ?_
        refine TE.inBlock_ret ?_
        refine TE.cut_ret ?_
        have R7 := elS_r (he5 _ (Option.some.inj H5).symm) H
        refine TE.then_ret ?_
        obtain rfl := (Option.some.inj R7)
        exact TE.ret1 rfl Cv.le
      · replace H5 := cF H5 hc
        refine TC.skip ?_
        refine TE.inBlock_normal ?_
        refine TE.then ?_
        refine TC.kp [3, 4, 10, 11, 12] [b3_0, b4_1] ?_
        refine TC.regionS ?_
        obtain ⟨x_9, ex_9, H5⟩ := bnd H5
        refine TS.s (OpD.add ex_9) rfl ?_
        refine TS.s OpY.move rfl ?_
        refine TS.nil ?_
        refine TE.kp [3, 4, 10, 11, 12] [b3_0, b4_1] ?_
        exact TE.backP x_9 () (Option.some.inj H5).symm (Env.cv (Env.cv (Env.cv (Env.cv (Env.cv (Env.le_nil _)))))) (Less.pk rfl (Less.pk rfl (Less.nil _)))
    · replace H5 := cF H5 hc
      refine TC.exit ?_
      refine TE.then_exit ?_
      refine TE.then_exit ?_
      refine TE.inBlock_here ?_
      exact TE.cutP () () (he5 _ (Option.some.inj H5).symm).symm (Env.le_nil _) (Less.nil _)
  rintro ⟨⟩ ⟨⟩ hp
  replace H := elS_l hp H
  refine TE.then ?_
  refine TC.kp [] [] ?_
  refine TC.seqS ?_
  refine TS.s OpY.assign rfl ?_
  refine TS.nil ?_
  refine TE.then ?_
  refine TC.kp [6] [] ?_
  refine TC.ret ?_
  obtain rfl := (Option.some.inj H)
  exact TE.ret1 rfl Cv.le
def wear_first_l1 (l0 : (List Wear)) (pages0 : Int) (rule0 : (F1 Try.prog wear_block Bool)) (orders0 : (List (F2 Try.prog wear_block wear_block Int))) (at_5 : Int) (found_6 : Bool) (x_7 : Int) : Option ((Int × Bool × Int) ⊕ (Int × Bool)) :=
  bif (decide (x_7 < (l0.length : Int))) then (((idx l0 x_7).bind fun x_12 => (some ((⟨x_12, pages0⟩ : wear_block) : wear_block)).bind fun b_15 => ((rule0).f b_15).bind fun x_16 => bif (!x_16) then (some (at_5, found_6)) else ((gb (!(!found_6)) (idx l0 at_5)).bind fun x_17 => (gb (!(!found_6)) (wear_ahead b_15 (⟨x_17, pages0⟩ : wear_block) orders0)).bind fun x_18 => bif ((!found_6) || x_18) then (some (x_7, true)) else (some (at_5, found_6)))).bind fun o_11 => el2 o_11 (fun at_9 found_10 => (addI x_7 (1 : Int)).bind fun x_19 => some (.inl (at_9, found_10, x_19)))) else (some (.inr (at_5, found_6)))
def wear_first (l0 : (List Wear)) (pages0 : Int) (rule0 : (F1 Try.prog wear_block Bool)) (orders0 : (List (F2 Try.prog wear_block wear_block Int))) : Option (Int × Bool) :=
  (wear_Right l0 pages0).bind fun x_1 => bif (!x_1) then (some ((0 : Int), false)) else ((loopO (fun s => wear_first_l1 l0 pages0 rule0 orders0 s.1 s.2.1 s.2.2) ((0 : Int), false, (0 : Int))).bind fun o_4 => el2 o_4 (fun at_2 found_3 => some (at_2, found_3)))
/-- wear.first -/
theorem wear_first_c {A : Nat → Prop} {l0 : (List Wear)} {pages0 : Int} {rule0 : (F1 Try.prog wear_block Bool)} {orders0 : (List (F2 Try.prog wear_block wear_block Int))}  {r : (Int × Bool)} (w : World) (v0 v1 v2 v3 : Value) (hA : ∀ k, w.heap.size ≤ k → A k)  (h0 : (D (l0 : (List Wear))).p A w v0) (h1 : (D (pages0 : Int)).p A w v1) (h2 : (D (rule0 : (F1 Try.prog wear_block Bool))).p A w v2) (h3 : (D (orders0 : (List (F2 Try.prog wear_block wear_block Int)))).p A w v3) (H : wear_first l0 pages0 rule0 orders0 = some r) :
    Calls Try.prog 37 #[v0, v1, v2, v3] w (Ret A w (Tup [D (r.1 : Int), D (r.2 : Bool)])) := by
  unfold wear_first at H
  refine enter4 hA Try.func37 rfl Try.ntmps37 rfl h0 h1 h2 h3 ?_
  refine TC.seqS ?_
  refine TS.s OpY.assign rfl ?_
  refine TS.s OpY.assign rfl ?_
  refine TS.nil ?_
  refine TE.then ?_
  refine TC.kp [0, 1, 2, 3] [] ?_
  refine TC.seq ?_
  refine TC.seqS ?_
  refine TS.s OpY.move rfl ?_
  refine TS.s OpY.move rfl ?_
  obtain ⟨x_1, ex_1, H⟩ := bnd H
  refine TS.s (OpY.call2 fun w v0 v1 hA h0 h1 => wear_Right_c w v0 v1 hA (toD h0) (toD h1) ex_1) rfl ?_
  refine TS.s OpY.notB rfl ?_
  refine TS.nil ?_
  refine TE.then ?_
  refine TC.kp [0, 1, 2, 3, 18] [] ?_
  refine TC.cond (fun hc => ?_) (fun hc => ?_)
  · replace H := cT H hc
    refine TC.seqS ?_
    refine TS.s OpY.assign rfl ?_
    refine TS.s OpY.assign rfl ?_
    refine TS.nil ?_
    refine TE.then ?_
    refine TC.kp [8, 9] [] ?_
    refine TC.ret ?_
    refine TE.then_ret ?_
    obtain rfl := (Option.some.inj H)
    exact TE.retN rfl rfl (.cons Cv.le (.cons Cv.le .nil))
  · replace H := cF H hc
    refine TC.skip ?_
    refine TE.then ?_
    refine TC.kp [0, 1, 2, 3] [] ?_
    refine TC.seqS ?_
    refine TS.s OpY.assign rfl ?_
    refine TS.s OpY.assign rfl ?_
    refine TS.nil ?_
    refine TE.then ?_
    refine TC.kp [0, 1, 2, 3, 10, 11] [] ?_
    refine TC.seq ?_
    refine TC.seqS ?_
    refine TS.s OpY.move rfl ?_
    refine TS.s OpD.len rfl ?_
    refine TS.s OpY.move rfl ?_
    refine TS.nil ?_
    refine TE.then ?_
    refine TC.kp [0, 1, 2, 3, 10, 11, 19, 20, 21] [] ?_
    obtain ⟨o_4, H4, H⟩ := bnd H
    refine TC.cutP (fun s : (Int × Bool) => o_4 = s) (fun ⟨at_2, found_3⟩ (_ : Unit) => (Env.set (Env.set Env.nil 10 (D (at_2 : Int))) 11 (D (found_3 : Bool)))) (fun ⟨at_2, found_3⟩ (_ : Unit) => []) ?_ ?_
    · skip
      refine TC.block ?_
      refine TC.loopP H4 (fun ⟨at_5, found_6, x_7⟩ (_ : Unit) => (Env.set (Env.set (Env.set (Env.set (Env.set (Env.set (Env.set (Env.set (Env.set Env.nil 0 (D (l0 : (List Wear)))) 1 (D (pages0 : Int))) 2 (D (rule0 : (F1 Try.prog wear_block Bool)))) 3 (D (orders0 : (List (F2 Try.prog wear_block wear_block Int))))) 10 (D (at_5 : Int))) 11 (D (found_6 : Bool))) 19 (D (l0 : (List Wear)))) 20 (D ((l0.length : Int) : Int))) 21 (D (x_7 : Int)))) (fun ⟨at_5, found_6, x_7⟩ (_ : Unit) => []) () (Env.cv (Env.cv (Env.cv (Env.cv (Env.cv (Env.cv (Env.cv (Env.cv (Env.cv (Env.le_nil _)))))))))) (Less.nil _) ?_
      rintro ⟨at_5, found_6, x_7⟩ ⟨⟩ x_8 H8 he8
      replace H8 : wear_first_l1 l0 pages0 rule0 orders0 at_5 found_6 x_7 = some x_8 := H8
      unfold wear_first_l1 at H8
      refine TC.seqS ?_
      refine TS.s OpY.lss rfl ?_
      refine TS.nil ?_
      refine TE.then ?_
      refine TC.kp [0, 1, 2, 3, 10, 11, 19, 20, 21, 22] [] ?_
      refine TC.seq ?_
      refine TC.cond (fun hc => ?_) (fun hc => ?_)
      · replace H8 := cT H8 hc
        refine TC.skip ?_
        refine TE.then ?_
        refine TC.kp [0, 1, 2, 3, 10, 11, 19, 20, 21] [] ?_
        refine TC.seq ?_
        obtain ⟨o_11, H11, H8⟩ := bnd H8
        refine TC.cutP (fun s : (Int × Bool) => o_11 = s) (fun ⟨at_9, found_10⟩ (_ : Unit) => (Env.set (Env.set (Env.set (Env.set (Env.set (Env.set (Env.set (Env.set (Env.set Env.nil 0 (D (l0 : (List Wear)))) 1 (D (pages0 : Int))) 2 (D (rule0 : (F1 Try.prog wear_block Bool)))) 3 (D (orders0 : (List (F2 Try.prog wear_block wear_block Int))))) 10 (D (at_9 : Int))) 11 (D (found_10 : Bool))) 19 (D (l0 : (List Wear)))) 20 (D ((l0.length : Int) : Int))) 21 (D (x_7 : Int)))) (fun ⟨at_9, found_10⟩ (_ : Unit) => []) ?_ ?_
        · skip
          refine TC.block ?_
          refine TC.seqS ?_
          refine TS.s OpY.move rfl ?_
          obtain ⟨x_12, ex_12, H11⟩ := bnd H11
          refine TS.s (OpD.index ex_12) rfl ?_
          refine TS.s OpY.load rfl ?_
          refine TS.alloc (α := Wear) rfl fun b13_12 => ?_
          refine TS.s OpY.assign rfl ?_
          refine TS.un (OpT.storeq (y := (x_12 : Wear)) Pl.one) ?_
          refine TS.nil ?_
          refine TE.then ?_
          refine TC.kp [0, 1, 2, 3, 10, 11, 12, 13, 19, 20, 21] [b13_12] ?_
          refine TC.seqS ?_
          refine TS.s (OpD.ldq Pl.one) rfl ?_
          refine TS.s OpY.move rfl ?_
          refine TS.s (OpY.buildAs (⟨x_12, pages0⟩ : wear_block) rfl ⟨_, Try.underlying68, by kernel_rfl⟩ rfl rfl) rfl ?_
          refine TS.alloc (α := wear_block) rfl fun b14_13 => ?_
          refine TS.un (OpT.storeq (y := ((⟨x_12, pages0⟩ : wear_block) : wear_block)) Pl.one) ?_
          refine TS.nil ?_
          refine TE.then ?_
          refine TC.kp [0, 1, 2, 3, 10, 11, 12, 14, 19, 20, 21] [b14_13] ?_
          obtain ⟨b_15, eb_15, H11⟩ := bnd H11
          refine TC.nmB b14_13 (nm_one eb_15) ?_
          refine TC.seq ?_
          refine TC.seqS ?_
          refine TS.s OpY.move rfl ?_
          refine TS.s (OpD.ldq Pl.one) rfl ?_
          obtain ⟨x_16, ex_16, H11⟩ := bnd H11
          refine TS.s (OpY.callV1 ex_16) rfl ?_
          refine TS.s OpY.notB rfl ?_
          refine TS.nil ?_
          refine TE.then ?_
          refine TC.kp [0, 1, 2, 3, 10, 11, 12, 14, 19, 20, 21, 32] [b14_13] ?_
          refine TC.cond (fun hc => ?_) (fun hc => ?_)
          · replace H11 := cT H11 hc
            refine TC.exit ?_
            refine TE.then_exit ?_
            refine TE.inBlock_here ?_
            exact TE.cutP ⟨at_5, found_6⟩ () (Option.some.inj H11).symm (Env.cv (Env.cv (Env.cv (Env.cv (Env.cv (Env.cv (Env.cv (Env.cv (Env.cv (Env.le_nil _)))))))))) (Less.nil _)
          · replace H11 := cF H11 hc
            refine TC.skip ?_
            refine TE.then ?_
            refine TC.kp [0, 1, 2, 3, 10, 11, 12, 14, 19, 20, 21] [b14_13] ?_
            refine TC.seqD0 mix (by kernel_rfl) ?_
            refine TR.s OpY.move rfl ?_
            refine TR.s OpY.notB rfl ?_
            refine TR.s OpY.move rfl ?_
            refine TR.g 35 rfl (fun hg => (OpD.ldq Pl.one)) rfl ?_
            refine TR.g 35 rfl (fun hg => OpY.move) rfl ?_
            refine TR.g 35 rfl (fun hg => OpY.move) rfl ?_
            obtain ⟨x_17, ex_17, H11⟩ := bnd H11
            refine TR.g 35 rfl (fun hg => (OpD.index (gb_some ex_17 (nF hg.h)))) rfl ?_
            refine TR.g 35 rfl (fun hg => OpY.load) rfl ?_
            refine TR.g 35 rfl (fun hg => OpY.move) rfl ?_
            refine TR.g 35 rfl (fun hg => (OpY.buildAs (⟨x_17, pages0⟩ : wear_block) rfl ⟨_, Try.underlying68, by kernel_rfl⟩ rfl rfl)) rfl ?_
            refine TR.g 35 rfl (fun hg => OpY.move) rfl ?_
            obtain ⟨x_18, ex_18, H11⟩ := bnd H11
            refine TR.g 35 rfl (fun hg => (OpY.call3 fun w v0 v1 v2 hA h0 h1 h2 => wear_ahead_c w v0 v1 v2 hA (toD h0) (toD h1) (toD h2) (gb_some ex_18 (nF hg.h)))) rfl ?_
            refine TR.s OpY.pickOr rfl ?_
            refine TR.nil ?_
            refine TC.kp [0, 1, 2, 3, 10, 11, 12, 19, 20, 21, 45] [] ?_
            refine TC.cond (fun hc => ?_) (fun hc => ?_)
            · replace H11 := cT H11 hc
              refine TC.regionS ?_
              refine TS.s OpY.move rfl ?_
              refine TS.s OpY.assign rfl ?_
              refine TS.s OpY.assign rfl ?_
              refine TS.nil ?_
              refine TE.kp [0, 1, 2, 3, 10, 11, 19, 20, 21] [] ?_
              refine TE.inBlock_normal ?_
              exact TE.cutP ⟨x_7, true⟩ () (Option.some.inj H11).symm (Env.cv (Env.cv (Env.cv (Env.cv (Env.cv (Env.cv (Env.cv (Env.cv (Env.cv (Env.le_nil _)))))))))) (Less.nil _)
            · replace H11 := cF H11 hc
              refine TC.skip ?_
              refine TE.inBlock_normal ?_
              exact TE.cutP ⟨at_5, found_6⟩ () (Option.some.inj H11).symm (Env.cv (Env.cv (Env.cv (Env.cv (Env.cv (Env.cv (Env.cv (Env.cv (Env.cv (Env.le_nil _)))))))))) (Less.nil _)
        rintro ⟨at_9, found_10⟩ ⟨⟩ hp
        replace hp := hp.symm
        subst hp
        replace H8 := el2_mk H8
        refine TE.then ?_
        refine TC.kp [0, 1, 2, 3, 10, 11, 19, 20, 21] [] ?_
        refine TC.regionS ?_
        obtain ⟨x_19, ex_19, H8⟩ := bnd H8
        refine TS.s (OpD.add ex_19) rfl ?_
        refine TS.s OpY.move rfl ?_
        refine TS.nil ?_
        refine TE.kp [0, 1, 2, 3, 10, 11, 19, 20, 21] [] ?_
        exact TE.backP ⟨at_9, found_10, x_19⟩ () (Option.some.inj H8).symm (Env.cv (Env.cv (Env.cv (Env.cv (Env.cv (Env.cv (Env.cv (Env.cv (Env.cv (Env.le_nil _)))))))))) (Less.nil _)
      · replace H8 := cF H8 hc
        refine TC.exit ?_
        refine TE.then_exit ?_
        refine TE.then_exit ?_
        refine TE.inBlock_here ?_
        exact TE.cutP ⟨at_5, found_6⟩ () (he8 _ (Option.some.inj H8).symm).symm (Env.cv (Env.cv (Env.le_nil _))) (Less.nil _)
    rintro ⟨at_2, found_3⟩ ⟨⟩ hp
    replace hp := hp.symm
    subst hp
    replace H := el2_mk H
    refine TE.then ?_
    refine TC.kp [10, 11] [] ?_
    refine TC.seqS ?_
    refine TS.s OpY.move rfl ?_
    refine TS.s OpY.move rfl ?_
    refine TS.s OpY.assign rfl ?_
    refine TS.s OpY.assign rfl ?_
    refine TS.nil ?_
    refine TE.then ?_
    refine TC.kp [8, 9] [] ?_
    refine TC.ret ?_
    obtain rfl := (Option.some.inj H)
    exact TE.retN rfl rfl (.cons Cv.le (.cons Cv.le .nil))
def wear_block_dead (b0 : wear_block) : Option Bool :=
  some (((!b0.Wear.Bad) && (decide (b0.Wear.Live = (0 : Int)))) && (decide (b0.Wear.Used > (0 : Int))))
/--  wear.block .dead -/
theorem wear_block_dead_c {A : Nat → Prop} {b0 : wear_block}  {r : Bool} (w : World) (v0 : Value) (hA : ∀ k, w.heap.size ≤ k → A k)  (h0 : (D (b0 : wear_block)).p A w v0) (H : wear_block_dead b0 = some r) :
    Calls Try.prog 41 #[v0] w (Ret A w (D (r : Bool))) := by
  unfold wear_block_dead at H
  refine enter1 hA Try.func41 rfl Try.ntmps41 rfl h0 ?_
  refine TC.seqS ?_
  refine TS.box rfl fun b1_0 => ?_
  refine TS.s OpY.assign rfl ?_
  refine TS.nil ?_
  refine TE.then ?_
  refine TC.kp [1] [b1_0] ?_
  refine TC.seqS ?_
  refine TS.s OpY.fieldAddr rfl ?_
  refine TS.s OpY.fieldAddr rfl ?_
  refine TS.s (OpD.ldq (Pl.fld (off := 3) (α := Wear) (β := Bool) (Pl.fld (off := 0) (α := wear_block) (β := Wear) Pl.one))) rfl ?_
  refine TS.s OpY.notB rfl ?_
  refine TS.s OpY.move rfl ?_
  refine TS.g 7 rfl (fun hg => OpY.fieldAddr) rfl ?_
  refine TS.g 7 rfl (fun hg => OpY.fieldAddr) rfl ?_
  refine TS.g 7 rfl (fun hg => (OpD.ldq (Pl.fld (off := 0) (α := Wear) (β := Int) (Pl.fld (off := 0) (α := wear_block) (β := Wear) Pl.one)))) rfl ?_
  refine TS.g 7 rfl (fun hg => OpY.eql) rfl ?_
  refine TS.s OpY.pickAnd rfl ?_
  refine TS.s OpY.move rfl ?_
  refine TS.g 13 rfl (fun hg => OpY.fieldAddr) rfl ?_
  refine TS.g 13 rfl (fun hg => OpY.fieldAddr) rfl ?_
  refine TS.g 13 rfl (fun hg => (OpD.ldq (Pl.fld (off := 1) (α := Wear) (β := Int) (Pl.fld (off := 0) (α := wear_block) (β := Wear) Pl.one)))) rfl ?_
  refine TS.g 13 rfl (fun hg => OpY.gtr) rfl ?_
  refine TS.s OpY.pickAnd rfl ?_
  refine TS.s OpY.assign rfl ?_
  refine TS.nil ?_
  refine TE.then ?_
  refine TC.kp [2] [] ?_
  refine TC.ret ?_
  obtain rfl := (Option.some.inj H)
  exact TE.ret1 rfl Cv.le
instance {Γ : Env} : Has Γ (.func 41) (D (⟨wear_block_dead⟩ : F1 Try.prog wear_block Bool)) := ⟨fun a A w _ => F1.const (P := Try.prog) (f := 41) fun w v0 hA h0 e => wear_block_dead_c w v0 hA h0 e⟩
def wear_Dead (l0 : (List Wear)) (pages0 : Int) : Option (Int × Bool) :=
  (wear_first l0 pages0 (⟨wear_block_dead⟩ : (F1 Try.prog wear_block Bool)) ([(⟨wear_block_fresher⟩ : (F2 Try.prog wear_block wear_block Int))] : List (F2 Try.prog wear_block wear_block Int))).bind fun r_1 => some (r_1.1, r_1.2)
/-- wear.Dead -/
theorem wear_Dead_c {A : Nat → Prop} {l0 : (List Wear)} {pages0 : Int}  {r : (Int × Bool)} (w : World) (v0 v1 : Value) (hA : ∀ k, w.heap.size ≤ k → A k)  (h0 : (D (l0 : (List Wear))).p A w v0) (h1 : (D (pages0 : Int)).p A w v1) (H : wear_Dead l0 pages0 = some r) :
    Calls Try.prog 24 #[v0, v1] w (Ret A w (Tup [D (r.1 : Int), D (r.2 : Bool)])) := by
  unfold wear_Dead at H
  refine enter2 hA Try.func24 rfl Try.ntmps24 rfl h0 h1 ?_
  refine TC.seqS ?_
  refine TS.s OpY.assign rfl ?_
  refine TS.s OpY.assign rfl ?_
  refine TS.nil ?_
  refine TE.then ?_
  refine TC.kp [0, 1] [] ?_
  refine TC.seqS ?_
  refine TS.s OpY.move rfl ?_
  refine TS.s OpY.move rfl ?_
  refine TS.s (OpY.buildSlice [.func 40] rfl rfl (by decide)) rfl ?_
  obtain ⟨r_1, er_1, H⟩ := bnd H
  refine TS.s (OpY.call4 fun w v0 v1 v2 v3 hA h0 h1 h2 h3 => wear_first_c w v0 v1 v2 v3 hA (toD h0) (toD h1) (toD h2) (toD h3) er_1) rfl ?_
  refine TS.s (OpY.extract rfl) rfl ?_
  refine TS.s (OpY.extract rfl) rfl ?_
  refine TS.s OpY.assign rfl ?_
  refine TS.s OpY.assign rfl ?_
  refine TS.nil ?_
  refine TE.then ?_
  refine TC.kp [4, 5] [] ?_
  refine TC.ret ?_
  obtain rfl := (Option.some.inj H)
  exact TE.retN rfl rfl (.cons Cv.le (.cons Cv.le .nil))
def wear_block_worse (b0 : wear_block) (c0 : wear_block) : Option Int :=
  bif (decide (b0.Wear.Bad = c0.Wear.Bad)) then (some (0 : Int)) else (bif b0.Wear.Bad then (some (-1 : Int)) else (some (1 : Int)))
/--  wear.block .worse -/
theorem wear_block_worse_c {A : Nat → Prop} {b0 : wear_block} {c0 : wear_block}  {r : Int} (w : World) (v0 v1 : Value) (hA : ∀ k, w.heap.size ≤ k → A k)  (h0 : (D (b0 : wear_block)).p A w v0) (h1 : (D (c0 : wear_block)).p A w v1) (H : wear_block_worse b0 c0 = some r) :
    Calls Try.prog 43 #[v0, v1] w (Ret A w (D (r : Int))) := by
  unfold wear_block_worse at H
  refine enter2 hA Try.func43 rfl Try.ntmps43 rfl h0 h1 ?_
  refine TC.seqS ?_
  refine TS.box rfl fun b2_0 => ?_
  refine TS.box rfl fun b3_1 => ?_
  refine TS.s OpY.assign rfl ?_
  refine TS.nil ?_
  refine TE.then ?_
  refine TC.kp [2, 3] [b2_0, b3_1] ?_
  refine TC.seq ?_
  refine TC.block ?_
  refine TC.seqS ?_
  refine TS.s OpY.fieldAddr rfl ?_
  refine TS.s OpY.fieldAddr rfl ?_
  refine TS.s (OpD.ldq (Pl.fld (off := 3) (α := Wear) (β := Bool) (Pl.fld (off := 0) (α := wear_block) (β := Wear) Pl.one))) rfl ?_
  refine TS.s OpY.fieldAddr rfl ?_
  refine TS.s OpY.fieldAddr rfl ?_
  refine TS.s (OpD.ldq (Pl.fld (off := 3) (α := Wear) (β := Bool) (Pl.fld (off := 0) (α := wear_block) (β := Wear) Pl.one))) rfl ?_
  refine TS.s (OpY.eql_bool Try.underlying4) rfl ?_
  refine TS.s OpY.assign rfl ?_
  refine TS.nil ?_
  refine TE.then ?_
  refine TC.kp [2, 5] [b2_0] ?_
  refine TC.cond (fun hc => ?_) (fun hc => ?_)
  · replace H := cT H hc
    refine TC.seqS ?_
    refine TS.s OpY.assign rfl ?_
    refine TS.nil ?_
    refine TE.then ?_
    refine TC.kp [4] [] ?_
    refine TC.ret ?_
    refine TE.inBlock_ret ?_
    refine TE.then_ret ?_
    obtain rfl := (Option.some.inj H)
    exact TE.ret1 rfl Cv.le
  · replace H := cF H hc
    refine TC.seqS ?_
    refine TS.s OpY.fieldAddr rfl ?_
    refine TS.s OpY.fieldAddr rfl ?_
    refine TS.s (OpD.ldq (Pl.fld (off := 3) (α := Wear) (β := Bool) (Pl.fld (off := 0) (α := wear_block) (β := Wear) Pl.one))) rfl ?_
    refine TS.s OpY.assign rfl ?_
    refine TS.nil ?_
    refine TE.then ?_
    refine TC.kp [13] [] ?_
    refine TC.cond (fun hc => ?_) (fun hc => ?_)
    · replace H := cT H hc
      refine TC.seqS ?_
      refine TS.s OpY.assign rfl ?_
      refine TS.nil ?_
      refine TE.then ?_
      refine TC.kp [4] [] ?_
      refine TC.ret ?_
      refine TE.inBlock_ret ?_
      refine TE.then_ret ?_
      obtain rfl := (Option.some.inj H)
      exact TE.ret1 rfl Cv.le
    · replace H := cF H hc
      refine TC.skip ?_
      refine TE.inBlock_normal ?_
      refine TE.then ?_
      refine TC.kp [] [] ?_
      refine TC.seqS ?_
      refine TS.s OpY.assign rfl ?_
      refine TS.nil ?_
      refine TE.then ?_
      refine TC.kp [4] [] ?_
      refine TC.ret ?_
      obtain rfl := (Option.some.inj H)
      exact TE.ret1 rfl Cv.le
instance {Γ : Env} : Has Γ (.func 43) (D (⟨wear_block_worse⟩ : F2 Try.prog wear_block wear_block Int)) := ⟨fun a A w _ => F2.const (P := Try.prog) (f := 43) fun w v0 v1 hA h0 h1 e => wear_block_worse_c w v0 v1 hA h0 h1 e⟩
def wear_block_emptier (b0 : wear_block) (c0 : wear_block) : Option Int :=
  (cmp_Compare_int b0.Wear.Live c0.Wear.Live).bind fun x_3 => some x_3
/--  wear.block .emptier -/
theorem wear_block_emptier_c {A : Nat → Prop} {b0 : wear_block} {c0 : wear_block}  {r : Int} (w : World) (v0 v1 : Value) (hA : ∀ k, w.heap.size ≤ k → A k)  (h0 : (D (b0 : wear_block)).p A w v0) (h1 : (D (c0 : wear_block)).p A w v1) (H : wear_block_emptier b0 c0 = some r) :
    Calls Try.prog 44 #[v0, v1] w (Ret A w (D (r : Int))) := by
  unfold wear_block_emptier at H
  refine enter2 hA Try.func44 rfl Try.ntmps44 rfl h0 h1 ?_
  refine TC.seqS ?_
  refine TS.box rfl fun b2_0 => ?_
  refine TS.box rfl fun b3_1 => ?_
  refine TS.s OpY.assign rfl ?_
  refine TS.nil ?_
  refine TE.then ?_
  refine TC.kp [2, 3] [b2_0, b3_1] ?_
  refine TC.seqS ?_
  refine TS.s OpY.fieldAddr rfl ?_
  refine TS.s OpY.fieldAddr rfl ?_
  refine TS.s (OpD.ldq (Pl.fld (off := 0) (α := Wear) (β := Int) (Pl.fld (off := 0) (α := wear_block) (β := Wear) Pl.one))) rfl ?_
  refine TS.s OpY.fieldAddr rfl ?_
  refine TS.s OpY.fieldAddr rfl ?_
  refine TS.s (OpD.ldq (Pl.fld (off := 0) (α := Wear) (β := Int) (Pl.fld (off := 0) (α := wear_block) (β := Wear) Pl.one))) rfl ?_
  obtain ⟨x_3, ex_3, H⟩ := bnd H
  refine TS.s (OpY.call2 fun w v0 v1 hA h0 h1 => cmp_Compare_int_c w v0 v1 hA (toD h0) (toD h1) ex_3) rfl ?_
  refine TS.s OpY.assign rfl ?_
  refine TS.nil ?_
  refine TE.then ?_
  refine TC.kp [4] [] ?_
  refine TC.ret ?_
  obtain rfl := (Option.some.inj H)
  exact TE.ret1 rfl Cv.le
instance {Γ : Env} : Has Γ (.func 44) (D (⟨wear_block_emptier⟩ : F2 Try.prog wear_block wear_block Int)) := ⟨fun a A w _ => F2.const (P := Try.prog) (f := 44) fun w v0 v1 hA h0 h1 e => wear_block_emptier_c w v0 v1 hA h0 h1 e⟩
def wear_block_mixed (b0 : wear_block) : Option Bool :=
  bif b0.Wear.Bad then (some (decide (b0.Wear.Live > (0 : Int)))) else (some (((decide (b0.Wear.Used = b0.pages)) && (decide (b0.Wear.Live > (0 : Int)))) && (decide (b0.Wear.Live < b0.pages))))
/--  wear.block .mixed -/
theorem wear_block_mixed_c {A : Nat → Prop} {b0 : wear_block}  {r : Bool} (w : World) (v0 : Value) (hA : ∀ k, w.heap.size ≤ k → A k)  (h0 : (D (b0 : wear_block)).p A w v0) (H : wear_block_mixed b0 = some r) :
    Calls Try.prog 42 #[v0] w (Ret A w (D (r : Bool))) := by
  unfold wear_block_mixed at H
  refine enter1 hA Try.func42 rfl Try.ntmps42 rfl h0 ?_
  refine TC.seqS ?_
  refine TS.box rfl fun b1_0 => ?_
  refine TS.s OpY.assign rfl ?_
  refine TS.nil ?_
  refine TE.then ?_
  refine TC.kp [1] [b1_0] ?_
  refine TC.seq ?_
  refine TC.seqS ?_
  refine TS.s OpY.fieldAddr rfl ?_
  refine TS.s OpY.fieldAddr rfl ?_
  refine TS.s (OpD.ldq (Pl.fld (off := 3) (α := Wear) (β := Bool) (Pl.fld (off := 0) (α := wear_block) (β := Wear) Pl.one))) rfl ?_
  refine TS.nil ?_
  refine TE.then ?_
  refine TC.kp [1, 5] [b1_0] ?_
  refine TC.cond (fun hc => ?_) (fun hc => ?_)
  · replace H := cT H hc
    refine TC.seqS ?_
    refine TS.s OpY.fieldAddr rfl ?_
    refine TS.s OpY.fieldAddr rfl ?_
    refine TS.s (OpD.ldq (Pl.fld (off := 0) (α := Wear) (β := Int) (Pl.fld (off := 0) (α := wear_block) (β := Wear) Pl.one))) rfl ?_
    refine TS.s OpY.gtr rfl ?_
    refine TS.s OpY.assign rfl ?_
    refine TS.nil ?_
    refine TE.then ?_
    refine TC.kp [2] [] ?_
    refine TC.ret ?_
    refine TE.then_ret ?_
    obtain rfl := (Option.some.inj H)
    exact TE.ret1 rfl Cv.le
  · replace H := cF H hc
    refine TC.skip ?_
    refine TE.then ?_
    refine TC.kp [1] [b1_0] ?_
    refine TC.seqS ?_
    refine TS.s OpY.fieldAddr rfl ?_
    refine TS.s OpY.fieldAddr rfl ?_
    refine TS.s (OpD.ldq (Pl.fld (off := 1) (α := Wear) (β := Int) (Pl.fld (off := 0) (α := wear_block) (β := Wear) Pl.one))) rfl ?_
    refine TS.s OpY.fieldAddr rfl ?_
    refine TS.s (OpD.ldq (Pl.fld (off := 4) (α := wear_block) (β := Int) Pl.one)) rfl ?_
    refine TS.s OpY.eql rfl ?_
    refine TS.s OpY.move rfl ?_
    refine TS.g 16 rfl (fun hg => OpY.fieldAddr) rfl ?_
    refine TS.g 16 rfl (fun hg => OpY.fieldAddr) rfl ?_
    refine TS.g 16 rfl (fun hg => (OpD.ldq (Pl.fld (off := 0) (α := Wear) (β := Int) (Pl.fld (off := 0) (α := wear_block) (β := Wear) Pl.one)))) rfl ?_
    refine TS.g 16 rfl (fun hg => OpY.gtr) rfl ?_
    refine TS.s OpY.pickAnd rfl ?_
    refine TS.s OpY.move rfl ?_
    refine TS.g 22 rfl (fun hg => OpY.fieldAddr) rfl ?_
    refine TS.g 22 rfl (fun hg => OpY.fieldAddr) rfl ?_
    refine TS.g 22 rfl (fun hg => (OpD.ldq (Pl.fld (off := 0) (α := Wear) (β := Int) (Pl.fld (off := 0) (α := wear_block) (β := Wear) Pl.one)))) rfl ?_
    refine TS.g 22 rfl (fun hg => OpY.fieldAddr) rfl ?_
    refine TS.g 22 rfl (fun hg => (OpD.ldq (Pl.fld (off := 4) (α := wear_block) (β := Int) Pl.one))) rfl ?_
    refine TS.g 22 rfl (fun hg => OpY.lss) rfl ?_
    refine TS.s OpY.pickAnd rfl ?_
    refine TS.s OpY.assign rfl ?_
    refine TS.nil ?_
    refine TE.then ?_
    refine TC.kp [2] [] ?_
    refine TC.ret ?_
    obtain rfl := (Option.some.inj H)
    exact TE.ret1 rfl Cv.le
instance {Γ : Env} : Has Γ (.func 42) (D (⟨wear_block_mixed⟩ : F1 Try.prog wear_block Bool)) := ⟨fun a A w _ => F1.const (P := Try.prog) (f := 42) fun w v0 hA h0 e => wear_block_mixed_c w v0 hA h0 e⟩
def wear_Victim (l0 : (List Wear)) (pages0 : Int) : Option (Int × Bool) :=
  (wear_first l0 pages0 (⟨wear_block_mixed⟩ : (F1 Try.prog wear_block Bool)) ([(⟨wear_block_worse⟩ : (F2 Try.prog wear_block wear_block Int)), (⟨wear_block_emptier⟩ : (F2 Try.prog wear_block wear_block Int)), (⟨wear_block_fresher⟩ : (F2 Try.prog wear_block wear_block Int))] : List (F2 Try.prog wear_block wear_block Int))).bind fun r_1 => some (r_1.1, r_1.2)
/-- wear.Victim -/
theorem wear_Victim_c {A : Nat → Prop} {l0 : (List Wear)} {pages0 : Int}  {r : (Int × Bool)} (w : World) (v0 v1 : Value) (hA : ∀ k, w.heap.size ≤ k → A k)  (h0 : (D (l0 : (List Wear))).p A w v0) (h1 : (D (pages0 : Int)).p A w v1) (H : wear_Victim l0 pages0 = some r) :
    Calls Try.prog 25 #[v0, v1] w (Ret A w (Tup [D (r.1 : Int), D (r.2 : Bool)])) := by
  unfold wear_Victim at H
  refine enter2 hA Try.func25 rfl Try.ntmps25 rfl h0 h1 ?_
  refine TC.seqS ?_
  refine TS.s OpY.assign rfl ?_
  refine TS.s OpY.assign rfl ?_
  refine TS.nil ?_
  refine TE.then ?_
  refine TC.kp [0, 1] [] ?_
  refine TC.seqS ?_
  refine TS.s OpY.move rfl ?_
  refine TS.s OpY.move rfl ?_
  refine TS.s (OpY.buildSlice [.func 43, .func 44, .func 40] rfl rfl (by decide)) rfl ?_
  obtain ⟨r_1, er_1, H⟩ := bnd H
  refine TS.s (OpY.call4 fun w v0 v1 v2 v3 hA h0 h1 h2 h3 => wear_first_c w v0 v1 v2 v3 hA (toD h0) (toD h1) (toD h2) (toD h3) er_1) rfl ?_
  refine TS.s (OpY.extract rfl) rfl ?_
  refine TS.s (OpY.extract rfl) rfl ?_
  refine TS.s OpY.assign rfl ?_
  refine TS.s OpY.assign rfl ?_
  refine TS.nil ?_
  refine TE.then ?_
  refine TC.kp [4, 5] [] ?_
  refine TC.ret ?_
  obtain rfl := (Option.some.inj H)
  exact TE.retN rfl rfl (.cons Cv.le (.cons Cv.le .nil))
def wear_block_fuller (b0 : wear_block) (c0 : wear_block) : Option Int :=
  (cmp_Compare_int c0.Wear.Used b0.Wear.Used).bind fun x_3 => some x_3
/--  wear.block .fuller -/
theorem wear_block_fuller_c {A : Nat → Prop} {b0 : wear_block} {c0 : wear_block}  {r : Int} (w : World) (v0 v1 : Value) (hA : ∀ k, w.heap.size ≤ k → A k)  (h0 : (D (b0 : wear_block)).p A w v0) (h1 : (D (c0 : wear_block)).p A w v1) (H : wear_block_fuller b0 c0 = some r) :
    Calls Try.prog 39 #[v0, v1] w (Ret A w (D (r : Int))) := by
  unfold wear_block_fuller at H
  refine enter2 hA Try.func39 rfl Try.ntmps39 rfl h0 h1 ?_
  refine TC.seqS ?_
  refine TS.box rfl fun b2_0 => ?_
  refine TS.box rfl fun b3_1 => ?_
  refine TS.s OpY.assign rfl ?_
  refine TS.nil ?_
  refine TE.then ?_
  refine TC.kp [2, 3] [b2_0, b3_1] ?_
  refine TC.seqS ?_
  refine TS.s OpY.fieldAddr rfl ?_
  refine TS.s OpY.fieldAddr rfl ?_
  refine TS.s (OpD.ldq (Pl.fld (off := 1) (α := Wear) (β := Int) (Pl.fld (off := 0) (α := wear_block) (β := Wear) Pl.one))) rfl ?_
  refine TS.s OpY.fieldAddr rfl ?_
  refine TS.s OpY.fieldAddr rfl ?_
  refine TS.s (OpD.ldq (Pl.fld (off := 1) (α := Wear) (β := Int) (Pl.fld (off := 0) (α := wear_block) (β := Wear) Pl.one))) rfl ?_
  obtain ⟨x_3, ex_3, H⟩ := bnd H
  refine TS.s (OpY.call2 fun w v0 v1 hA h0 h1 => cmp_Compare_int_c w v0 v1 hA (toD h0) (toD h1) ex_3) rfl ?_
  refine TS.s OpY.assign rfl ?_
  refine TS.nil ?_
  refine TE.then ?_
  refine TC.kp [4] [] ?_
  refine TC.ret ?_
  obtain rfl := (Option.some.inj H)
  exact TE.ret1 rfl Cv.le
instance {Γ : Env} : Has Γ (.func 39) (D (⟨wear_block_fuller⟩ : F2 Try.prog wear_block wear_block Int)) := ⟨fun a A w _ => F2.const (P := Try.prog) (f := 39) fun w v0 v1 hA h0 h1 e => wear_block_fuller_c w v0 v1 hA h0 h1 e⟩
def wear_block_free (b0 : wear_block) : Option Bool :=
  some ((!b0.Wear.Bad) && (decide (b0.Wear.Used < b0.pages)))
/--  wear.block .free -/
theorem wear_block_free_c {A : Nat → Prop} {b0 : wear_block}  {r : Bool} (w : World) (v0 : Value) (hA : ∀ k, w.heap.size ≤ k → A k)  (h0 : (D (b0 : wear_block)).p A w v0) (H : wear_block_free b0 = some r) :
    Calls Try.prog 38 #[v0] w (Ret A w (D (r : Bool))) := by
  unfold wear_block_free at H
  refine enter1 hA Try.func38 rfl Try.ntmps38 rfl h0 ?_
  refine TC.seqS ?_
  refine TS.box rfl fun b1_0 => ?_
  refine TS.s OpY.assign rfl ?_
  refine TS.nil ?_
  refine TE.then ?_
  refine TC.kp [1] [b1_0] ?_
  refine TC.seqS ?_
  refine TS.s OpY.fieldAddr rfl ?_
  refine TS.s OpY.fieldAddr rfl ?_
  refine TS.s (OpD.ldq (Pl.fld (off := 3) (α := Wear) (β := Bool) (Pl.fld (off := 0) (α := wear_block) (β := Wear) Pl.one))) rfl ?_
  refine TS.s OpY.notB rfl ?_
  refine TS.s OpY.move rfl ?_
  refine TS.g 7 rfl (fun hg => OpY.fieldAddr) rfl ?_
  refine TS.g 7 rfl (fun hg => OpY.fieldAddr) rfl ?_
  refine TS.g 7 rfl (fun hg => (OpD.ldq (Pl.fld (off := 1) (α := Wear) (β := Int) (Pl.fld (off := 0) (α := wear_block) (β := Wear) Pl.one)))) rfl ?_
  refine TS.g 7 rfl (fun hg => OpY.fieldAddr) rfl ?_
  refine TS.g 7 rfl (fun hg => (OpD.ldq (Pl.fld (off := 4) (α := wear_block) (β := Int) Pl.one))) rfl ?_
  refine TS.g 7 rfl (fun hg => OpY.lss) rfl ?_
  refine TS.s OpY.pickAnd rfl ?_
  refine TS.s OpY.assign rfl ?_
  refine TS.nil ?_
  refine TE.then ?_
  refine TC.kp [2] [] ?_
  refine TC.ret ?_
  obtain rfl := (Option.some.inj H)
  exact TE.ret1 rfl Cv.le
instance {Γ : Env} : Has Γ (.func 38) (D (⟨wear_block_free⟩ : F1 Try.prog wear_block Bool)) := ⟨fun a A w _ => F1.const (P := Try.prog) (f := 38) fun w v0 hA h0 e => wear_block_free_c w v0 hA h0 e⟩
def wear_Front (l0 : (List Wear)) (pages0 : Int) : Option (Int × Bool) :=
  (wear_first l0 pages0 (⟨wear_block_free⟩ : (F1 Try.prog wear_block Bool)) ([(⟨wear_block_fuller⟩ : (F2 Try.prog wear_block wear_block Int)), (⟨wear_block_fresher⟩ : (F2 Try.prog wear_block wear_block Int))] : List (F2 Try.prog wear_block wear_block Int))).bind fun r_1 => some (r_1.1, r_1.2)
/-- wear.Front -/
theorem wear_Front_c {A : Nat → Prop} {l0 : (List Wear)} {pages0 : Int}  {r : (Int × Bool)} (w : World) (v0 v1 : Value) (hA : ∀ k, w.heap.size ≤ k → A k)  (h0 : (D (l0 : (List Wear))).p A w v0) (h1 : (D (pages0 : Int)).p A w v1) (H : wear_Front l0 pages0 = some r) :
    Calls Try.prog 23 #[v0, v1] w (Ret A w (Tup [D (r.1 : Int), D (r.2 : Bool)])) := by
  unfold wear_Front at H
  refine enter2 hA Try.func23 rfl Try.ntmps23 rfl h0 h1 ?_
  refine TC.seqS ?_
  refine TS.s OpY.assign rfl ?_
  refine TS.s OpY.assign rfl ?_
  refine TS.nil ?_
  refine TE.then ?_
  refine TC.kp [0, 1] [] ?_
  refine TC.seqS ?_
  refine TS.s OpY.move rfl ?_
  refine TS.s OpY.move rfl ?_
  refine TS.s (OpY.buildSlice [.func 39, .func 40] rfl rfl (by decide)) rfl ?_
  obtain ⟨r_1, er_1, H⟩ := bnd H
  refine TS.s (OpY.call4 fun w v0 v1 v2 v3 hA h0 h1 h2 h3 => wear_first_c w v0 v1 v2 v3 hA (toD h0) (toD h1) (toD h2) (toD h3) er_1) rfl ?_
  refine TS.s (OpY.extract rfl) rfl ?_
  refine TS.s (OpY.extract rfl) rfl ?_
  refine TS.s OpY.assign rfl ?_
  refine TS.s OpY.assign rfl ?_
  refine TS.nil ?_
  refine TE.then ?_
  refine TC.kp [4, 5] [] ?_
  refine TC.ret ?_
  obtain rfl := (Option.some.inj H)
  exact TE.retN rfl rfl (.cons Cv.le (.cons Cv.le .nil))
def wear_Room_l1 (l0 : (List Wear)) (pages0 : Int) (room_4 : Int) (x_5 : Int) : Option ((Int × Int) ⊕ Int) :=
  bif (decide (x_5 < (l0.length : Int))) then (((idx l0 x_5).bind fun x_9 => (some ((⟨x_9, pages0⟩ : wear_block) : wear_block)).bind fun b_12 => (wear_block_dead b_12).bind fun x_13 => bif x_13 then ((addI room_4 pages0).bind fun x_14 => some x_14) else ((wear_block_free b_12).bind fun x_15 => bif x_15 then ((subI pages0 b_12.Wear.Used).bind fun x_16 => (addI room_4 x_16).bind fun x_17 => some x_17) else (some room_4))).bind fun room_7 => (addI x_5 (1 : Int)).bind fun x_18 => some (.inl (room_7, x_18))) else (some (.inr room_4))
def wear_Room (l0 : (List Wear)) (pages0 : Int) : Option Int :=
  (wear_Right l0 pages0).bind fun x_1 => bif (!x_1) then (some (0 : Int)) else ((loopO (fun s => wear_Room_l1 l0 pages0 s.1 s.2) ((0 : Int), (0 : Int))).bind fun room_2 => some room_2)
/-- wear.Room -/
theorem wear_Room_c {A : Nat → Prop} {l0 : (List Wear)} {pages0 : Int}  {r : Int} (w : World) (v0 v1 : Value) (hA : ∀ k, w.heap.size ≤ k → A k)  (h0 : (D (l0 : (List Wear))).p A w v0) (h1 : (D (pages0 : Int)).p A w v1) (H : wear_Room l0 pages0 = some r) :
    Calls Try.prog 29 #[v0, v1] w (Ret A w (D (r : Int))) := by
  unfold wear_Room at H
  refine enter2 hA Try.func29 rfl Try.ntmps29 rfl h0 h1 ?_
  refine TC.seqS ?_
  refine TS.s OpY.assign rfl ?_
  refine TS.nil ?_
  refine TE.then ?_
  refine TC.kp [0, 1] [] ?_
  refine TC.seq ?_
  refine TC.seqS ?_
  refine TS.s OpY.move rfl ?_
  refine TS.s OpY.move rfl ?_
  obtain ⟨x_1, ex_1, H⟩ := bnd H
  refine TS.s (OpY.call2 fun w v0 v1 hA h0 h1 => wear_Right_c w v0 v1 hA (toD h0) (toD h1) ex_1) rfl ?_
  refine TS.s OpY.notB rfl ?_
  refine TS.nil ?_
  refine TE.then ?_
  refine TC.kp [0, 1, 12] [] ?_
  refine TC.cond (fun hc => ?_) (fun hc => ?_)
  · replace H := cT H hc
    refine TC.seqS ?_
    refine TS.s OpY.assign rfl ?_
    refine TS.nil ?_
    refine TE.then ?_
    refine TC.kp [4] [] ?_
    refine TC.ret ?_
    refine TE.then_ret ?_
    obtain rfl := (Option.some.inj H)
    exact TE.ret1 rfl Cv.le
  · replace H := cF H hc
    refine TC.skip ?_
    refine TE.then ?_
    refine TC.kp [0, 1] [] ?_
    refine TC.seqS ?_
    refine TS.s OpY.assign rfl ?_
    refine TS.nil ?_
    refine TE.then ?_
    refine TC.kp [0, 1, 5] [] ?_
    refine TC.seq ?_
    refine TC.seqS ?_
    refine TS.s OpY.move rfl ?_
    refine TS.s OpD.len rfl ?_
    refine TS.s OpY.move rfl ?_
    refine TS.nil ?_
    refine TE.then ?_
    refine TC.kp [1, 5, 13, 14, 15] [] ?_
    obtain ⟨o_3, H3, H⟩ := bnd H
    refine TC.cutP (fun s : Int => o_3 = s) (fun (room_2 : Int) (_ : Unit) => (Env.set Env.nil 5 (D (room_2 : Int)))) (fun (room_2 : Int) (_ : Unit) => []) ?_ ?_
    · skip
      refine TC.block ?_
      refine TC.loopP H3 (fun ⟨room_4, x_5⟩ (_ : Unit) => (Env.set (Env.set (Env.set (Env.set (Env.set Env.nil 1 (D (pages0 : Int))) 5 (D (room_4 : Int))) 13 (D (l0 : (List Wear)))) 14 (D ((l0.length : Int) : Int))) 15 (D (x_5 : Int)))) (fun ⟨room_4, x_5⟩ (_ : Unit) => []) () (Env.cv (Env.cv (Env.cv (Env.cv (Env.cv (Env.le_nil _)))))) (Less.nil _) ?_
      rintro ⟨room_4, x_5⟩ ⟨⟩ x_6 H6 he6
      replace H6 : wear_Room_l1 l0 pages0 room_4 x_5 = some x_6 := H6
      unfold wear_Room_l1 at H6
      refine TC.seqS ?_
      refine TS.s OpY.lss rfl ?_
      refine TS.nil ?_
      refine TE.then ?_
      refine TC.kp [1, 5, 13, 14, 15, 16] [] ?_
      refine TC.seq ?_
      refine TC.cond (fun hc => ?_) (fun hc => ?_)
      · replace H6 := cT H6 hc
        refine TC.skip ?_
        refine TE.then ?_
        refine TC.kp [1, 5, 13, 14, 15] [] ?_
        refine TC.seq ?_
        obtain ⟨o_8, H8, H6⟩ := bnd H6
        refine TC.cutP (fun s : Int => o_8 = s) (fun (room_7 : Int) (_ : Unit) => (Env.set (Env.set (Env.set (Env.set (Env.set Env.nil 1 (D (pages0 : Int))) 5 (D (room_7 : Int))) 13 (D (l0 : (List Wear)))) 14 (D ((l0.length : Int) : Int))) 15 (D (x_5 : Int)))) (fun (room_7 : Int) (_ : Unit) => []) ?_ ?_
        · skip
          refine TC.block ?_
          refine TC.seqS ?_
          obtain ⟨x_9, ex_9, H8⟩ := bnd H8
          refine TS.s (OpD.index ex_9) rfl ?_
          refine TS.s OpY.load rfl ?_
          refine TS.alloc (α := Wear) rfl fun b7_9 => ?_
          refine TS.un (OpT.storeq (y := (x_9 : Wear)) Pl.one) ?_
          refine TS.nil ?_
          refine TE.then ?_
          refine TC.kp [1, 5, 7, 13, 14, 15] [b7_9] ?_
          refine TC.seqS ?_
          refine TS.s (OpD.ldq Pl.one) rfl ?_
          refine TS.s OpY.move rfl ?_
          refine TS.s (OpY.buildAs (⟨x_9, pages0⟩ : wear_block) rfl ⟨_, Try.underlying68, by kernel_rfl⟩ rfl rfl) rfl ?_
          refine TS.alloc (α := wear_block) rfl fun b8_10 => ?_
          refine TS.un (OpT.storeq (y := ((⟨x_9, pages0⟩ : wear_block) : wear_block)) Pl.one) ?_
          refine TS.nil ?_
          refine TE.then ?_
          refine TC.kp [1, 5, 8, 13, 14, 15] [b8_10] ?_
          obtain ⟨b_12, eb_12, H8⟩ := bnd H8
          refine TC.nmB b8_10 (nm_one eb_12) ?_
          refine TC.block ?_
          refine TC.seqS ?_
          refine TS.s (OpD.ldq Pl.one) rfl ?_
          obtain ⟨x_13, ex_13, H8⟩ := bnd H8
          refine TS.s (OpY.call1 fun w v0 hA h0 => wear_block_dead_c w v0 hA (toD h0) ex_13) rfl ?_
          refine TS.s OpY.assign rfl ?_
          refine TS.nil ?_
          refine TE.then ?_
          refine TC.kp [1, 5, 8, 13, 14, 15, 22] [b8_10] ?_
          refine TC.cond (fun hc => ?_) (fun hc => ?_)
          · replace H8 := cT H8 hc
            refine TC.regionS ?_
            refine TS.s OpY.move rfl ?_
            refine TS.s OpY.move rfl ?_
            obtain ⟨x_14, ex_14, H8⟩ := bnd H8
            refine TS.s (OpD.add ex_14) rfl ?_
            refine TS.s OpY.assign rfl ?_
            refine TS.nil ?_
            refine TE.kp [1, 5, 13, 14, 15] [] ?_
            refine TE.inBlock_normal ?_
            refine TE.inBlock_normal ?_
            exact TE.cutP x_14 () (Option.some.inj H8).symm (Env.cv (Env.cv (Env.cv (Env.cv (Env.cv (Env.le_nil _)))))) (Less.nil _)
          · replace H8 := cF H8 hc
            refine TC.seqS ?_
            refine TS.s (OpD.ldq Pl.one) rfl ?_
            obtain ⟨x_15, ex_15, H8⟩ := bnd H8
            refine TS.s (OpY.call1 fun w v0 hA h0 => wear_block_free_c w v0 hA (toD h0) ex_15) rfl ?_
            refine TS.s OpY.assign rfl ?_
            refine TS.nil ?_
            refine TE.then ?_
            refine TC.kp [1, 5, 8, 13, 14, 15, 28] [b8_10] ?_
            refine TC.cond (fun hc => ?_) (fun hc => ?_)
            · replace H8 := cT H8 hc
              refine TC.regionS ?_
              refine TS.s OpY.move rfl ?_
              refine TS.s OpY.move rfl ?_
              refine TS.s OpY.fieldAddr rfl ?_
              refine TS.s OpY.fieldAddr rfl ?_
              refine TS.s (OpD.ldq (Pl.fld (off := 1) (α := Wear) (β := Int) (Pl.fld (off := 0) (α := wear_block) (β := Wear) Pl.one))) rfl ?_
              obtain ⟨x_16, ex_16, H8⟩ := bnd H8
              refine TS.s (OpD.sub ex_16) rfl ?_
              obtain ⟨x_17, ex_17, H8⟩ := bnd H8
              refine TS.s (OpD.add ex_17) rfl ?_
              refine TS.s OpY.assign rfl ?_
              refine TS.nil ?_
              refine TE.kp [1, 5, 13, 14, 15] [] ?_
              refine TE.inBlock_normal ?_
              refine TE.inBlock_normal ?_
              exact TE.cutP x_17 () (Option.some.inj H8).symm (Env.cv (Env.cv (Env.cv (Env.cv (Env.cv (Env.le_nil _)))))) (Less.nil _)
            · replace H8 := cF H8 hc
              refine TC.skip ?_
              refine TE.inBlock_normal ?_
              refine TE.inBlock_normal ?_
              exact TE.cutP room_4 () (Option.some.inj H8).symm (Env.cv (Env.cv (Env.cv (Env.cv (Env.cv (Env.le_nil _)))))) (Less.nil _)
        rintro room_7 ⟨⟩ hp
        replace hp := hp.symm
        subst hp
        refine TE.then ?_
        refine TC.kp [1, 5, 13, 14, 15] [] ?_
        refine TC.regionS ?_
        obtain ⟨x_18, ex_18, H6⟩ := bnd H6
        refine TS.s (OpD.add ex_18) rfl ?_
        refine TS.s OpY.move rfl ?_
        refine TS.nil ?_
        refine TE.kp [1, 5, 13, 14, 15] [] ?_
        exact TE.backP ⟨room_7, x_18⟩ () (Option.some.inj H6).symm (Env.cv (Env.cv (Env.cv (Env.cv (Env.cv (Env.le_nil _)))))) (Less.nil _)
      · replace H6 := cF H6 hc
        refine TC.exit ?_
        refine TE.then_exit ?_
        refine TE.then_exit ?_
        refine TE.inBlock_here ?_
        exact TE.cutP room_4 () (he6 _ (Option.some.inj H6).symm).symm (Env.cv (Env.le_nil _)) (Less.nil _)
    rintro room_2 ⟨⟩ hp
    replace hp := hp.symm
    subst hp
    refine TE.then ?_
    refine TC.kp [5] [] ?_
    refine TC.seqS ?_
    refine TS.s OpY.move rfl ?_
    refine TS.s OpY.assign rfl ?_
    refine TS.nil ?_
    refine TE.then ?_
    refine TC.kp [4] [] ?_
    refine TC.ret ?_
    obtain rfl := (Option.some.inj H)
    exact TE.ret1 rfl Cv.le
def wear_Spread_l1 (l0 : (List Wear)) (least_5 : Int) (most_6 : Int) (found_7 : Bool) (x_8 : Int) : Option ((Int × Int × Bool × Int) ⊕ (Int × Int)) :=
  bif (decide (x_8 < (l0.length : Int))) then (((idx l0 x_8).bind fun x_14 => bif x_14.Bad then (some (least_5, most_6, found_7)) else ((bif (!found_7) then (some (x_14.Worn, x_14.Worn, true)) else (some (least_5, most_6, found_7))).bind fun o_19 => el3 o_19 (fun least_16 most_17 found_18 => some ((min least_16 x_14.Worn), (max most_17 x_14.Worn), found_18)))).bind fun o_13 => el3 o_13 (fun least_10 most_11 found_12 => (addI x_8 (1 : Int)).bind fun x_20 => some (.inl (least_10, most_11, found_12, x_20)))) else (some (.inr (least_5, most_6)))
def wear_Spread (l0 : (List Wear)) : Option Int :=
  (wear_Right l0 (16 : Int)).bind fun x_1 => bif (!x_1) then (some (0 : Int)) else ((loopO (fun s => wear_Spread_l1 l0 s.1 s.2.1 s.2.2.1 s.2.2.2) ((0 : Int), (0 : Int), false, (0 : Int))).bind fun o_4 => el2 o_4 (fun least_2 most_3 => (subI most_3 least_2).bind fun x_21 => some x_21))
/-- wear.Spread -/
theorem wear_Spread_c {A : Nat → Prop} {l0 : (List Wear)}  {r : Int} (w : World) (v0 : Value) (hA : ∀ k, w.heap.size ≤ k → A k)  (h0 : (D (l0 : (List Wear))).p A w v0) (H : wear_Spread l0 = some r) :
    Calls Try.prog 31 #[v0] w (Ret A w (D (r : Int))) := by
  unfold wear_Spread at H
  refine enter1 hA Try.func31 rfl Try.ntmps31 rfl h0 ?_
  refine TC.seqS ?_
  refine TS.s OpY.assign rfl ?_
  refine TS.nil ?_
  refine TE.then ?_
  refine TC.kp [0] [] ?_
  refine TC.seq ?_
  refine TC.seqS ?_
  refine TS.s OpY.move rfl ?_
  obtain ⟨x_1, ex_1, H⟩ := bnd H
  refine TS.s (OpY.call2 fun w v0 v1 hA h0 h1 => wear_Right_c w v0 v1 hA (toD h0) (toD h1) ex_1) rfl ?_
  refine TS.s OpY.notB rfl ?_
  refine TS.nil ?_
  refine TE.then ?_
  refine TC.kp [0, 10] [] ?_
  refine TC.cond (fun hc => ?_) (fun hc => ?_)
  · replace H := cT H hc
    refine TC.seqS ?_
    refine TS.s OpY.assign rfl ?_
    refine TS.nil ?_
    refine TE.then ?_
    refine TC.kp [2] [] ?_
    refine TC.ret ?_
    refine TE.then_ret ?_
    obtain rfl := (Option.some.inj H)
    exact TE.ret1 rfl Cv.le
  · replace H := cF H hc
    refine TC.skip ?_
    refine TE.then ?_
    refine TC.kp [0] [] ?_
    refine TC.seqS ?_
    refine TS.s OpY.assign rfl ?_
    refine TS.s OpY.assign rfl ?_
    refine TS.s OpY.assign rfl ?_
    refine TS.nil ?_
    refine TE.then ?_
    refine TC.kp [0, 3, 4, 5] [] ?_
    refine TC.seq ?_
    refine TC.seqS ?_
    refine TS.s OpY.move rfl ?_
    refine TS.s OpD.len rfl ?_
    refine TS.s OpY.move rfl ?_
    refine TS.nil ?_
    refine TE.then ?_
    refine TC.kp [3, 4, 5, 11, 12, 13] [] ?_
    obtain ⟨o_4, H4, H⟩ := bnd H
    refine TC.cutP (fun s : (Int × Int) => o_4 = s) (fun ⟨least_2, most_3⟩ (_ : Unit) => (Env.set (Env.set Env.nil 3 (D (least_2 : Int))) 4 (D (most_3 : Int)))) (fun ⟨least_2, most_3⟩ (_ : Unit) => []) ?_ ?_
    · skip
      refine TC.block ?_
      refine TC.loopP H4 (fun ⟨least_5, most_6, found_7, x_8⟩ (_ : Unit) => (Env.set (Env.set (Env.set (Env.set (Env.set (Env.set Env.nil 3 (D (least_5 : Int))) 4 (D (most_6 : Int))) 5 (D (found_7 : Bool))) 11 (D (l0 : (List Wear)))) 12 (D ((l0.length : Int) : Int))) 13 (D (x_8 : Int)))) (fun ⟨least_5, most_6, found_7, x_8⟩ (_ : Unit) => []) () (Env.cv (Env.cv (Env.cv (Env.cv (Env.cv (Env.cv (Env.le_nil _))))))) (Less.nil _) ?_
      rintro ⟨least_5, most_6, found_7, x_8⟩ ⟨⟩ x_9 H9 he9
      replace H9 : wear_Spread_l1 l0 least_5 most_6 found_7 x_8 = some x_9 := H9
      unfold wear_Spread_l1 at H9
      refine TC.seqS ?_
      refine TS.s OpY.lss rfl ?_
      refine TS.nil ?_
      refine TE.then ?_
      refine TC.kp [3, 4, 5, 11, 12, 13, 14] [] ?_
      refine TC.seq ?_
      refine TC.cond (fun hc => ?_) (fun hc => ?_)
      · replace H9 := cT H9 hc
        refine TC.skip ?_
        refine TE.then ?_
        refine TC.kp [3, 4, 5, 11, 12, 13] [] ?_
        refine TC.seq ?_
        obtain ⟨o_13, H13, H9⟩ := bnd H9
        refine TC.cutP (fun s : (Int × Int × Bool) => o_13 = s) (fun ⟨least_10, most_11, found_12⟩ (_ : Unit) => (Env.set (Env.set (Env.set (Env.set (Env.set (Env.set Env.nil 3 (D (least_10 : Int))) 4 (D (most_11 : Int))) 5 (D (found_12 : Bool))) 11 (D (l0 : (List Wear)))) 12 (D ((l0.length : Int) : Int))) 13 (D (x_8 : Int)))) (fun ⟨least_10, most_11, found_12⟩ (_ : Unit) => []) ?_ ?_
        · skip
          refine TC.block ?_
          refine TC.seqS ?_
          obtain ⟨x_14, ex_14, H13⟩ := bnd H13
          refine TS.s (OpD.index ex_14) rfl ?_
          refine TS.s OpY.load rfl ?_
          refine TS.alloc (α := Wear) rfl fun b7_14 => ?_
          refine TS.un (OpT.storeq (y := (x_14 : Wear)) Pl.one) ?_
          refine TS.nil ?_
          refine TE.then ?_
          refine TC.kp [3, 4, 5, 7, 11, 12, 13] [b7_14] ?_
          refine TC.seq ?_
          refine TC.seqS ?_
          refine TS.s OpY.fieldAddr rfl ?_
          refine TS.s (OpD.ldq (Pl.fld (off := 3) (α := Wear) (β := Bool) Pl.one)) rfl ?_
          refine TS.nil ?_
          refine TE.then ?_
          refine TC.kp [3, 4, 5, 7, 11, 12, 13, 18] [b7_14] ?_
          refine TC.cond (fun hc => ?_) (fun hc => ?_)
          · replace H13 := cT H13 hc
            refine TC.exit ?_
            refine TE.then_exit ?_
            refine TE.inBlock_here ?_
            exact TE.cutP ⟨least_5, most_6, found_7⟩ () (Option.some.inj H13).symm (Env.cv (Env.cv (Env.cv (Env.cv (Env.cv (Env.cv (Env.le_nil _))))))) (Less.nil _)
          · replace H13 := cF H13 hc
            refine TC.skip ?_
            refine TE.then ?_
            refine TC.kp [3, 4, 5, 7, 11, 12, 13] [b7_14] ?_
            refine TC.seq ?_
            obtain ⟨o_19, H19, H13⟩ := bnd H13
            refine TC.cutP (fun s : (Int × Int × Bool) => o_19 = s) (fun ⟨least_16, most_17, found_18⟩ (_ : Unit) => (Env.set (Env.set (Env.set (Env.set (Env.set (Env.set (Env.set Env.nil 3 (D (least_16 : Int))) 4 (D (most_17 : Int))) 5 (D (found_18 : Bool))) 7 (Pt b7_14 0)) 11 (D (l0 : (List Wear)))) 12 (D ((l0.length : Int) : Int))) 13 (D (x_8 : Int)))) (fun ⟨least_16, most_17, found_18⟩ (_ : Unit) => [⟨b7_14, True, (One (x_14 : Wear))⟩]) ?_ ?_
            · skip
              refine TC.seqS ?_
              refine TS.s OpY.move rfl ?_
              refine TS.s OpY.notB rfl ?_
              refine TS.nil ?_
              refine TE.then ?_
              refine TC.kp [3, 4, 5, 7, 11, 12, 13, 20] [b7_14] ?_
              refine TC.cond (fun hc => ?_) (fun hc => ?_)
              · replace H19 := cT H19 hc
                refine TC.regD0 mix (by kernel_rfl) ?_
                refine TR.s OpY.fieldAddr rfl ?_
                refine TR.s (OpD.ldq (Pl.fld (off := 2) (α := Wear) (β := Int) Pl.one)) rfl ?_
                refine TR.s OpY.fieldAddr rfl ?_
                refine TR.s (OpD.ldq (Pl.fld (off := 2) (α := Wear) (β := Int) Pl.one)) rfl ?_
                refine TR.s OpY.assign rfl ?_
                refine TR.s OpY.assign rfl ?_
                refine TR.s OpY.assign rfl ?_
                refine TR.nil ?_
                refine TE.kp [3, 4, 5, 7, 11, 12, 13] [b7_14] ?_
                exact TE.cutP ⟨x_14.Worn, x_14.Worn, true⟩ () (Option.some.inj H19).symm (Env.cv (Env.cv (Env.cv (Env.cv (Env.cv (Env.cv (Env.cv (Env.le_nil _)))))))) (Less.pk rfl (Less.nil _))
              · replace H19 := cF H19 hc
                refine TC.skip ?_
                exact TE.cutP ⟨least_5, most_6, found_7⟩ () (Option.some.inj H19).symm (Env.cv (Env.cv (Env.cv (Env.cv (Env.cv (Env.cv (Env.cv (Env.le_nil _)))))))) (Less.pk rfl (Less.nil _))
            rintro ⟨least_16, most_17, found_18⟩ ⟨⟩ hp
            replace hp := hp.symm
            subst hp
            replace H13 := el3_mk H13
            refine TE.then ?_
            refine TC.kp [3, 4, 5, 7, 11, 12, 13] [b7_14] ?_
            refine TC.regD0 mix (by kernel_rfl) ?_
            refine TR.s OpY.move rfl ?_
            refine TR.s OpY.fieldAddr rfl ?_
            refine TR.s (OpD.ldq (Pl.fld (off := 2) (α := Wear) (β := Int) Pl.one)) rfl ?_
            refine TR.s OpD.min rfl ?_
            refine TR.s OpY.move rfl ?_
            refine TR.s OpY.fieldAddr rfl ?_
            refine TR.s (OpD.ldq (Pl.fld (off := 2) (α := Wear) (β := Int) Pl.one)) rfl ?_
            refine TR.s OpD.max rfl ?_
            refine TR.s OpY.assign rfl ?_
            refine TR.s OpY.assign rfl ?_
            refine TR.nil ?_
            refine TE.kp [3, 4, 5, 11, 12, 13] [] ?_
            refine TE.inBlock_normal ?_
            exact TE.cutP ⟨(min least_16 x_14.Worn), (max most_17 x_14.Worn), found_18⟩ () (Option.some.inj H13).symm (Env.cv (Env.cv (Env.cv (Env.cv (Env.cv (Env.cv (Env.le_nil _))))))) (Less.nil _)
        rintro ⟨least_10, most_11, found_12⟩ ⟨⟩ hp
        replace hp := hp.symm
        subst hp
        replace H9 := el3_mk H9
        refine TE.then ?_
        refine TC.kp [3, 4, 5, 11, 12, 13] [] ?_
        refine TC.regionS ?_
        obtain ⟨x_20, ex_20, H9⟩ := bnd H9
        refine TS.s (OpD.add ex_20) rfl ?_
        refine TS.s OpY.move rfl ?_
        refine TS.nil ?_
        refine TE.kp [3, 4, 5, 11, 12, 13] [] ?_
        exact TE.backP ⟨least_10, most_11, found_12, x_20⟩ () (Option.some.inj H9).symm (Env.cv (Env.cv (Env.cv (Env.cv (Env.cv (Env.cv (Env.le_nil _))))))) (Less.nil _)
      · replace H9 := cF H9 hc
        refine TC.exit ?_
        refine TE.then_exit ?_
        refine TE.then_exit ?_
        refine TE.inBlock_here ?_
        exact TE.cutP ⟨least_5, most_6⟩ () (he9 _ (Option.some.inj H9).symm).symm (Env.cv (Env.cv (Env.le_nil _))) (Less.nil _)
    rintro ⟨least_2, most_3⟩ ⟨⟩ hp
    replace hp := hp.symm
    subst hp
    replace H := el2_mk H
    refine TE.then ?_
    refine TC.kp [3, 4] [] ?_
    refine TC.seqS ?_
    refine TS.s OpY.move rfl ?_
    refine TS.s OpY.move rfl ?_
    obtain ⟨x_21, ex_21, H⟩ := bnd H
    refine TS.s (OpD.sub ex_21) rfl ?_
    refine TS.s OpY.assign rfl ?_
    refine TS.nil ?_
    refine TE.then ?_
    refine TC.kp [2] [] ?_
    refine TC.ret ?_
    obtain rfl := (Option.some.inj H)
    exact TE.ret1 rfl Cv.le
def bywaylaw09_awake : Option Bool :=
  (some (([(⟨0, (2 : Int), (3 : Int), false⟩ : Wear), (⟨0, (2 : Int), (2 : Int), false⟩ : Wear), (⟨(1 : Int), (2 : Int), (9 : Int), false⟩ : Wear), (⟨(1 : Int), (1 : Int), 0, false⟩ : Wear)] : List Wear) : (List Wear))).bind fun l_1 => (wear_Dead l_1 (2 : Int)).bind fun r_2 => (wear_Victim l_1 (2 : Int)).bind fun r_3 => (wear_Front l_1 (2 : Int)).bind fun r_4 => (wear_Right l_1 (2 : Int)).bind fun x_5 => (gb ((((((x_5 && r_2.2) && (decide (r_2.1 = (1 : Int)))) && r_3.2) && (decide (r_3.1 = (2 : Int)))) && r_4.2) && (decide (r_4.1 = (3 : Int)))) (wear_Room l_1 (2 : Int))).bind fun x_6 => (gb (((((((x_5 && r_2.2) && (decide (r_2.1 = (1 : Int)))) && r_3.2) && (decide (r_3.1 = (2 : Int)))) && r_4.2) && (decide (r_4.1 = (3 : Int)))) && (decide (x_6 = (5 : Int)))) (wear_Spread l_1)).bind fun x_7 => some ((((((((x_5 && r_2.2) && (decide (r_2.1 = (1 : Int)))) && r_3.2) && (decide (r_3.1 = (2 : Int)))) && r_4.2) && (decide (r_4.1 = (3 : Int)))) && (decide (x_6 = (5 : Int)))) && (decide (x_7 = (9 : Int))))
/-- bywaylaw09.awake -/
theorem bywaylaw09_awake_c {A : Nat → Prop}   {r : Bool} (w : World)  (hA : ∀ k, w.heap.size ≤ k → A k)   (H : bywaylaw09_awake = some r) :
    Calls Try.prog 22 #[] w (Ret A w (D (r : Bool))) := by
  unfold bywaylaw09_awake at H
  refine enter0 hA Try.func22 rfl Try.ntmps22 rfl  ?_
  refine TC.seqS ?_
  refine TS.s OpY.assign rfl ?_
  refine TS.nil ?_
  refine TE.then ?_
  refine TC.kp [] [] ?_
  refine TC.seqS ?_
  refine TS.s (OpY.buildAs (⟨0, (2 : Int), (3 : Int), false⟩ : Wear) rfl ⟨_, Try.underlying59, by kernel_rfl⟩ rfl rfl) rfl ?_
  refine TS.s (OpY.buildAs (⟨0, (2 : Int), (2 : Int), false⟩ : Wear) rfl ⟨_, Try.underlying59, by kernel_rfl⟩ rfl rfl) rfl ?_
  refine TS.s (OpY.buildAs (⟨(1 : Int), (2 : Int), (9 : Int), false⟩ : Wear) rfl ⟨_, Try.underlying59, by kernel_rfl⟩ rfl rfl) rfl ?_
  refine TS.s (OpY.buildAs (⟨(1 : Int), (1 : Int), 0, false⟩ : Wear) rfl ⟨_, Try.underlying59, by kernel_rfl⟩ rfl rfl) rfl ?_
  refine TS.s (OpY.buildSlice [.tmp 8, .tmp 9, .tmp 10, .tmp 11] rfl rfl (by decide)) rfl ?_
  refine TS.s OpY.assign rfl ?_
  refine TS.nil ?_
  refine TE.then ?_
  refine TC.kp [1] [] ?_
  obtain ⟨l_1, el_1, H⟩ := bnd H
  refine TC.see 1 (D (l_1 : (List Wear))) (nm_cv el_1) ?_
  refine TC.seqS ?_
  refine TS.s OpY.move rfl ?_
  obtain ⟨r_2, er_2, H⟩ := bnd H
  refine TS.s (OpY.call2 fun w v0 v1 hA h0 h1 => wear_Dead_c w v0 v1 hA (toD h0) (toD h1) er_2) rfl ?_
  refine TS.s OpY.move rfl ?_
  refine TS.s (OpY.extract rfl) rfl ?_
  refine TS.s (OpY.extract rfl) rfl ?_
  refine TS.s OpY.assign rfl ?_
  refine TS.s OpY.assign rfl ?_
  refine TS.nil ?_
  refine TE.then ?_
  refine TC.kp [1, 2, 3] [] ?_
  refine TC.seqS ?_
  refine TS.s OpY.move rfl ?_
  obtain ⟨r_3, er_3, H⟩ := bnd H
  refine TS.s (OpY.call2 fun w v0 v1 hA h0 h1 => wear_Victim_c w v0 v1 hA (toD h0) (toD h1) er_3) rfl ?_
  refine TS.s OpY.move rfl ?_
  refine TS.s (OpY.extract rfl) rfl ?_
  refine TS.s (OpY.extract rfl) rfl ?_
  refine TS.s OpY.assign rfl ?_
  refine TS.s OpY.assign rfl ?_
  refine TS.nil ?_
  refine TE.then ?_
  refine TC.kp [1, 2, 3, 4, 5] [] ?_
  refine TC.seqS ?_
  refine TS.s OpY.move rfl ?_
  obtain ⟨r_4, er_4, H⟩ := bnd H
  refine TS.s (OpY.call2 fun w v0 v1 hA h0 h1 => wear_Front_c w v0 v1 hA (toD h0) (toD h1) er_4) rfl ?_
  refine TS.s OpY.move rfl ?_
  refine TS.s (OpY.extract rfl) rfl ?_
  refine TS.s (OpY.extract rfl) rfl ?_
  refine TS.s OpY.assign rfl ?_
  refine TS.s OpY.assign rfl ?_
  refine TS.nil ?_
  refine TE.then ?_
  refine TC.kp [1, 2, 3, 4, 5, 6, 7] [] ?_
  refine TC.seqS ?_
  refine TS.s OpY.move rfl ?_
  obtain ⟨x_5, ex_5, H⟩ := bnd H
  refine TS.s (OpY.call2 fun w v0 v1 hA h0 h1 => wear_Right_c w v0 v1 hA (toD h0) (toD h1) ex_5) rfl ?_
  refine TS.s OpY.move rfl ?_
  refine TS.g 30 rfl (fun hg => OpY.move) rfl ?_
  refine TS.s OpY.pickAnd rfl ?_
  refine TS.s OpY.move rfl ?_
  refine TS.g 33 rfl (fun hg => OpY.move) rfl ?_
  refine TS.g 33 rfl (fun hg => OpY.eql) rfl ?_
  refine TS.s OpY.pickAnd rfl ?_
  refine TS.s OpY.move rfl ?_
  refine TS.g 37 rfl (fun hg => OpY.move) rfl ?_
  refine TS.s OpY.pickAnd rfl ?_
  refine TS.s OpY.move rfl ?_
  refine TS.g 40 rfl (fun hg => OpY.move) rfl ?_
  refine TS.g 40 rfl (fun hg => OpY.eql) rfl ?_
  refine TS.s OpY.pickAnd rfl ?_
  refine TS.s OpY.move rfl ?_
  refine TS.g 44 rfl (fun hg => OpY.move) rfl ?_
  refine TS.s OpY.pickAnd rfl ?_
  refine TS.s OpY.move rfl ?_
  refine TS.g 47 rfl (fun hg => OpY.move) rfl ?_
  refine TS.g 47 rfl (fun hg => OpY.eql) rfl ?_
  refine TS.s OpY.pickAnd rfl ?_
  refine TS.s OpY.move rfl ?_
  refine TS.g 51 rfl (fun hg => OpY.move) rfl ?_
  obtain ⟨x_6, ex_6, H⟩ := bnd H
  refine TS.g 51 rfl (fun hg => (OpY.call2 fun w v0 v1 hA h0 h1 => wear_Room_c w v0 v1 hA (toD h0) (toD h1) (gb_some ex_6 hg.h))) rfl ?_
  refine TS.g 51 rfl (fun hg => OpY.eql) rfl ?_
  refine TS.s OpY.pickAnd rfl ?_
  refine TS.s OpY.move rfl ?_
  refine TS.g 56 rfl (fun hg => OpY.move) rfl ?_
  obtain ⟨x_7, ex_7, H⟩ := bnd H
  refine TS.g 56 rfl (fun hg => (OpY.call1 fun w v0 hA h0 => wear_Spread_c w v0 hA (toD h0) (gb_some ex_7 hg.h))) rfl ?_
  refine TS.g 56 rfl (fun hg => OpY.eql) rfl ?_
  refine TS.s OpY.pickAnd rfl ?_
  refine TS.s OpY.assign rfl ?_
  refine TS.nil ?_
  refine TE.then ?_
  refine TC.kp [0] [] ?_
  refine TC.ret ?_
  obtain rfl := (Option.some.inj H)
  exact TE.ret1 rfl Cv.le
def bywayref09_Right_l1 (l0 : (List Wear)) (pages0 : Int) (i_2 : Int) : Option (Int ⊕ (Unit ⊕ Bool)) :=
  bif (decide (i_2 < (l0.length : Int))) then ((idx l0 i_2).bind fun x_4 => (gb (!(decide (x_4.Live < (0 : Int)))) (idx l0 i_2)).bind fun x_5 => (gb (!(decide (x_4.Live < (0 : Int)))) (idx l0 i_2)).bind fun x_6 => (gb (!((decide (x_4.Live < (0 : Int))) || (decide (x_5.Live > x_6.Used)))) (idx l0 i_2)).bind fun x_7 => (gb (!(((decide (x_4.Live < (0 : Int))) || (decide (x_5.Live > x_6.Used))) || (decide (x_7.Used > pages0)))) (idx l0 i_2)).bind fun x_8 => (gb (!((((decide (x_4.Live < (0 : Int))) || (decide (x_5.Live > x_6.Used))) || (decide (x_7.Used > pages0))) || (decide (x_8.Worn < (0 : Int))))) (idx l0 i_2)).bind fun x_9 => bif (((((decide (x_4.Live < (0 : Int))) || (decide (x_5.Live > x_6.Used))) || (decide (x_7.Used > pages0))) || (decide (x_8.Worn < (0 : Int)))) || (decide (x_9.Worn > (1099511627776 : Int)))) then (some (.inr (.inr false))) else ((addI i_2 (1 : Int)).bind fun x_11 => some (.inl x_11))) else (some (.inr (.inl ())))
def bywayref09_Right (l0 : (List Wear)) (pages0 : Int) : Option Bool :=
  bif ((((decide ((l0.length : Int) = (0 : Int))) || (decide ((l0.length : Int) > (32 : Int)))) || (decide (pages0 < (1 : Int)))) || (decide (pages0 > (16 : Int)))) then (some false) else ((loopO (fun s => bywayref09_Right_l1 l0 pages0 s) (0 : Int)).bind fun o_1 => elS o_1 (fun _ => some true) (fun q => some q))
/-- bywayref09.Right -/
theorem bywayref09_Right_c {A : Nat → Prop} {l0 : (List Wear)} {pages0 : Int}  {r : Bool} (w : World) (v0 v1 : Value) (hA : ∀ k, w.heap.size ≤ k → A k)  (h0 : (D (l0 : (List Wear))).p A w v0) (h1 : (D (pages0 : Int)).p A w v1) (H : bywayref09_Right l0 pages0 = some r) :
    Calls Try.prog 28 #[v0, v1] w (Ret A w (D (r : Bool))) := by
  unfold bywayref09_Right at H
  refine enter2 hA Try.func28 rfl Try.ntmps28 rfl h0 h1 ?_
  refine TC.seqS ?_
  refine TS.s OpY.assign rfl ?_
  refine TS.nil ?_
  refine TE.then ?_
  refine TC.kp [0, 1] [] ?_
  refine TC.seq ?_
  refine TC.seqS ?_
  refine TS.s OpY.move rfl ?_
  refine TS.s OpD.len rfl ?_
  refine TS.s OpY.eql rfl ?_
  refine TS.s OpY.move rfl ?_
  refine TS.g 9 rfl (fun hg => OpY.move) rfl ?_
  refine TS.g 9 rfl (fun hg => OpD.len) rfl ?_
  refine TS.g 9 rfl (fun hg => OpY.gtr) rfl ?_
  refine TS.s OpY.pickOr rfl ?_
  refine TS.s OpY.move rfl ?_
  refine TS.g 14 rfl (fun hg => OpY.move) rfl ?_
  refine TS.g 14 rfl (fun hg => OpY.lss) rfl ?_
  refine TS.s OpY.pickOr rfl ?_
  refine TS.s OpY.move rfl ?_
  refine TS.g 18 rfl (fun hg => OpY.move) rfl ?_
  refine TS.g 18 rfl (fun hg => OpY.gtr) rfl ?_
  refine TS.s OpY.pickOr rfl ?_
  refine TS.nil ?_
  refine TE.then ?_
  refine TC.kp [0, 1, 21] [] ?_
  refine TC.cond (fun hc => ?_) (fun hc => ?_)
  · replace H := cT H hc
    refine TC.seqS ?_
    refine TS.s OpY.assign rfl ?_
    refine TS.nil ?_
    refine TE.then ?_
    refine TC.kp [4] [] ?_
    refine TC.ret ?_
    refine TE.then_ret ?_
    obtain rfl := (Option.some.inj H)
    exact TE.ret1 rfl Cv.le
  · replace H := cF H hc
    refine TC.skip ?_
    refine TE.then ?_
    refine TC.kp [0, 1] [] ?_
    refine TC.seq ?_
    refine TC.seqS ?_
    refine TS.s OpY.assign rfl ?_
    refine TS.nil ?_
    refine TE.then ?_
    refine TC.kp [0, 1, 5] [] ?_
    obtain ⟨o_1, H1, H⟩ := bnd H
    refine TC.cutP (fun s : Unit => o_1 = .inl s) (fun (_ : Unit) (_ : Unit) => Env.nil) (fun (_ : Unit) (_ : Unit) => []) ?_ ?_
    · skip
      refine TC.block ?_
      refine TC.loopP H1 (fun (i_2 : Int) (_ : Unit) => (Env.set (Env.set (Env.set Env.nil 0 (D (l0 : (List Wear)))) 1 (D (pages0 : Int))) 5 (D (i_2 : Int)))) (fun (i_2 : Int) (_ : Unit) => []) () (Env.cv (Env.cv (Env.cv (Env.le_nil _)))) (Less.nil _) ?_
      rintro i_2 ⟨⟩ x_3 H3 he3
      replace H3 : bywayref09_Right_l1 l0 pages0 i_2 = some x_3 := H3
      unfold bywayref09_Right_l1 at H3
      refine TC.seq ?_
      refine TC.seqS ?_
      refine TS.s OpY.move rfl ?_
      refine TS.s OpY.move rfl ?_
      refine TS.s OpD.len rfl ?_
      refine TS.s OpY.lss rfl ?_
      refine TS.nil ?_
      refine TE.then ?_
      refine TC.kp [0, 1, 5, 25] [] ?_
      refine TC.cond (fun hc => ?_) (fun hc => ?_)
      · replace H3 := cT H3 hc
        refine TC.skip ?_
        refine TE.then ?_
        refine TC.kp [0, 1, 5] [] ?_
        refine TC.seq ?_
        refine TC.block ?_
        refine TC.seqD0 mix (by kernel_rfl) ?_
        refine TR.s OpY.move rfl ?_
        refine TR.s OpY.move rfl ?_
        obtain ⟨x_4, ex_4, H3⟩ := bnd H3
        refine TR.s (OpD.index ex_4) rfl ?_
        refine TR.s OpY.fieldAddr rfl ?_
        refine TR.s OpY.load rfl ?_
        refine TR.s OpY.lss rfl ?_
        refine TR.s OpY.move rfl ?_
        refine TR.g 34 rfl (fun hg => OpY.move) rfl ?_
        refine TR.g 34 rfl (fun hg => OpY.move) rfl ?_
        obtain ⟨x_5, ex_5, H3⟩ := bnd H3
        refine TR.g 34 rfl (fun hg => (OpD.index (gb_some ex_5 (nF hg.h)))) rfl ?_
        refine TR.g 34 rfl (fun hg => OpY.fieldAddr) rfl ?_
        refine TR.g 34 rfl (fun hg => OpY.load) rfl ?_
        refine TR.g 34 rfl (fun hg => OpY.move) rfl ?_
        refine TR.g 34 rfl (fun hg => OpY.move) rfl ?_
        obtain ⟨x_6, ex_6, H3⟩ := bnd H3
        refine TR.g 34 rfl (fun hg => (OpD.index (gb_some ex_6 (nF hg.h)))) rfl ?_
        refine TR.g 34 rfl (fun hg => OpY.fieldAddr) rfl ?_
        refine TR.g 34 rfl (fun hg => OpY.load) rfl ?_
        refine TR.g 34 rfl (fun hg => OpY.gtr) rfl ?_
        refine TR.s OpY.pickOr rfl ?_
        refine TR.s OpY.move rfl ?_
        refine TR.g 47 rfl (fun hg => OpY.move) rfl ?_
        refine TR.g 47 rfl (fun hg => OpY.move) rfl ?_
        obtain ⟨x_7, ex_7, H3⟩ := bnd H3
        refine TR.g 47 rfl (fun hg => (OpD.index (gb_some ex_7 (nF hg.h)))) rfl ?_
        refine TR.g 47 rfl (fun hg => OpY.fieldAddr) rfl ?_
        refine TR.g 47 rfl (fun hg => OpY.load) rfl ?_
        refine TR.g 47 rfl (fun hg => OpY.move) rfl ?_
        refine TR.g 47 rfl (fun hg => OpY.gtr) rfl ?_
        refine TR.s OpY.pickOr rfl ?_
        refine TR.s OpY.move rfl ?_
        refine TR.g 56 rfl (fun hg => OpY.move) rfl ?_
        refine TR.g 56 rfl (fun hg => OpY.move) rfl ?_
        obtain ⟨x_8, ex_8, H3⟩ := bnd H3
        refine TR.g 56 rfl (fun hg => (OpD.index (gb_some ex_8 (nF hg.h)))) rfl ?_
        refine TR.g 56 rfl (fun hg => OpY.fieldAddr) rfl ?_
        refine TR.g 56 rfl (fun hg => OpY.load) rfl ?_
        refine TR.g 56 rfl (fun hg => OpY.lss) rfl ?_
        refine TR.s OpY.pickOr rfl ?_
        refine TR.s OpY.move rfl ?_
        refine TR.g 64 rfl (fun hg => OpY.move) rfl ?_
        refine TR.g 64 rfl (fun hg => OpY.move) rfl ?_
        obtain ⟨x_9, ex_9, H3⟩ := bnd H3
        refine TR.g 64 rfl (fun hg => (OpD.index (gb_some ex_9 (nF hg.h)))) rfl ?_
        refine TR.g 64 rfl (fun hg => OpY.fieldAddr) rfl ?_
        refine TR.g 64 rfl (fun hg => OpY.load) rfl ?_
        refine TR.g 64 rfl (fun hg => OpY.gtr) rfl ?_
        refine TR.s OpY.pickOr rfl ?_
        refine TR.nil ?_
        refine TC.kp [0, 1, 5, 71] [] ?_
        refine TC.cond (fun hc => ?_) (fun hc => ?_)
        · replace H3 := cT H3 hc
          refine TC.seqS ?_
          refine TS.s OpY.assign rfl ?_
          refine TS.nil ?_
          refine TE.then ?_
          refine TC.kp [4] [] ?_
          refine TC.ret ?_
          refine TE.inBlock_ret ?_
          refine TE.then_ret ?_
          refine TE.then_ret ?_
          refine TE.inBlock_ret ?_
          refine TE.cut_ret ?_
          have R9 := elS_r (he3 _ (Option.some.inj H3).symm) H
          refine TE.then_ret ?_
          obtain rfl := (Option.some.inj R9)
          exact TE.ret1 rfl Cv.le
        · replace H3 := cF H3 hc
          refine TC.skip ?_
          refine TE.inBlock_normal ?_
          refine TE.then ?_
          refine TC.kp [0, 1, 5] [] ?_
          refine TC.regionS ?_
          refine TS.s OpY.move rfl ?_
          obtain ⟨x_11, ex_11, H3⟩ := bnd H3
          refine TS.s (OpD.add ex_11) rfl ?_
          refine TS.s OpY.assign rfl ?_
          refine TS.nil ?_
          refine TE.kp [0, 1, 5] [] ?_
          exact TE.backP x_11 () (Option.some.inj H3).symm (Env.cv (Env.cv (Env.cv (Env.le_nil _)))) (Less.nil _)
      · replace H3 := cF H3 hc
        refine TC.exit ?_
        refine TE.then_exit ?_
        refine TE.then_exit ?_
        refine TE.inBlock_here ?_
        exact TE.cutP () () (he3 _ (Option.some.inj H3).symm).symm (Env.le_nil _) (Less.nil _)
    rintro ⟨⟩ ⟨⟩ hp
    replace H := elS_l hp H
    refine TE.then ?_
    refine TC.kp [] [] ?_
    refine TC.seqS ?_
    refine TS.s OpY.assign rfl ?_
    refine TS.nil ?_
    refine TE.then ?_
    refine TC.kp [4] [] ?_
    refine TC.ret ?_
    obtain rfl := (Option.some.inj H)
    exact TE.ret1 rfl Cv.le
def bywayref09_Such (w0 : Wear) (pages0 : Int) (as0 : Int) : Option Bool :=
  bif (decide (as0 = (1 : Int))) then (some ((!w0.Bad) && (decide (w0.Used ≠ pages0)))) else (bif (decide (as0 = (2 : Int))) then (some (((!w0.Bad) && (decide (w0.Live = (0 : Int)))) && (decide (w0.Used ≠ (0 : Int))))) else (some ((w0.Bad && (decide (w0.Live > (0 : Int)))) || ((((!w0.Bad) && (decide (w0.Used = pages0))) && (decide (w0.Live > (0 : Int)))) && (decide (w0.Live ≠ pages0))))))
/-- bywayref09.Such -/
theorem bywayref09_Such_c {A : Nat → Prop} {w0 : Wear} {pages0 : Int} {as0 : Int}  {r : Bool} (w : World) (v0 v1 v2 : Value) (hA : ∀ k, w.heap.size ≤ k → A k)  (h0 : (D (w0 : Wear)).p A w v0) (h1 : (D (pages0 : Int)).p A w v1) (h2 : (D (as0 : Int)).p A w v2) (H : bywayref09_Such w0 pages0 as0 = some r) :
    Calls Try.prog 45 #[v0, v1, v2] w (Ret A w (D (r : Bool))) := by
  unfold bywayref09_Such at H
  refine enter3 hA Try.func45 rfl Try.ntmps45 rfl h0 h1 h2 ?_
  refine TC.seqS ?_
  refine TS.box rfl fun b3_0 => ?_
  refine TS.s OpY.assign rfl ?_
  refine TS.nil ?_
  refine TE.then ?_
  refine TC.kp [1, 2, 3] [b3_0] ?_
  refine TC.seq ?_
  refine TC.seqS ?_
  refine TS.s OpY.move rfl ?_
  refine TS.nil ?_
  refine TE.then ?_
  refine TC.kp [1, 3, 7] [b3_0] ?_
  refine TC.block ?_
  refine TC.seqS ?_
  refine TS.s OpY.eql rfl ?_
  refine TS.s OpY.assign rfl ?_
  refine TS.nil ?_
  refine TE.then ?_
  refine TC.kp [1, 3, 7, 8] [b3_0] ?_
  refine TC.cond (fun hc => ?_) (fun hc => ?_)
  · replace H := cT H hc
    refine TC.seqS ?_
    refine TS.s OpY.fieldAddr rfl ?_
    refine TS.s (OpD.ldq (Pl.fld (off := 3) (α := Wear) (β := Bool) Pl.one)) rfl ?_
    refine TS.s OpY.notB rfl ?_
    refine TS.s OpY.move rfl ?_
    refine TS.g 13 rfl (fun hg => OpY.fieldAddr) rfl ?_
    refine TS.g 13 rfl (fun hg => (OpD.ldq (Pl.fld (off := 1) (α := Wear) (β := Int) Pl.one))) rfl ?_
    refine TS.g 13 rfl (fun hg => OpY.move) rfl ?_
    refine TS.g 13 rfl (fun hg => OpY.neq) rfl ?_
    refine TS.s OpY.pickAnd rfl ?_
    refine TS.s OpY.assign rfl ?_
    refine TS.nil ?_
    refine TE.then ?_
    refine TC.kp [6] [] ?_
    refine TC.ret ?_
    refine TE.inBlock_ret ?_
    refine TE.then_ret ?_
    obtain rfl := (Option.some.inj H)
    exact TE.ret1 rfl Cv.le
  · replace H := cF H hc
    refine TC.seqS ?_
    refine TS.s OpY.eql rfl ?_
    refine TS.s OpY.assign rfl ?_
    refine TS.nil ?_
    refine TE.then ?_
    refine TC.kp [1, 3, 19] [b3_0] ?_
    refine TC.cond (fun hc => ?_) (fun hc => ?_)
    · replace H := cT H hc
      refine TC.seqS ?_
      refine TS.s OpY.fieldAddr rfl ?_
      refine TS.s (OpD.ldq (Pl.fld (off := 3) (α := Wear) (β := Bool) Pl.one)) rfl ?_
      refine TS.s OpY.notB rfl ?_
      refine TS.s OpY.move rfl ?_
      refine TS.g 24 rfl (fun hg => OpY.fieldAddr) rfl ?_
      refine TS.g 24 rfl (fun hg => (OpD.ldq (Pl.fld (off := 0) (α := Wear) (β := Int) Pl.one))) rfl ?_
      refine TS.g 24 rfl (fun hg => OpY.eql) rfl ?_
      refine TS.s OpY.pickAnd rfl ?_
      refine TS.s OpY.move rfl ?_
      refine TS.g 29 rfl (fun hg => OpY.fieldAddr) rfl ?_
      refine TS.g 29 rfl (fun hg => (OpD.ldq (Pl.fld (off := 1) (α := Wear) (β := Int) Pl.one))) rfl ?_
      refine TS.g 29 rfl (fun hg => OpY.neq) rfl ?_
      refine TS.s OpY.pickAnd rfl ?_
      refine TS.s OpY.assign rfl ?_
      refine TS.nil ?_
      refine TE.then ?_
      refine TC.kp [6] [] ?_
      refine TC.ret ?_
      refine TE.inBlock_ret ?_
      refine TE.then_ret ?_
      obtain rfl := (Option.some.inj H)
      exact TE.ret1 rfl Cv.le
    · replace H := cF H hc
      refine TC.skip ?_
      refine TE.inBlock_normal ?_
      refine TE.then ?_
      refine TC.kp [1, 3] [b3_0] ?_
      refine TC.seqS ?_
      refine TS.s OpY.fieldAddr rfl ?_
      refine TS.s (OpD.ldq (Pl.fld (off := 3) (α := Wear) (β := Bool) Pl.one)) rfl ?_
      refine TS.s OpY.move rfl ?_
      refine TS.g 36 rfl (fun hg => OpY.fieldAddr) rfl ?_
      refine TS.g 36 rfl (fun hg => (OpD.ldq (Pl.fld (off := 0) (α := Wear) (β := Int) Pl.one))) rfl ?_
      refine TS.g 36 rfl (fun hg => OpY.gtr) rfl ?_
      refine TS.s OpY.pickAnd rfl ?_
      refine TS.s OpY.move rfl ?_
      refine TS.g 41 rfl (fun hg => OpY.fieldAddr) rfl ?_
      refine TS.g 41 rfl (fun hg => (OpD.ldq (Pl.fld (off := 3) (α := Wear) (β := Bool) Pl.one))) rfl ?_
      refine TS.g 41 rfl (fun hg => OpY.notB) rfl ?_
      refine TS.g 41 rfl (fun hg => OpY.move) rfl ?_
      refine TS.gg 45 rfl (fun hp hg => OpY.fieldAddr) rfl ?_
      refine TS.gg 45 rfl (fun hp hg => (OpD.ldq (Pl.fld (off := 1) (α := Wear) (β := Int) Pl.one))) rfl ?_
      refine TS.gg 45 rfl (fun hp hg => OpY.move) rfl ?_
      refine TS.gg 45 rfl (fun hp hg => OpY.eql) rfl ?_
      refine TS.g 41 rfl (fun hg => OpY.pickAnd) rfl ?_
      refine TS.g 41 rfl (fun hg => OpY.move) rfl ?_
      refine TS.gg 51 rfl (fun hp hg => OpY.fieldAddr) rfl ?_
      refine TS.gg 51 rfl (fun hp hg => (OpD.ldq (Pl.fld (off := 0) (α := Wear) (β := Int) Pl.one))) rfl ?_
      refine TS.gg 51 rfl (fun hp hg => OpY.gtr) rfl ?_
      refine TS.g 41 rfl (fun hg => OpY.pickAnd) rfl ?_
      refine TS.g 41 rfl (fun hg => OpY.move) rfl ?_
      refine TS.gg 56 rfl (fun hp hg => OpY.fieldAddr) rfl ?_
      refine TS.gg 56 rfl (fun hp hg => (OpD.ldq (Pl.fld (off := 0) (α := Wear) (β := Int) Pl.one))) rfl ?_
      refine TS.gg 56 rfl (fun hp hg => OpY.move) rfl ?_
      refine TS.gg 56 rfl (fun hp hg => OpY.neq) rfl ?_
      refine TS.g 41 rfl (fun hg => OpY.pickAnd) rfl ?_
      refine TS.s OpY.pickOr rfl ?_
      refine TS.s OpY.assign rfl ?_
      refine TS.nil ?_
      refine TE.then ?_
      refine TC.kp [6] [] ?_
      refine TC.ret ?_
      obtain rfl := (Option.some.inj H)
      exact TE.ret1 rfl Cv.le
def bywayref09_ahead (a0 : Wear) (b0 : Wear) (as0 : Int) : Option Bool :=
  bif ((decide (as0 = (1 : Int))) && (decide (a0.Used ≠ b0.Used))) then (some (decide (a0.Used > b0.Used))) else (bif ((decide (as0 = (3 : Int))) && (decide (a0.Bad ≠ b0.Bad))) then (some a0.Bad) else (bif ((decide (as0 = (3 : Int))) && (decide (a0.Live ≠ b0.Live))) then (some (decide (a0.Live < b0.Live))) else (some (decide (a0.Worn < b0.Worn)))))
/-- bywayref09.ahead -/
theorem bywayref09_ahead_c {A : Nat → Prop} {a0 : Wear} {b0 : Wear} {as0 : Int}  {r : Bool} (w : World) (v0 v1 v2 : Value) (hA : ∀ k, w.heap.size ≤ k → A k)  (h0 : (D (a0 : Wear)).p A w v0) (h1 : (D (b0 : Wear)).p A w v1) (h2 : (D (as0 : Int)).p A w v2) (H : bywayref09_ahead a0 b0 as0 = some r) :
    Calls Try.prog 46 #[v0, v1, v2] w (Ret A w (D (r : Bool))) := by
  unfold bywayref09_ahead at H
  refine enter3 hA Try.func46 rfl Try.ntmps46 rfl h0 h1 h2 ?_
  refine TC.seqS ?_
  refine TS.box rfl fun b3_0 => ?_
  refine TS.box rfl fun b4_1 => ?_
  refine TS.s OpY.assign rfl ?_
  refine TS.nil ?_
  refine TE.then ?_
  refine TC.kp [2, 3, 4] [b3_0, b4_1] ?_
  refine TC.seq ?_
  refine TC.seqS ?_
  refine TS.s OpY.move rfl ?_
  refine TS.s OpY.eql rfl ?_
  refine TS.s OpY.move rfl ?_
  refine TS.g 9 rfl (fun hg => OpY.fieldAddr) rfl ?_
  refine TS.g 9 rfl (fun hg => (OpD.ldq (Pl.fld (off := 1) (α := Wear) (β := Int) Pl.one))) rfl ?_
  refine TS.g 9 rfl (fun hg => OpY.fieldAddr) rfl ?_
  refine TS.g 9 rfl (fun hg => (OpD.ldq (Pl.fld (off := 1) (α := Wear) (β := Int) Pl.one))) rfl ?_
  refine TS.g 9 rfl (fun hg => OpY.neq) rfl ?_
  refine TS.s OpY.pickAnd rfl ?_
  refine TS.nil ?_
  refine TE.then ?_
  refine TC.kp [2, 3, 4, 15] [b3_0, b4_1] ?_
  refine TC.cond (fun hc => ?_) (fun hc => ?_)
  · replace H := cT H hc
    refine TC.seqS ?_
    refine TS.s OpY.fieldAddr rfl ?_
    refine TS.s (OpD.ldq (Pl.fld (off := 1) (α := Wear) (β := Int) Pl.one)) rfl ?_
    refine TS.s OpY.fieldAddr rfl ?_
    refine TS.s (OpD.ldq (Pl.fld (off := 1) (α := Wear) (β := Int) Pl.one)) rfl ?_
    refine TS.s OpY.gtr rfl ?_
    refine TS.s OpY.assign rfl ?_
    refine TS.nil ?_
    refine TE.then ?_
    refine TC.kp [6] [] ?_
    refine TC.ret ?_
    refine TE.then_ret ?_
    obtain rfl := (Option.some.inj H)
    exact TE.ret1 rfl Cv.le
  · replace H := cF H hc
    refine TC.skip ?_
    refine TE.then ?_
    refine TC.kp [2, 3, 4] [b3_0, b4_1] ?_
    refine TC.seq ?_
    refine TC.seqS ?_
    refine TS.s OpY.move rfl ?_
    refine TS.s OpY.eql rfl ?_
    refine TS.s OpY.move rfl ?_
    refine TS.g 23 rfl (fun hg => OpY.fieldAddr) rfl ?_
    refine TS.g 23 rfl (fun hg => (OpD.ldq (Pl.fld (off := 3) (α := Wear) (β := Bool) Pl.one))) rfl ?_
    refine TS.g 23 rfl (fun hg => OpY.fieldAddr) rfl ?_
    refine TS.g 23 rfl (fun hg => (OpD.ldq (Pl.fld (off := 3) (α := Wear) (β := Bool) Pl.one))) rfl ?_
    refine TS.g 23 rfl (fun hg => (OpY.neq_bool Try.underlying4)) rfl ?_
    refine TS.s OpY.pickAnd rfl ?_
    refine TS.nil ?_
    refine TE.then ?_
    refine TC.kp [2, 3, 4, 29] [b3_0, b4_1] ?_
    refine TC.cond (fun hc => ?_) (fun hc => ?_)
    · replace H := cT H hc
      refine TC.seqS ?_
      refine TS.s OpY.fieldAddr rfl ?_
      refine TS.s (OpD.ldq (Pl.fld (off := 3) (α := Wear) (β := Bool) Pl.one)) rfl ?_
      refine TS.s OpY.assign rfl ?_
      refine TS.nil ?_
      refine TE.then ?_
      refine TC.kp [6] [] ?_
      refine TC.ret ?_
      refine TE.then_ret ?_
      obtain rfl := (Option.some.inj H)
      exact TE.ret1 rfl Cv.le
    · replace H := cF H hc
      refine TC.skip ?_
      refine TE.then ?_
      refine TC.kp [2, 3, 4] [b3_0, b4_1] ?_
      refine TC.seq ?_
      refine TC.seqS ?_
      refine TS.s OpY.move rfl ?_
      refine TS.s OpY.eql rfl ?_
      refine TS.s OpY.move rfl ?_
      refine TS.g 34 rfl (fun hg => OpY.fieldAddr) rfl ?_
      refine TS.g 34 rfl (fun hg => (OpD.ldq (Pl.fld (off := 0) (α := Wear) (β := Int) Pl.one))) rfl ?_
      refine TS.g 34 rfl (fun hg => OpY.fieldAddr) rfl ?_
      refine TS.g 34 rfl (fun hg => (OpD.ldq (Pl.fld (off := 0) (α := Wear) (β := Int) Pl.one))) rfl ?_
      refine TS.g 34 rfl (fun hg => OpY.neq) rfl ?_
      refine TS.s OpY.pickAnd rfl ?_
      refine TS.nil ?_
      refine TE.then ?_
      refine TC.kp [3, 4, 40] [b3_0, b4_1] ?_
      refine TC.cond (fun hc => ?_) (fun hc => ?_)
      · replace H := cT H hc
        refine TC.seqS ?_
        refine TS.s OpY.fieldAddr rfl ?_
        refine TS.s (OpD.ldq (Pl.fld (off := 0) (α := Wear) (β := Int) Pl.one)) rfl ?_
        refine TS.s OpY.fieldAddr rfl ?_
        refine TS.s (OpD.ldq (Pl.fld (off := 0) (α := Wear) (β := Int) Pl.one)) rfl ?_
        refine TS.s OpY.lss rfl ?_
        refine TS.s OpY.assign rfl ?_
        refine TS.nil ?_
        refine TE.then ?_
        refine TC.kp [6] [] ?_
        refine TC.ret ?_
        refine TE.then_ret ?_
        obtain rfl := (Option.some.inj H)
        exact TE.ret1 rfl Cv.le
      · replace H := cF H hc
        refine TC.skip ?_
        refine TE.then ?_
        refine TC.kp [3, 4] [b3_0, b4_1] ?_
        refine TC.seqS ?_
        refine TS.s OpY.fieldAddr rfl ?_
        refine TS.s (OpD.ldq (Pl.fld (off := 2) (α := Wear) (β := Int) Pl.one)) rfl ?_
        refine TS.s OpY.fieldAddr rfl ?_
        refine TS.s (OpD.ldq (Pl.fld (off := 2) (α := Wear) (β := Int) Pl.one)) rfl ?_
        refine TS.s OpY.lss rfl ?_
        refine TS.s OpY.assign rfl ?_
        refine TS.nil ?_
        refine TE.then ?_
        refine TC.kp [6] [] ?_
        refine TC.ret ?_
        obtain rfl := (Option.some.inj H)
        exact TE.ret1 rfl Cv.le
def bywayref09_First_l2 (l0 : (List Wear)) (pages0 : Int) (as0 : Int) (i_3 : Int) (best_9 : Bool) (k_10 : Int) : Option ((Bool × Int) ⊕ Bool) :=
  bif (decide (k_10 < (l0.length : Int))) then (((idx l0 k_10).bind fun x_14 => (bywayref09_Such x_14 pages0 as0).bind fun x_15 => (gb x_15 (idx l0 k_10)).bind fun x_16 => (gb x_15 (idx l0 i_3)).bind fun x_17 => (gb x_15 (bywayref09_ahead x_16 x_17 as0)).bind fun x_18 => (gb ((x_15 && (!x_18)) && (decide (k_10 < i_3))) (idx l0 i_3)).bind fun x_19 => (gb ((x_15 && (!x_18)) && (decide (k_10 < i_3))) (idx l0 k_10)).bind fun x_20 => (gb ((x_15 && (!x_18)) && (decide (k_10 < i_3))) (bywayref09_ahead x_19 x_20 as0)).bind fun x_21 => bif (x_15 && (x_18 || ((decide (k_10 < i_3)) && (!x_21)))) then (some false) else (some best_9)).bind fun best_12 => (addI k_10 (1 : Int)).bind fun x_22 => some (.inl (best_12, x_22))) else (some (.inr best_9))
def bywayref09_First_l1 (l0 : (List Wear)) (pages0 : Int) (as0 : Int) (i_3 : Int) : Option (Int ⊕ (Unit ⊕ (Int × Bool))) :=
  bif (decide (i_3 < (l0.length : Int))) then ((idx l0 i_3).bind fun x_5 => (bywayref09_Such x_5 pages0 as0).bind fun x_6 => (loopO (fun s => bywayref09_First_l2 l0 pages0 as0 i_3 s.1 s.2) (x_6, (0 : Int))).bind fun best_7 => bif best_7 then (some (.inr (.inr (i_3, true)))) else ((addI i_3 (1 : Int)).bind fun x_24 => some (.inl x_24))) else (some (.inr (.inl ())))
def bywayref09_First (l0 : (List Wear)) (pages0 : Int) (as0 : Int) : Option (Int × Bool) :=
  (bywayref09_Right l0 pages0).bind fun x_1 => bif (!x_1) then (some ((0 : Int), false)) else ((loopO (fun s => bywayref09_First_l1 l0 pages0 as0 s) (0 : Int)).bind fun o_2 => elS o_2 (fun _ => some ((0 : Int), false)) (fun q => some q))
/-- bywayref09.First -/
theorem bywayref09_First_c {A : Nat → Prop} {l0 : (List Wear)} {pages0 : Int} {as0 : Int}  {r : (Int × Bool)} (w : World) (v0 v1 v2 : Value) (hA : ∀ k, w.heap.size ≤ k → A k)  (h0 : (D (l0 : (List Wear))).p A w v0) (h1 : (D (pages0 : Int)).p A w v1) (h2 : (D (as0 : Int)).p A w v2) (H : bywayref09_First l0 pages0 as0 = some r) :
    Calls Try.prog 26 #[v0, v1, v2] w (Ret A w (Tup [D (r.1 : Int), D (r.2 : Bool)])) := by
  unfold bywayref09_First at H
  refine enter3 hA Try.func26 rfl Try.ntmps26 rfl h0 h1 h2 ?_
  refine TC.seqS ?_
  refine TS.s OpY.assign rfl ?_
  refine TS.s OpY.assign rfl ?_
  refine TS.nil ?_
  refine TE.then ?_
  refine TC.kp [0, 1, 2] [] ?_
  refine TC.seq ?_
  refine TC.seqS ?_
  refine TS.s OpY.move rfl ?_
  refine TS.s OpY.move rfl ?_
  obtain ⟨x_1, ex_1, H⟩ := bnd H
  refine TS.s (OpY.call2 fun w v0 v1 hA h0 h1 => bywayref09_Right_c w v0 v1 hA (toD h0) (toD h1) ex_1) rfl ?_
  refine TS.s OpY.notB rfl ?_
  refine TS.nil ?_
  refine TE.then ?_
  refine TC.kp [0, 1, 2, 14] [] ?_
  refine TC.cond (fun hc => ?_) (fun hc => ?_)
  · replace H := cT H hc
    refine TC.seqS ?_
    refine TS.s OpY.assign rfl ?_
    refine TS.s OpY.assign rfl ?_
    refine TS.nil ?_
    refine TE.then ?_
    refine TC.kp [6, 7] [] ?_
    refine TC.ret ?_
    refine TE.then_ret ?_
    obtain rfl := (Option.some.inj H)
    exact TE.retN rfl rfl (.cons Cv.le (.cons Cv.le .nil))
  · replace H := cF H hc
    refine TC.skip ?_
    refine TE.then ?_
    refine TC.kp [0, 1, 2] [] ?_
    refine TC.seq ?_
    refine TC.seqS ?_
    refine TS.s OpY.assign rfl ?_
    refine TS.nil ?_
    refine TE.then ?_
    refine TC.kp [0, 1, 2, 8] [] ?_
    obtain ⟨o_2, H2, H⟩ := bnd H
    refine TC.cutP (fun s : Unit => o_2 = .inl s) (fun (_ : Unit) (_ : Unit) => Env.nil) (fun (_ : Unit) (_ : Unit) => []) ?_ ?_
    · skip
      refine TC.block ?_
      refine TC.loopP H2 (fun (i_3 : Int) (_ : Unit) => (Env.set (Env.set (Env.set (Env.set Env.nil 0 (D (l0 : (List Wear)))) 1 (D (pages0 : Int))) 2 (D (as0 : Int))) 8 (D (i_3 : Int)))) (fun (i_3 : Int) (_ : Unit) => []) () (Env.cv (Env.cv (Env.cv (Env.cv (Env.le_nil _))))) (Less.nil _) ?_
      rintro i_3 ⟨⟩ x_4 H4 he4
      replace H4 : bywayref09_First_l1 l0 pages0 as0 i_3 = some x_4 := H4
      unfold bywayref09_First_l1 at H4
      refine TC.seq ?_
      refine TC.seqS ?_
      refine TS.s OpY.move rfl ?_
      refine TS.s OpY.move rfl ?_
      refine TS.s OpD.len rfl ?_
      refine TS.s OpY.lss rfl ?_
      refine TS.nil ?_
      refine TE.then ?_
      refine TC.kp [0, 1, 2, 8, 18] [] ?_
      refine TC.cond (fun hc => ?_) (fun hc => ?_)
      · replace H4 := cT H4 hc
        refine TC.skip ?_
        refine TE.then ?_
        refine TC.kp [0, 1, 2, 8] [] ?_
        refine TC.seq ?_
        refine TC.block ?_
        refine TC.seqS ?_
        refine TS.s OpY.move rfl ?_
        refine TS.s OpY.move rfl ?_
        obtain ⟨x_5, ex_5, H4⟩ := bnd H4
        refine TS.s (OpD.index ex_5) rfl ?_
        refine TS.s OpY.load rfl ?_
        refine TS.s OpY.move rfl ?_
        refine TS.s OpY.move rfl ?_
        obtain ⟨x_6, ex_6, H4⟩ := bnd H4
        refine TS.s (OpY.call3 fun w v0 v1 v2 hA h0 h1 h2 => bywayref09_Such_c w v0 v1 v2 hA (toD h0) (toD h1) (toD h2) ex_6) rfl ?_
        refine TS.s OpY.assign rfl ?_
        refine TS.nil ?_
        refine TE.then ?_
        refine TC.kp [0, 1, 2, 8, 9] [] ?_
        refine TC.seq ?_
        refine TC.seqS ?_
        refine TS.s OpY.assign rfl ?_
        refine TS.nil ?_
        refine TE.then ?_
        refine TC.kp [0, 1, 2, 8, 9, 10] [] ?_
        obtain ⟨o_8, H8, H4⟩ := bnd H4
        refine TC.cutP (fun s : Bool => o_8 = s) (fun (best_7 : Bool) (_ : Unit) => (Env.set (Env.set (Env.set (Env.set (Env.set Env.nil 0 (D (l0 : (List Wear)))) 1 (D (pages0 : Int))) 2 (D (as0 : Int))) 8 (D (i_3 : Int))) 9 (D (best_7 : Bool)))) (fun (best_7 : Bool) (_ : Unit) => []) ?_ ?_
        · skip
          refine TC.block ?_
          refine TC.loopP H8 (fun ⟨best_9, k_10⟩ (_ : Unit) => (Env.set (Env.set (Env.set (Env.set (Env.set (Env.set Env.nil 0 (D (l0 : (List Wear)))) 1 (D (pages0 : Int))) 2 (D (as0 : Int))) 8 (D (i_3 : Int))) 9 (D (best_9 : Bool))) 10 (D (k_10 : Int)))) (fun ⟨best_9, k_10⟩ (_ : Unit) => []) () (Env.cv (Env.cv (Env.cv (Env.cv (Env.cv (Env.cv (Env.le_nil _))))))) (Less.nil _) ?_
          rintro ⟨best_9, k_10⟩ ⟨⟩ x_11 H11 he11
          replace H11 : bywayref09_First_l2 l0 pages0 as0 i_3 best_9 k_10 = some x_11 := H11
          unfold bywayref09_First_l2 at H11
          refine TC.seq ?_
          refine TC.seqS ?_
          refine TS.s OpY.move rfl ?_
          refine TS.s OpY.move rfl ?_
          refine TS.s OpD.len rfl ?_
          refine TS.s OpY.lss rfl ?_
          refine TS.nil ?_
          refine TE.then ?_
          refine TC.kp [0, 1, 2, 8, 9, 10, 31] [] ?_
          refine TC.cond (fun hc => ?_) (fun hc => ?_)
          · replace H11 := cT H11 hc
            refine TC.skip ?_
            refine TE.then ?_
            refine TC.kp [0, 1, 2, 8, 9, 10] [] ?_
            refine TC.seq ?_
            obtain ⟨o_13, H13, H11⟩ := bnd H11
            refine TC.cutP (fun s : Bool => o_13 = s) (fun (best_12 : Bool) (_ : Unit) => (Env.set (Env.set (Env.set (Env.set (Env.set (Env.set Env.nil 0 (D (l0 : (List Wear)))) 1 (D (pages0 : Int))) 2 (D (as0 : Int))) 8 (D (i_3 : Int))) 9 (D (best_12 : Bool))) 10 (D (k_10 : Int)))) (fun (best_12 : Bool) (_ : Unit) => []) ?_ ?_
            · skip
              refine TC.block ?_
              refine TC.seqD0 mix (by kernel_rfl) ?_
              refine TR.s OpY.move rfl ?_
              refine TR.s OpY.move rfl ?_
              obtain ⟨x_14, ex_14, H13⟩ := bnd H13
              refine TR.s (OpD.index ex_14) rfl ?_
              refine TR.s OpY.load rfl ?_
              refine TR.s OpY.move rfl ?_
              refine TR.s OpY.move rfl ?_
              obtain ⟨x_15, ex_15, H13⟩ := bnd H13
              refine TR.s (OpY.call3 fun w v0 v1 v2 hA h0 h1 h2 => bywayref09_Such_c w v0 v1 v2 hA (toD h0) (toD h1) (toD h2) ex_15) rfl ?_
              refine TR.s OpY.move rfl ?_
              refine TR.g 41 rfl (fun hg => OpY.move) rfl ?_
              refine TR.g 41 rfl (fun hg => OpY.move) rfl ?_
              obtain ⟨x_16, ex_16, H13⟩ := bnd H13
              refine TR.g 41 rfl (fun hg => (OpD.index (gb_some ex_16 hg.h))) rfl ?_
              refine TR.g 41 rfl (fun hg => OpY.load) rfl ?_
              refine TR.g 41 rfl (fun hg => OpY.move) rfl ?_
              refine TR.g 41 rfl (fun hg => OpY.move) rfl ?_
              obtain ⟨x_17, ex_17, H13⟩ := bnd H13
              refine TR.g 41 rfl (fun hg => (OpD.index (gb_some ex_17 hg.h))) rfl ?_
              refine TR.g 41 rfl (fun hg => OpY.load) rfl ?_
              refine TR.g 41 rfl (fun hg => OpY.move) rfl ?_
              obtain ⟨x_18, ex_18, H13⟩ := bnd H13
              refine TR.g 41 rfl (fun hg => (OpY.call3 fun w v0 v1 v2 hA h0 h1 h2 => bywayref09_ahead_c w v0 v1 v2 hA (toD h0) (toD h1) (toD h2) (gb_some ex_18 hg.h))) rfl ?_
              refine TR.g 41 rfl (fun hg => OpY.move) rfl ?_
              refine TR.gg 52 rfl (fun hp hg => OpY.move) rfl ?_
              refine TR.gg 52 rfl (fun hp hg => OpY.move) rfl ?_
              refine TR.gg 52 rfl (fun hp hg => OpY.lss) rfl ?_
              refine TR.gg 52 rfl (fun hp hg => OpY.move) rfl ?_
              refine TR.gg 56 rfl (fun hp hg => haveI l0 := Ft.l hp; haveI r0 := Ft.r hp; OpY.move) rfl ?_
              refine TR.gg 56 rfl (fun hp hg => haveI l0 := Ft.l hp; haveI r0 := Ft.r hp; OpY.move) rfl ?_
              obtain ⟨x_19, ex_19, H13⟩ := bnd H13
              refine TR.gg 56 rfl (fun hp hg => haveI l0 := Ft.l hp; haveI r0 := Ft.r hp; (OpD.index (gb_some ex_19 (aT (aT hp.h.1 (nF hp.h.2)) hg.h)))) rfl ?_
              refine TR.gg 56 rfl (fun hp hg => haveI l0 := Ft.l hp; haveI r0 := Ft.r hp; OpY.load) rfl ?_
              refine TR.gg 56 rfl (fun hp hg => haveI l0 := Ft.l hp; haveI r0 := Ft.r hp; OpY.move) rfl ?_
              refine TR.gg 56 rfl (fun hp hg => haveI l0 := Ft.l hp; haveI r0 := Ft.r hp; OpY.move) rfl ?_
              obtain ⟨x_20, ex_20, H13⟩ := bnd H13
              refine TR.gg 56 rfl (fun hp hg => haveI l0 := Ft.l hp; haveI r0 := Ft.r hp; (OpD.index (gb_some ex_20 (aT (aT hp.h.1 (nF hp.h.2)) hg.h)))) rfl ?_
              refine TR.gg 56 rfl (fun hp hg => haveI l0 := Ft.l hp; haveI r0 := Ft.r hp; OpY.load) rfl ?_
              refine TR.gg 56 rfl (fun hp hg => haveI l0 := Ft.l hp; haveI r0 := Ft.r hp; OpY.move) rfl ?_
              obtain ⟨x_21, ex_21, H13⟩ := bnd H13
              refine TR.gg 56 rfl (fun hp hg => haveI l0 := Ft.l hp; haveI r0 := Ft.r hp; (OpY.call3 fun w v0 v1 v2 hA h0 h1 h2 => bywayref09_ahead_c w v0 v1 v2 hA (toD h0) (toD h1) (toD h2) (gb_some ex_21 (aT (aT hp.h.1 (nF hp.h.2)) hg.h)))) rfl ?_
              refine TR.gg 56 rfl (fun hp hg => haveI l0 := Ft.l hp; haveI r0 := Ft.r hp; OpY.notB) rfl ?_
              refine TR.gg 52 rfl (fun hp hg => OpY.pickAnd) rfl ?_
              refine TR.g 41 rfl (fun hg => OpY.pickOr) rfl ?_
              refine TR.s OpY.pickAnd rfl ?_
              refine TR.nil ?_
              refine TC.kp [0, 1, 2, 8, 9, 10, 70] [] ?_
              refine TC.cond (fun hc => ?_) (fun hc => ?_)
              · replace H13 := cT H13 hc
                refine TC.regionS ?_
                refine TS.s OpY.assign rfl ?_
                refine TS.nil ?_
                refine TE.kp [0, 1, 2, 8, 9, 10] [] ?_
                refine TE.inBlock_normal ?_
                exact TE.cutP false () (Option.some.inj H13).symm (Env.cv (Env.cv (Env.cv (Env.cv (Env.cv (Env.cv (Env.le_nil _))))))) (Less.nil _)
              · replace H13 := cF H13 hc
                refine TC.skip ?_
                refine TE.inBlock_normal ?_
                exact TE.cutP best_9 () (Option.some.inj H13).symm (Env.cv (Env.cv (Env.cv (Env.cv (Env.cv (Env.cv (Env.le_nil _))))))) (Less.nil _)
            rintro best_12 ⟨⟩ hp
            replace hp := hp.symm
            subst hp
            refine TE.then ?_
            refine TC.kp [0, 1, 2, 8, 9, 10] [] ?_
            refine TC.regionS ?_
            refine TS.s OpY.move rfl ?_
            obtain ⟨x_22, ex_22, H11⟩ := bnd H11
            refine TS.s (OpD.add ex_22) rfl ?_
            refine TS.s OpY.assign rfl ?_
            refine TS.nil ?_
            refine TE.kp [0, 1, 2, 8, 9, 10] [] ?_
            exact TE.backP ⟨best_12, x_22⟩ () (Option.some.inj H11).symm (Env.cv (Env.cv (Env.cv (Env.cv (Env.cv (Env.cv (Env.le_nil _))))))) (Less.nil _)
          · replace H11 := cF H11 hc
            refine TC.exit ?_
            refine TE.then_exit ?_
            refine TE.then_exit ?_
            refine TE.inBlock_here ?_
            exact TE.cutP best_9 () (he11 _ (Option.some.inj H11).symm).symm (Env.cv (Env.cv (Env.cv (Env.cv (Env.cv (Env.le_nil _)))))) (Less.nil _)
        rintro best_7 ⟨⟩ hp
        replace hp := hp.symm
        subst hp
        refine TE.then ?_
        refine TC.kp [0, 1, 2, 8, 9] [] ?_
        refine TC.seqS ?_
        refine TS.s OpY.move rfl ?_
        refine TS.nil ?_
        refine TE.then ?_
        refine TC.kp [0, 1, 2, 8, 71] [] ?_
        refine TC.cond (fun hc => ?_) (fun hc => ?_)
        · replace H4 := cT H4 hc
          refine TC.seqS ?_
          refine TS.s OpY.move rfl ?_
          refine TS.s OpY.assign rfl ?_
          refine TS.s OpY.assign rfl ?_
          refine TS.nil ?_
          refine TE.then ?_
          refine TC.kp [6, 7] [] ?_
          refine TC.ret ?_
          refine TE.inBlock_ret ?_
          refine TE.then_ret ?_
          refine TE.then_ret ?_
          refine TE.inBlock_ret ?_
          refine TE.cut_ret ?_
          have R22 := elS_r (he4 _ (Option.some.inj H4).symm) H
          refine TE.then_ret ?_
          obtain rfl := (Option.some.inj R22)
          exact TE.retN rfl rfl (.cons Cv.le (.cons Cv.le .nil))
        · replace H4 := cF H4 hc
          refine TC.skip ?_
          refine TE.inBlock_normal ?_
          refine TE.then ?_
          refine TC.kp [0, 1, 2, 8] [] ?_
          refine TC.regionS ?_
          refine TS.s OpY.move rfl ?_
          obtain ⟨x_24, ex_24, H4⟩ := bnd H4
          refine TS.s (OpD.add ex_24) rfl ?_
          refine TS.s OpY.assign rfl ?_
          refine TS.nil ?_
          refine TE.kp [0, 1, 2, 8] [] ?_
          exact TE.backP x_24 () (Option.some.inj H4).symm (Env.cv (Env.cv (Env.cv (Env.cv (Env.le_nil _))))) (Less.nil _)
      · replace H4 := cF H4 hc
        refine TC.exit ?_
        refine TE.then_exit ?_
        refine TE.then_exit ?_
        refine TE.inBlock_here ?_
        exact TE.cutP () () (he4 _ (Option.some.inj H4).symm).symm (Env.le_nil _) (Less.nil _)
    rintro ⟨⟩ ⟨⟩ hp
    replace H := elS_l hp H
    refine TE.then ?_
    refine TC.kp [] [] ?_
    refine TC.seqS ?_
    refine TS.s OpY.assign rfl ?_
    refine TS.s OpY.assign rfl ?_
    refine TS.nil ?_
    refine TE.then ?_
    refine TC.kp [6, 7] [] ?_
    refine TC.ret ?_
    obtain rfl := (Option.some.inj H)
    exact TE.retN rfl rfl (.cons Cv.le (.cons Cv.le .nil))
def bywayref09_Room_l1 (l0 : (List Wear)) (pages0 : Int) (n_4 : Int) (i_5 : Int) : Option ((Int × Int) ⊕ Int) :=
  bif (decide (i_5 < (l0.length : Int))) then ((((idx l0 i_5).bind fun x_11 => (gb (!x_11.Bad) (idx l0 i_5)).bind fun x_12 => bif ((!x_11.Bad) && (decide (x_12.Live = (0 : Int)))) then ((addI n_4 pages0).bind fun x_13 => some x_13) else (some n_4)).bind fun n_9 => (idx l0 i_5).bind fun x_14 => (gb (!x_14.Bad) (idx l0 i_5)).bind fun x_15 => bif ((!x_14.Bad) && (decide (x_15.Live ≠ (0 : Int)))) then ((idx l0 i_5).bind fun x_16 => (subI pages0 x_16.Used).bind fun x_17 => (addI n_9 x_17).bind fun x_18 => some x_18) else (some n_9)).bind fun n_7 => (addI i_5 (1 : Int)).bind fun x_19 => some (.inl (n_7, x_19))) else (some (.inr n_4))
def bywayref09_Room (l0 : (List Wear)) (pages0 : Int) : Option Int :=
  (bywayref09_Right l0 pages0).bind fun x_1 => bif (!x_1) then (some (0 : Int)) else ((loopO (fun s => bywayref09_Room_l1 l0 pages0 s.1 s.2) ((0 : Int), (0 : Int))).bind fun n_2 => some n_2)
/-- bywayref09.Room -/
theorem bywayref09_Room_c {A : Nat → Prop} {l0 : (List Wear)} {pages0 : Int}  {r : Int} (w : World) (v0 v1 : Value) (hA : ∀ k, w.heap.size ≤ k → A k)  (h0 : (D (l0 : (List Wear))).p A w v0) (h1 : (D (pages0 : Int)).p A w v1) (H : bywayref09_Room l0 pages0 = some r) :
    Calls Try.prog 30 #[v0, v1] w (Ret A w (D (r : Int))) := by
  unfold bywayref09_Room at H
  refine enter2 hA Try.func30 rfl Try.ntmps30 rfl h0 h1 ?_
  refine TC.seqS ?_
  refine TS.s OpY.assign rfl ?_
  refine TS.nil ?_
  refine TE.then ?_
  refine TC.kp [0, 1] [] ?_
  refine TC.seq ?_
  refine TC.seqS ?_
  refine TS.s OpY.move rfl ?_
  refine TS.s OpY.move rfl ?_
  obtain ⟨x_1, ex_1, H⟩ := bnd H
  refine TS.s (OpY.call2 fun w v0 v1 hA h0 h1 => bywayref09_Right_c w v0 v1 hA (toD h0) (toD h1) ex_1) rfl ?_
  refine TS.s OpY.notB rfl ?_
  refine TS.nil ?_
  refine TE.then ?_
  refine TC.kp [0, 1, 10] [] ?_
  refine TC.cond (fun hc => ?_) (fun hc => ?_)
  · replace H := cT H hc
    refine TC.seqS ?_
    refine TS.s OpY.assign rfl ?_
    refine TS.nil ?_
    refine TE.then ?_
    refine TC.kp [4] [] ?_
    refine TC.ret ?_
    refine TE.then_ret ?_
    obtain rfl := (Option.some.inj H)
    exact TE.ret1 rfl Cv.le
  · replace H := cF H hc
    refine TC.skip ?_
    refine TE.then ?_
    refine TC.kp [0, 1] [] ?_
    refine TC.seqS ?_
    refine TS.s OpY.assign rfl ?_
    refine TS.nil ?_
    refine TE.then ?_
    refine TC.kp [0, 1, 5] [] ?_
    refine TC.seq ?_
    refine TC.seqS ?_
    refine TS.s OpY.assign rfl ?_
    refine TS.nil ?_
    refine TE.then ?_
    refine TC.kp [0, 1, 5, 6] [] ?_
    obtain ⟨o_3, H3, H⟩ := bnd H
    refine TC.cutP (fun s : Int => o_3 = s) (fun (n_2 : Int) (_ : Unit) => (Env.set Env.nil 5 (D (n_2 : Int)))) (fun (n_2 : Int) (_ : Unit) => []) ?_ ?_
    · skip
      refine TC.block ?_
      refine TC.loopP H3 (fun ⟨n_4, i_5⟩ (_ : Unit) => (Env.set (Env.set (Env.set (Env.set Env.nil 0 (D (l0 : (List Wear)))) 1 (D (pages0 : Int))) 5 (D (n_4 : Int))) 6 (D (i_5 : Int)))) (fun ⟨n_4, i_5⟩ (_ : Unit) => []) () (Env.cv (Env.cv (Env.cv (Env.cv (Env.le_nil _))))) (Less.nil _) ?_
      rintro ⟨n_4, i_5⟩ ⟨⟩ x_6 H6 he6
      replace H6 : bywayref09_Room_l1 l0 pages0 n_4 i_5 = some x_6 := H6
      unfold bywayref09_Room_l1 at H6
      refine TC.seq ?_
      refine TC.seqS ?_
      refine TS.s OpY.move rfl ?_
      refine TS.s OpY.move rfl ?_
      refine TS.s OpD.len rfl ?_
      refine TS.s OpY.lss rfl ?_
      refine TS.nil ?_
      refine TE.then ?_
      refine TC.kp [0, 1, 5, 6, 14] [] ?_
      refine TC.cond (fun hc => ?_) (fun hc => ?_)
      · replace H6 := cT H6 hc
        refine TC.skip ?_
        refine TE.then ?_
        refine TC.kp [0, 1, 5, 6] [] ?_
        refine TC.seq ?_
        obtain ⟨o_8, H8, H6⟩ := bnd H6
        refine TC.cutP (fun s : Int => o_8 = s) (fun (n_7 : Int) (_ : Unit) => (Env.set (Env.set (Env.set (Env.set Env.nil 0 (D (l0 : (List Wear)))) 1 (D (pages0 : Int))) 5 (D (n_7 : Int))) 6 (D (i_5 : Int)))) (fun (n_7 : Int) (_ : Unit) => []) ?_ ?_
        · skip
          refine TC.block ?_
          refine TC.seq ?_
          obtain ⟨o_10, H10, H8⟩ := bnd H8
          refine TC.cutP (fun s : Int => o_10 = s) (fun (n_9 : Int) (_ : Unit) => (Env.set (Env.set (Env.set (Env.set Env.nil 0 (D (l0 : (List Wear)))) 1 (D (pages0 : Int))) 5 (D (n_9 : Int))) 6 (D (i_5 : Int)))) (fun (n_9 : Int) (_ : Unit) => []) ?_ ?_
          · skip
            refine TC.seqS ?_
            refine TS.s OpY.move rfl ?_
            refine TS.s OpY.move rfl ?_
            obtain ⟨x_11, ex_11, H10⟩ := bnd H10
            refine TS.s (OpD.index ex_11) rfl ?_
            refine TS.s OpY.fieldAddr rfl ?_
            refine TS.s OpY.load rfl ?_
            refine TS.s OpY.notB rfl ?_
            refine TS.s OpY.move rfl ?_
            refine TS.g 23 rfl (fun hg => OpY.move) rfl ?_
            refine TS.g 23 rfl (fun hg => OpY.move) rfl ?_
            obtain ⟨x_12, ex_12, H10⟩ := bnd H10
            refine TS.g 23 rfl (fun hg => (OpD.index (gb_some ex_12 hg.h))) rfl ?_
            refine TS.g 23 rfl (fun hg => OpY.fieldAddr) rfl ?_
            refine TS.g 23 rfl (fun hg => OpY.load) rfl ?_
            refine TS.g 23 rfl (fun hg => OpY.eql) rfl ?_
            refine TS.s OpY.pickAnd rfl ?_
            refine TS.nil ?_
            refine TE.then ?_
            refine TC.kp [0, 1, 5, 6, 30] [] ?_
            refine TC.cond (fun hc => ?_) (fun hc => ?_)
            · replace H10 := cT H10 hc
              refine TC.regionS ?_
              refine TS.s OpY.move rfl ?_
              refine TS.s OpY.move rfl ?_
              obtain ⟨x_13, ex_13, H10⟩ := bnd H10
              refine TS.s (OpD.add ex_13) rfl ?_
              refine TS.s OpY.assign rfl ?_
              refine TS.nil ?_
              refine TE.kp [0, 1, 5, 6] [] ?_
              exact TE.cutP x_13 () (Option.some.inj H10).symm (Env.cv (Env.cv (Env.cv (Env.cv (Env.le_nil _))))) (Less.nil _)
            · replace H10 := cF H10 hc
              refine TC.skip ?_
              exact TE.cutP n_4 () (Option.some.inj H10).symm (Env.cv (Env.cv (Env.cv (Env.cv (Env.le_nil _))))) (Less.nil _)
          rintro n_9 ⟨⟩ hp
          replace hp := hp.symm
          subst hp
          refine TE.then ?_
          refine TC.kp [0, 1, 5, 6] [] ?_
          refine TC.seqS ?_
          refine TS.s OpY.move rfl ?_
          refine TS.s OpY.move rfl ?_
          obtain ⟨x_14, ex_14, H8⟩ := bnd H8
          refine TS.s (OpD.index ex_14) rfl ?_
          refine TS.s OpY.fieldAddr rfl ?_
          refine TS.s OpY.load rfl ?_
          refine TS.s OpY.notB rfl ?_
          refine TS.s OpY.move rfl ?_
          refine TS.g 40 rfl (fun hg => OpY.move) rfl ?_
          refine TS.g 40 rfl (fun hg => OpY.move) rfl ?_
          obtain ⟨x_15, ex_15, H8⟩ := bnd H8
          refine TS.g 40 rfl (fun hg => (OpD.index (gb_some ex_15 hg.h))) rfl ?_
          refine TS.g 40 rfl (fun hg => OpY.fieldAddr) rfl ?_
          refine TS.g 40 rfl (fun hg => OpY.load) rfl ?_
          refine TS.g 40 rfl (fun hg => OpY.neq) rfl ?_
          refine TS.s OpY.pickAnd rfl ?_
          refine TS.nil ?_
          refine TE.then ?_
          refine TC.kp [0, 1, 5, 6, 47] [] ?_
          refine TC.cond (fun hc => ?_) (fun hc => ?_)
          · replace H8 := cT H8 hc
            refine TC.regionS ?_
            refine TS.s OpY.move rfl ?_
            refine TS.s OpY.move rfl ?_
            refine TS.s OpY.move rfl ?_
            refine TS.s OpY.move rfl ?_
            obtain ⟨x_16, ex_16, H8⟩ := bnd H8
            refine TS.s (OpD.index ex_16) rfl ?_
            refine TS.s OpY.fieldAddr rfl ?_
            refine TS.s OpY.load rfl ?_
            obtain ⟨x_17, ex_17, H8⟩ := bnd H8
            refine TS.s (OpD.sub ex_17) rfl ?_
            obtain ⟨x_18, ex_18, H8⟩ := bnd H8
            refine TS.s (OpD.add ex_18) rfl ?_
            refine TS.s OpY.assign rfl ?_
            refine TS.nil ?_
            refine TE.kp [0, 1, 5, 6] [] ?_
            refine TE.inBlock_normal ?_
            exact TE.cutP x_18 () (Option.some.inj H8).symm (Env.cv (Env.cv (Env.cv (Env.cv (Env.le_nil _))))) (Less.nil _)
          · replace H8 := cF H8 hc
            refine TC.skip ?_
            refine TE.inBlock_normal ?_
            exact TE.cutP n_9 () (Option.some.inj H8).symm (Env.cv (Env.cv (Env.cv (Env.cv (Env.le_nil _))))) (Less.nil _)
        rintro n_7 ⟨⟩ hp
        replace hp := hp.symm
        subst hp
        refine TE.then ?_
        refine TC.kp [0, 1, 5, 6] [] ?_
        refine TC.regionS ?_
        refine TS.s OpY.move rfl ?_
        obtain ⟨x_19, ex_19, H6⟩ := bnd H6
        refine TS.s (OpD.add ex_19) rfl ?_
        refine TS.s OpY.assign rfl ?_
        refine TS.nil ?_
        refine TE.kp [0, 1, 5, 6] [] ?_
        exact TE.backP ⟨n_7, x_19⟩ () (Option.some.inj H6).symm (Env.cv (Env.cv (Env.cv (Env.cv (Env.le_nil _))))) (Less.nil _)
      · replace H6 := cF H6 hc
        refine TC.exit ?_
        refine TE.then_exit ?_
        refine TE.then_exit ?_
        refine TE.inBlock_here ?_
        exact TE.cutP n_4 () (he6 _ (Option.some.inj H6).symm).symm (Env.cv (Env.le_nil _)) (Less.nil _)
    rintro n_2 ⟨⟩ hp
    replace hp := hp.symm
    subst hp
    refine TE.then ?_
    refine TC.kp [5] [] ?_
    refine TC.seqS ?_
    refine TS.s OpY.move rfl ?_
    refine TS.s OpY.assign rfl ?_
    refine TS.nil ?_
    refine TE.then ?_
    refine TC.kp [4] [] ?_
    refine TC.ret ?_
    obtain rfl := (Option.some.inj H)
    exact TE.ret1 rfl Cv.le
def bywayref09_Spread_l2 (l0 : (List Wear)) (i_5 : Int) (most_9 : Int) (k_10 : Int) : Option ((Int × Int) ⊕ Int) :=
  bif (decide (k_10 < (l0.length : Int))) then (((idx l0 i_5).bind fun x_14 => (gb (!x_14.Bad) (idx l0 k_10)).bind fun x_15 => (gb ((!x_14.Bad) && (!x_15.Bad)) (idx l0 i_5)).bind fun x_16 => (gb ((!x_14.Bad) && (!x_15.Bad)) (idx l0 k_10)).bind fun x_17 => (gb ((!x_14.Bad) && (!x_15.Bad)) (subI x_16.Worn x_17.Worn)).bind fun x_18 => bif (((!x_14.Bad) && (!x_15.Bad)) && (decide (x_18 > most_9))) then ((idx l0 i_5).bind fun x_19 => (idx l0 k_10).bind fun x_20 => (subI x_19.Worn x_20.Worn).bind fun x_21 => some x_21) else (some most_9)).bind fun most_12 => (addI k_10 (1 : Int)).bind fun x_22 => some (.inl (most_12, x_22))) else (some (.inr most_9))
def bywayref09_Spread_l1 (l0 : (List Wear)) (most_4 : Int) (i_5 : Int) : Option ((Int × Int) ⊕ Int) :=
  bif (decide (i_5 < (l0.length : Int))) then ((loopO (fun s => bywayref09_Spread_l2 l0 i_5 s.1 s.2) (most_4, (0 : Int))).bind fun most_7 => (addI i_5 (1 : Int)).bind fun x_23 => some (.inl (most_7, x_23))) else (some (.inr most_4))
def bywayref09_Spread (l0 : (List Wear)) : Option Int :=
  (bywayref09_Right l0 (16 : Int)).bind fun x_1 => bif (!x_1) then (some (0 : Int)) else ((loopO (fun s => bywayref09_Spread_l1 l0 s.1 s.2) ((0 : Int), (0 : Int))).bind fun most_2 => some most_2)
/-- bywayref09.Spread -/
theorem bywayref09_Spread_c {A : Nat → Prop} {l0 : (List Wear)}  {r : Int} (w : World) (v0 : Value) (hA : ∀ k, w.heap.size ≤ k → A k)  (h0 : (D (l0 : (List Wear))).p A w v0) (H : bywayref09_Spread l0 = some r) :
    Calls Try.prog 32 #[v0] w (Ret A w (D (r : Int))) := by
  unfold bywayref09_Spread at H
  refine enter1 hA Try.func32 rfl Try.ntmps32 rfl h0 ?_
  refine TC.seqS ?_
  refine TS.s OpY.assign rfl ?_
  refine TS.nil ?_
  refine TE.then ?_
  refine TC.kp [0] [] ?_
  refine TC.seq ?_
  refine TC.seqS ?_
  refine TS.s OpY.move rfl ?_
  obtain ⟨x_1, ex_1, H⟩ := bnd H
  refine TS.s (OpY.call2 fun w v0 v1 hA h0 h1 => bywayref09_Right_c w v0 v1 hA (toD h0) (toD h1) ex_1) rfl ?_
  refine TS.s OpY.notB rfl ?_
  refine TS.nil ?_
  refine TE.then ?_
  refine TC.kp [0, 8] [] ?_
  refine TC.cond (fun hc => ?_) (fun hc => ?_)
  · replace H := cT H hc
    refine TC.seqS ?_
    refine TS.s OpY.assign rfl ?_
    refine TS.nil ?_
    refine TE.then ?_
    refine TC.kp [2] [] ?_
    refine TC.ret ?_
    refine TE.then_ret ?_
    obtain rfl := (Option.some.inj H)
    exact TE.ret1 rfl Cv.le
  · replace H := cF H hc
    refine TC.skip ?_
    refine TE.then ?_
    refine TC.kp [0] [] ?_
    refine TC.seqS ?_
    refine TS.s OpY.assign rfl ?_
    refine TS.nil ?_
    refine TE.then ?_
    refine TC.kp [0, 3] [] ?_
    refine TC.seq ?_
    refine TC.seqS ?_
    refine TS.s OpY.assign rfl ?_
    refine TS.nil ?_
    refine TE.then ?_
    refine TC.kp [0, 3, 4] [] ?_
    obtain ⟨o_3, H3, H⟩ := bnd H
    refine TC.cutP (fun s : Int => o_3 = s) (fun (most_2 : Int) (_ : Unit) => (Env.set Env.nil 3 (D (most_2 : Int)))) (fun (most_2 : Int) (_ : Unit) => []) ?_ ?_
    · skip
      refine TC.block ?_
      refine TC.loopP H3 (fun ⟨most_4, i_5⟩ (_ : Unit) => (Env.set (Env.set (Env.set Env.nil 0 (D (l0 : (List Wear)))) 3 (D (most_4 : Int))) 4 (D (i_5 : Int)))) (fun ⟨most_4, i_5⟩ (_ : Unit) => []) () (Env.cv (Env.cv (Env.cv (Env.le_nil _)))) (Less.nil _) ?_
      rintro ⟨most_4, i_5⟩ ⟨⟩ x_6 H6 he6
      replace H6 : bywayref09_Spread_l1 l0 most_4 i_5 = some x_6 := H6
      unfold bywayref09_Spread_l1 at H6
      refine TC.seq ?_
      refine TC.seqS ?_
      refine TS.s OpY.move rfl ?_
      refine TS.s OpY.move rfl ?_
      refine TS.s OpD.len rfl ?_
      refine TS.s OpY.lss rfl ?_
      refine TS.nil ?_
      refine TE.then ?_
      refine TC.kp [0, 3, 4, 12] [] ?_
      refine TC.cond (fun hc => ?_) (fun hc => ?_)
      · replace H6 := cT H6 hc
        refine TC.skip ?_
        refine TE.then ?_
        refine TC.kp [0, 3, 4] [] ?_
        refine TC.seq ?_
        refine TC.block ?_
        refine TC.seqS ?_
        refine TS.s OpY.assign rfl ?_
        refine TS.nil ?_
        refine TE.then ?_
        refine TC.kp [0, 3, 4, 5] [] ?_
        obtain ⟨o_8, H8, H6⟩ := bnd H6
        refine TC.cutP (fun s : Int => o_8 = s) (fun (most_7 : Int) (_ : Unit) => (Env.set (Env.set (Env.set Env.nil 0 (D (l0 : (List Wear)))) 3 (D (most_7 : Int))) 4 (D (i_5 : Int)))) (fun (most_7 : Int) (_ : Unit) => []) ?_ ?_
        · skip
          refine TC.block ?_
          refine TC.loopP H8 (fun ⟨most_9, k_10⟩ (_ : Unit) => (Env.set (Env.set (Env.set (Env.set Env.nil 0 (D (l0 : (List Wear)))) 3 (D (most_9 : Int))) 4 (D (i_5 : Int))) 5 (D (k_10 : Int)))) (fun ⟨most_9, k_10⟩ (_ : Unit) => []) () (Env.cv (Env.cv (Env.cv (Env.cv (Env.le_nil _))))) (Less.nil _) ?_
          rintro ⟨most_9, k_10⟩ ⟨⟩ x_11 H11 he11
          replace H11 : bywayref09_Spread_l2 l0 i_5 most_9 k_10 = some x_11 := H11
          unfold bywayref09_Spread_l2 at H11
          refine TC.seq ?_
          refine TC.seqS ?_
          refine TS.s OpY.move rfl ?_
          refine TS.s OpY.move rfl ?_
          refine TS.s OpD.len rfl ?_
          refine TS.s OpY.lss rfl ?_
          refine TS.nil ?_
          refine TE.then ?_
          refine TC.kp [0, 3, 4, 5, 18] [] ?_
          refine TC.cond (fun hc => ?_) (fun hc => ?_)
          · replace H11 := cT H11 hc
            refine TC.skip ?_
            refine TE.then ?_
            refine TC.kp [0, 3, 4, 5] [] ?_
            refine TC.seq ?_
            obtain ⟨o_13, H13, H11⟩ := bnd H11
            refine TC.cutP (fun s : Int => o_13 = s) (fun (most_12 : Int) (_ : Unit) => (Env.set (Env.set (Env.set (Env.set Env.nil 0 (D (l0 : (List Wear)))) 3 (D (most_12 : Int))) 4 (D (i_5 : Int))) 5 (D (k_10 : Int)))) (fun (most_12 : Int) (_ : Unit) => []) ?_ ?_
            · skip
              refine TC.block ?_
              refine TC.seqD0 mix (by kernel_rfl) ?_
              refine TR.s OpY.move rfl ?_
              refine TR.s OpY.move rfl ?_
              obtain ⟨x_14, ex_14, H13⟩ := bnd H13
              refine TR.s (OpD.index ex_14) rfl ?_
              refine TR.s OpY.fieldAddr rfl ?_
              refine TR.s OpY.load rfl ?_
              refine TR.s OpY.notB rfl ?_
              refine TR.s OpY.move rfl ?_
              refine TR.g 27 rfl (fun hg => OpY.move) rfl ?_
              refine TR.g 27 rfl (fun hg => OpY.move) rfl ?_
              obtain ⟨x_15, ex_15, H13⟩ := bnd H13
              refine TR.g 27 rfl (fun hg => (OpD.index (gb_some ex_15 hg.h))) rfl ?_
              refine TR.g 27 rfl (fun hg => OpY.fieldAddr) rfl ?_
              refine TR.g 27 rfl (fun hg => OpY.load) rfl ?_
              refine TR.g 27 rfl (fun hg => OpY.notB) rfl ?_
              refine TR.s OpY.pickAnd rfl ?_
              refine TR.s OpY.move rfl ?_
              refine TR.g 35 rfl (fun hg => OpY.move) rfl ?_
              refine TR.g 35 rfl (fun hg => OpY.move) rfl ?_
              obtain ⟨x_16, ex_16, H13⟩ := bnd H13
              refine TR.g 35 rfl (fun hg => (OpD.index (gb_some ex_16 hg.h))) rfl ?_
              refine TR.g 35 rfl (fun hg => OpY.fieldAddr) rfl ?_
              refine TR.g 35 rfl (fun hg => OpY.load) rfl ?_
              refine TR.g 35 rfl (fun hg => OpY.move) rfl ?_
              refine TR.g 35 rfl (fun hg => OpY.move) rfl ?_
              obtain ⟨x_17, ex_17, H13⟩ := bnd H13
              refine TR.g 35 rfl (fun hg => (OpD.index (gb_some ex_17 hg.h))) rfl ?_
              refine TR.g 35 rfl (fun hg => OpY.fieldAddr) rfl ?_
              refine TR.g 35 rfl (fun hg => OpY.load) rfl ?_
              obtain ⟨x_18, ex_18, H13⟩ := bnd H13
              refine TR.g 35 rfl (fun hg => (OpD.sub (gb_some ex_18 hg.h))) rfl ?_
              refine TR.g 35 rfl (fun hg => OpY.move) rfl ?_
              refine TR.g 35 rfl (fun hg => OpY.gtr) rfl ?_
              refine TR.s OpY.pickAnd rfl ?_
              refine TR.nil ?_
              refine TC.kp [0, 3, 4, 5, 49] [] ?_
              refine TC.cond (fun hc => ?_) (fun hc => ?_)
              · replace H13 := cT H13 hc
                refine TC.regD0 mix (by kernel_rfl) ?_
                refine TR.s OpY.move rfl ?_
                refine TR.s OpY.move rfl ?_
                obtain ⟨x_19, ex_19, H13⟩ := bnd H13
                refine TR.s (OpD.index ex_19) rfl ?_
                refine TR.s OpY.fieldAddr rfl ?_
                refine TR.s OpY.load rfl ?_
                refine TR.s OpY.move rfl ?_
                refine TR.s OpY.move rfl ?_
                obtain ⟨x_20, ex_20, H13⟩ := bnd H13
                refine TR.s (OpD.index ex_20) rfl ?_
                refine TR.s OpY.fieldAddr rfl ?_
                refine TR.s OpY.load rfl ?_
                obtain ⟨x_21, ex_21, H13⟩ := bnd H13
                refine TR.s (OpD.sub ex_21) rfl ?_
                refine TR.s OpY.assign rfl ?_
                refine TR.nil ?_
                refine TE.kp [0, 3, 4, 5] [] ?_
                refine TE.inBlock_normal ?_
                exact TE.cutP x_21 () (Option.some.inj H13).symm (Env.cv (Env.cv (Env.cv (Env.cv (Env.le_nil _))))) (Less.nil _)
              · replace H13 := cF H13 hc
                refine TC.skip ?_
                refine TE.inBlock_normal ?_
                exact TE.cutP most_9 () (Option.some.inj H13).symm (Env.cv (Env.cv (Env.cv (Env.cv (Env.le_nil _))))) (Less.nil _)
            rintro most_12 ⟨⟩ hp
            replace hp := hp.symm
            subst hp
            refine TE.then ?_
            refine TC.kp [0, 3, 4, 5] [] ?_
            refine TC.regionS ?_
            refine TS.s OpY.move rfl ?_
            obtain ⟨x_22, ex_22, H11⟩ := bnd H11
            refine TS.s (OpD.add ex_22) rfl ?_
            refine TS.s OpY.assign rfl ?_
            refine TS.nil ?_
            refine TE.kp [0, 3, 4, 5] [] ?_
            exact TE.backP ⟨most_12, x_22⟩ () (Option.some.inj H11).symm (Env.cv (Env.cv (Env.cv (Env.cv (Env.le_nil _))))) (Less.nil _)
          · replace H11 := cF H11 hc
            refine TC.exit ?_
            refine TE.then_exit ?_
            refine TE.then_exit ?_
            refine TE.inBlock_here ?_
            exact TE.cutP most_9 () (he11 _ (Option.some.inj H11).symm).symm (Env.cv (Env.cv (Env.cv (Env.le_nil _)))) (Less.nil _)
        rintro most_7 ⟨⟩ hp
        replace hp := hp.symm
        subst hp
        refine TE.inBlock_normal ?_
        refine TE.then ?_
        refine TC.kp [0, 3, 4] [] ?_
        refine TC.regionS ?_
        refine TS.s OpY.move rfl ?_
        obtain ⟨x_23, ex_23, H6⟩ := bnd H6
        refine TS.s (OpD.add ex_23) rfl ?_
        refine TS.s OpY.assign rfl ?_
        refine TS.nil ?_
        refine TE.kp [0, 3, 4] [] ?_
        exact TE.backP ⟨most_7, x_23⟩ () (Option.some.inj H6).symm (Env.cv (Env.cv (Env.cv (Env.le_nil _)))) (Less.nil _)
      · replace H6 := cF H6 hc
        refine TC.exit ?_
        refine TE.then_exit ?_
        refine TE.then_exit ?_
        refine TE.inBlock_here ?_
        exact TE.cutP most_4 () (he6 _ (Option.some.inj H6).symm).symm (Env.cv (Env.le_nil _)) (Less.nil _)
    rintro most_2 ⟨⟩ hp
    replace hp := hp.symm
    subst hp
    refine TE.then ?_
    refine TC.kp [3] [] ?_
    refine TC.seqS ?_
    refine TS.s OpY.move rfl ?_
    refine TS.s OpY.assign rfl ?_
    refine TS.nil ?_
    refine TE.then ?_
    refine TC.kp [2] [] ?_
    refine TC.ret ?_
    obtain rfl := (Option.some.inj H)
    exact TE.ret1 rfl Cv.le
def bywaylaw09_WearRight (l0 : (List Wear)) (pages0 : Int) : Option Bool :=
  (bywaylaw09_awake).bind fun x_1 => bif (!x_1) then (some false) else (bif (decide ((l0.length : Int) > (40 : Int))) then (some true) else ((wear_Front l0 pages0).bind fun r_2 => (wear_Dead l0 pages0).bind fun r_3 => (wear_Victim l0 pages0).bind fun r_4 => (bywayref09_First l0 pages0 (1 : Int)).bind fun r_5 => (bywayref09_First l0 pages0 (2 : Int)).bind fun r_6 => (bywayref09_First l0 pages0 (3 : Int)).bind fun r_7 => (gb ((((((decide (r_2.1 = r_5.1)) && (decide (r_2.2 = r_5.2))) && (decide (r_3.1 = r_6.1))) && (decide (r_3.2 = r_6.2))) && (decide (r_4.1 = r_7.1))) && (decide (r_4.2 = r_7.2))) (wear_Right l0 pages0)).bind fun x_8 => (gb ((((((decide (r_2.1 = r_5.1)) && (decide (r_2.2 = r_5.2))) && (decide (r_3.1 = r_6.1))) && (decide (r_3.2 = r_6.2))) && (decide (r_4.1 = r_7.1))) && (decide (r_4.2 = r_7.2))) (bywayref09_Right l0 pages0)).bind fun x_9 => (gb (((((((decide (r_2.1 = r_5.1)) && (decide (r_2.2 = r_5.2))) && (decide (r_3.1 = r_6.1))) && (decide (r_3.2 = r_6.2))) && (decide (r_4.1 = r_7.1))) && (decide (r_4.2 = r_7.2))) && (decide (x_8 = x_9))) (wear_Room l0 pages0)).bind fun x_10 => (gb (((((((decide (r_2.1 = r_5.1)) && (decide (r_2.2 = r_5.2))) && (decide (r_3.1 = r_6.1))) && (decide (r_3.2 = r_6.2))) && (decide (r_4.1 = r_7.1))) && (decide (r_4.2 = r_7.2))) && (decide (x_8 = x_9))) (bywayref09_Room l0 pages0)).bind fun x_11 => (gb ((((((((decide (r_2.1 = r_5.1)) && (decide (r_2.2 = r_5.2))) && (decide (r_3.1 = r_6.1))) && (decide (r_3.2 = r_6.2))) && (decide (r_4.1 = r_7.1))) && (decide (r_4.2 = r_7.2))) && (decide (x_8 = x_9))) && (decide (x_10 = x_11))) (wear_Spread l0)).bind fun x_12 => (gb ((((((((decide (r_2.1 = r_5.1)) && (decide (r_2.2 = r_5.2))) && (decide (r_3.1 = r_6.1))) && (decide (r_3.2 = r_6.2))) && (decide (r_4.1 = r_7.1))) && (decide (r_4.2 = r_7.2))) && (decide (x_8 = x_9))) && (decide (x_10 = x_11))) (bywayref09_Spread l0)).bind fun x_13 => some (((((((((decide (r_2.1 = r_5.1)) && (decide (r_2.2 = r_5.2))) && (decide (r_3.1 = r_6.1))) && (decide (r_3.2 = r_6.2))) && (decide (r_4.1 = r_7.1))) && (decide (r_4.2 = r_7.2))) && (decide (x_8 = x_9))) && (decide (x_10 = x_11))) && (decide (x_12 = x_13)))))
/-- bywaylaw09.WearRight -/
theorem bywaylaw09_WearRight_c {A : Nat → Prop} {l0 : (List Wear)} {pages0 : Int}  {r : Bool} (w : World) (v0 v1 : Value) (hA : ∀ k, w.heap.size ≤ k → A k)  (h0 : (D (l0 : (List Wear))).p A w v0) (h1 : (D (pages0 : Int)).p A w v1) (H : bywaylaw09_WearRight l0 pages0 = some r) :
    Calls Try.prog 6 #[v0, v1] w (Ret A w (D (r : Bool))) := by
  unfold bywaylaw09_WearRight at H
  refine enter2 hA Try.func6 rfl Try.ntmps6 rfl h0 h1 ?_
  refine TC.seqS ?_
  refine TS.s OpY.assign rfl ?_
  refine TS.nil ?_
  refine TE.then ?_
  refine TC.kp [0, 1] [] ?_
  refine TC.seq ?_
  refine TC.seqS ?_
  obtain ⟨x_1, ex_1, H⟩ := bnd H
  refine TS.s (OpY.call0 fun w hA => bywaylaw09_awake_c w hA ex_1) rfl ?_
  refine TS.s OpY.notB rfl ?_
  refine TS.nil ?_
  refine TE.then ?_
  refine TC.kp [0, 1, 18] [] ?_
  refine TC.cond (fun hc => ?_) (fun hc => ?_)
  · replace H := cT H hc
    refine TC.seqS ?_
    refine TS.s OpY.assign rfl ?_
    refine TS.nil ?_
    refine TE.then ?_
    refine TC.kp [4] [] ?_
    refine TC.ret ?_
    refine TE.then_ret ?_
    obtain rfl := (Option.some.inj H)
    exact TE.ret1 rfl Cv.le
  · replace H := cF H hc
    refine TC.skip ?_
    refine TE.then ?_
    refine TC.kp [0, 1] [] ?_
    refine TC.seq ?_
    refine TC.seqS ?_
    refine TS.s OpY.move rfl ?_
    refine TS.s OpD.len rfl ?_
    refine TS.s OpY.gtr rfl ?_
    refine TS.nil ?_
    refine TE.then ?_
    refine TC.kp [0, 1, 21] [] ?_
    refine TC.cond (fun hc => ?_) (fun hc => ?_)
    · replace H := cT H hc
      refine TC.seqS ?_
      refine TS.s OpY.assign rfl ?_
      refine TS.nil ?_
      refine TE.then ?_
      refine TC.kp [4] [] ?_
      refine TC.ret ?_
      refine TE.then_ret ?_
      obtain rfl := (Option.some.inj H)
      exact TE.ret1 rfl Cv.le
    · replace H := cF H hc
      refine TC.skip ?_
      refine TE.then ?_
      refine TC.kp [0, 1] [] ?_
      refine TC.seqS ?_
      refine TS.s OpY.move rfl ?_
      refine TS.s OpY.move rfl ?_
      obtain ⟨r_2, er_2, H⟩ := bnd H
      refine TS.s (OpY.call2 fun w v0 v1 hA h0 h1 => wear_Front_c w v0 v1 hA (toD h0) (toD h1) er_2) rfl ?_
      refine TS.s OpY.move rfl ?_
      refine TS.s (OpY.extract rfl) rfl ?_
      refine TS.s (OpY.extract rfl) rfl ?_
      refine TS.s OpY.assign rfl ?_
      refine TS.s OpY.assign rfl ?_
      refine TS.nil ?_
      refine TE.then ?_
      refine TC.kp [0, 1, 5, 6] [] ?_
      refine TC.seqS ?_
      refine TS.s OpY.move rfl ?_
      refine TS.s OpY.move rfl ?_
      obtain ⟨r_3, er_3, H⟩ := bnd H
      refine TS.s (OpY.call2 fun w v0 v1 hA h0 h1 => wear_Dead_c w v0 v1 hA (toD h0) (toD h1) er_3) rfl ?_
      refine TS.s OpY.move rfl ?_
      refine TS.s (OpY.extract rfl) rfl ?_
      refine TS.s (OpY.extract rfl) rfl ?_
      refine TS.s OpY.assign rfl ?_
      refine TS.s OpY.assign rfl ?_
      refine TS.nil ?_
      refine TE.then ?_
      refine TC.kp [0, 1, 5, 6, 7, 8] [] ?_
      refine TC.seqS ?_
      refine TS.s OpY.move rfl ?_
      refine TS.s OpY.move rfl ?_
      obtain ⟨r_4, er_4, H⟩ := bnd H
      refine TS.s (OpY.call2 fun w v0 v1 hA h0 h1 => wear_Victim_c w v0 v1 hA (toD h0) (toD h1) er_4) rfl ?_
      refine TS.s OpY.move rfl ?_
      refine TS.s (OpY.extract rfl) rfl ?_
      refine TS.s (OpY.extract rfl) rfl ?_
      refine TS.s OpY.assign rfl ?_
      refine TS.s OpY.assign rfl ?_
      refine TS.nil ?_
      refine TE.then ?_
      refine TC.kp [0, 1, 5, 6, 7, 8, 9, 10] [] ?_
      refine TC.seqS ?_
      refine TS.s OpY.move rfl ?_
      refine TS.s OpY.move rfl ?_
      obtain ⟨r_5, er_5, H⟩ := bnd H
      refine TS.s (OpY.call3 fun w v0 v1 v2 hA h0 h1 h2 => bywayref09_First_c w v0 v1 v2 hA (toD h0) (toD h1) (toD h2) er_5) rfl ?_
      refine TS.s OpY.move rfl ?_
      refine TS.s (OpY.extract rfl) rfl ?_
      refine TS.s (OpY.extract rfl) rfl ?_
      refine TS.s OpY.assign rfl ?_
      refine TS.s OpY.assign rfl ?_
      refine TS.nil ?_
      refine TE.then ?_
      refine TC.kp [0, 1, 5, 6, 7, 8, 9, 10, 11, 12] [] ?_
      refine TC.seqS ?_
      refine TS.s OpY.move rfl ?_
      refine TS.s OpY.move rfl ?_
      obtain ⟨r_6, er_6, H⟩ := bnd H
      refine TS.s (OpY.call3 fun w v0 v1 v2 hA h0 h1 h2 => bywayref09_First_c w v0 v1 v2 hA (toD h0) (toD h1) (toD h2) er_6) rfl ?_
      refine TS.s OpY.move rfl ?_
      refine TS.s (OpY.extract rfl) rfl ?_
      refine TS.s (OpY.extract rfl) rfl ?_
      refine TS.s OpY.assign rfl ?_
      refine TS.s OpY.assign rfl ?_
      refine TS.nil ?_
      refine TE.then ?_
      refine TC.kp [0, 1, 5, 6, 7, 8, 9, 10, 11, 12, 13, 14] [] ?_
      refine TC.seqS ?_
      refine TS.s OpY.move rfl ?_
      refine TS.s OpY.move rfl ?_
      obtain ⟨r_7, er_7, H⟩ := bnd H
      refine TS.s (OpY.call3 fun w v0 v1 v2 hA h0 h1 h2 => bywayref09_First_c w v0 v1 v2 hA (toD h0) (toD h1) (toD h2) er_7) rfl ?_
      refine TS.s OpY.move rfl ?_
      refine TS.s (OpY.extract rfl) rfl ?_
      refine TS.s (OpY.extract rfl) rfl ?_
      refine TS.s OpY.assign rfl ?_
      refine TS.s OpY.assign rfl ?_
      refine TS.nil ?_
      refine TE.then ?_
      refine TC.kp [0, 1, 5, 6, 7, 8, 9, 10, 11, 12, 13, 14, 15, 16] [] ?_
      refine TC.seqS ?_
      refine TS.s OpY.move rfl ?_
      refine TS.s OpY.move rfl ?_
      refine TS.s OpY.eql rfl ?_
      refine TS.s OpY.move rfl ?_
      refine TS.g 61 rfl (fun hg => OpY.move) rfl ?_
      refine TS.g 61 rfl (fun hg => OpY.move) rfl ?_
      refine TS.g 61 rfl (fun hg => (OpY.eql_bool Try.underlying4)) rfl ?_
      refine TS.s OpY.pickAnd rfl ?_
      refine TS.s OpY.move rfl ?_
      refine TS.g 66 rfl (fun hg => OpY.move) rfl ?_
      refine TS.g 66 rfl (fun hg => OpY.move) rfl ?_
      refine TS.g 66 rfl (fun hg => OpY.eql) rfl ?_
      refine TS.s OpY.pickAnd rfl ?_
      refine TS.s OpY.move rfl ?_
      refine TS.g 71 rfl (fun hg => OpY.move) rfl ?_
      refine TS.g 71 rfl (fun hg => OpY.move) rfl ?_
      refine TS.g 71 rfl (fun hg => (OpY.eql_bool Try.underlying4)) rfl ?_
      refine TS.s OpY.pickAnd rfl ?_
      refine TS.s OpY.move rfl ?_
      refine TS.g 76 rfl (fun hg => OpY.move) rfl ?_
      refine TS.g 76 rfl (fun hg => OpY.move) rfl ?_
      refine TS.g 76 rfl (fun hg => OpY.eql) rfl ?_
      refine TS.s OpY.pickAnd rfl ?_
      refine TS.s OpY.move rfl ?_
      refine TS.g 81 rfl (fun hg => OpY.move) rfl ?_
      refine TS.g 81 rfl (fun hg => OpY.move) rfl ?_
      refine TS.g 81 rfl (fun hg => (OpY.eql_bool Try.underlying4)) rfl ?_
      refine TS.s OpY.pickAnd rfl ?_
      refine TS.s OpY.move rfl ?_
      refine TS.g 86 rfl (fun hg => OpY.move) rfl ?_
      refine TS.g 86 rfl (fun hg => OpY.move) rfl ?_
      obtain ⟨x_8, ex_8, H⟩ := bnd H
      refine TS.g 86 rfl (fun hg => (OpY.call2 fun w v0 v1 hA h0 h1 => wear_Right_c w v0 v1 hA (toD h0) (toD h1) (gb_some ex_8 hg.h))) rfl ?_
      refine TS.g 86 rfl (fun hg => OpY.move) rfl ?_
      refine TS.g 86 rfl (fun hg => OpY.move) rfl ?_
      obtain ⟨x_9, ex_9, H⟩ := bnd H
      refine TS.g 86 rfl (fun hg => (OpY.call2 fun w v0 v1 hA h0 h1 => bywayref09_Right_c w v0 v1 hA (toD h0) (toD h1) (gb_some ex_9 hg.h))) rfl ?_
      refine TS.g 86 rfl (fun hg => (OpY.eql_bool Try.underlying4)) rfl ?_
      refine TS.s OpY.pickAnd rfl ?_
      refine TS.s OpY.move rfl ?_
      refine TS.g 95 rfl (fun hg => OpY.move) rfl ?_
      refine TS.g 95 rfl (fun hg => OpY.move) rfl ?_
      obtain ⟨x_10, ex_10, H⟩ := bnd H
      refine TS.g 95 rfl (fun hg => (OpY.call2 fun w v0 v1 hA h0 h1 => wear_Room_c w v0 v1 hA (toD h0) (toD h1) (gb_some ex_10 hg.h))) rfl ?_
      refine TS.g 95 rfl (fun hg => OpY.move) rfl ?_
      refine TS.g 95 rfl (fun hg => OpY.move) rfl ?_
      obtain ⟨x_11, ex_11, H⟩ := bnd H
      refine TS.g 95 rfl (fun hg => (OpY.call2 fun w v0 v1 hA h0 h1 => bywayref09_Room_c w v0 v1 hA (toD h0) (toD h1) (gb_some ex_11 hg.h))) rfl ?_
      refine TS.g 95 rfl (fun hg => OpY.eql) rfl ?_
      refine TS.s OpY.pickAnd rfl ?_
      refine TS.s OpY.move rfl ?_
      refine TS.g 104 rfl (fun hg => OpY.move) rfl ?_
      obtain ⟨x_12, ex_12, H⟩ := bnd H
      refine TS.g 104 rfl (fun hg => (OpY.call1 fun w v0 hA h0 => wear_Spread_c w v0 hA (toD h0) (gb_some ex_12 hg.h))) rfl ?_
      refine TS.g 104 rfl (fun hg => OpY.move) rfl ?_
      obtain ⟨x_13, ex_13, H⟩ := bnd H
      refine TS.g 104 rfl (fun hg => (OpY.call1 fun w v0 hA h0 => bywayref09_Spread_c w v0 hA (toD h0) (gb_some ex_13 hg.h))) rfl ?_
      refine TS.g 104 rfl (fun hg => OpY.eql) rfl ?_
      refine TS.s OpY.pickAnd rfl ?_
      refine TS.s OpY.assign rfl ?_
      refine TS.nil ?_
      refine TE.then ?_
      refine TC.kp [4] [] ?_
      refine TC.ret ?_
      obtain rfl := (Option.some.inj H)
      exact TE.ret1 rfl Cv.le
def bywaylaw09_WearLeast_l1 (l0 : (List Wear)) (pages0 : Int) (r_3 : (Int × Bool)) (r_4 : (Int × Bool)) (i_12 : Int) : Option (Int ⊕ (Unit ⊕ Bool)) :=
  bif (decide (i_12 < (l0.length : Int))) then ((gb r_4.2 (idx l0 i_12)).bind fun x_14 => (gb (r_4.2 && (!x_14.Bad)) (idx l0 i_12)).bind fun x_15 => (gb ((r_4.2 && (!x_14.Bad)) && (decide (x_15.Live = (0 : Int)))) (idx l0 i_12)).bind fun x_16 => (gb (((r_4.2 && (!x_14.Bad)) && (decide (x_15.Live = (0 : Int)))) && (decide (x_16.Used > (0 : Int)))) (idx l0 i_12)).bind fun x_17 => (gb (((r_4.2 && (!x_14.Bad)) && (decide (x_15.Live = (0 : Int)))) && (decide (x_16.Used > (0 : Int)))) (idx l0 r_4.1)).bind fun x_18 => bif ((((r_4.2 && (!x_14.Bad)) && (decide (x_15.Live = (0 : Int)))) && (decide (x_16.Used > (0 : Int)))) && (decide (x_17.Worn < x_18.Worn))) then (some (.inr (.inr false))) else ((gb r_3.2 (idx l0 i_12)).bind fun x_20 => (gb (r_3.2 && (!x_20.Bad)) (idx l0 i_12)).bind fun x_21 => (gb ((r_3.2 && (!x_20.Bad)) && (decide (x_21.Used < pages0))) (idx l0 i_12)).bind fun x_22 => (gb ((r_3.2 && (!x_20.Bad)) && (decide (x_21.Used < pages0))) (idx l0 r_3.1)).bind fun x_23 => bif (((r_3.2 && (!x_20.Bad)) && (decide (x_21.Used < pages0))) && (decide (x_22.Used > x_23.Used))) then (some (.inr (.inr false))) else ((addI i_12 (1 : Int)).bind fun x_25 => some (.inl x_25)))) else (some (.inr (.inl ())))
def bywaylaw09_WearLeast (l0 : (List Wear)) (pages0 : Int) : Option Bool :=
  (bywaylaw09_awake).bind fun x_1 => bif (!x_1) then (some false) else ((gb (!(decide ((l0.length : Int) > (40 : Int)))) (wear_Right l0 pages0)).bind fun x_2 => bif ((decide ((l0.length : Int) > (40 : Int))) || (!x_2)) then (some true) else ((wear_Front l0 pages0).bind fun r_3 => (wear_Dead l0 pages0).bind fun r_4 => (wear_Victim l0 pages0).bind fun r_5 => (gb r_3.2 (idx l0 r_3.1)).bind fun x_6 => (gb (r_3.2 && (!x_6.Bad)) (idx l0 r_3.1)).bind fun x_7 => (gb ((!(r_3.2 && (x_6.Bad || (decide (x_7.Used ≥ pages0))))) && r_4.2) (idx l0 r_4.1)).bind fun x_8 => (gb (((!(r_3.2 && (x_6.Bad || (decide (x_7.Used ≥ pages0))))) && r_4.2) && (!x_8.Bad)) (idx l0 r_4.1)).bind fun x_9 => (gb ((!((r_3.2 && (x_6.Bad || (decide (x_7.Used ≥ pages0)))) || (r_4.2 && (x_8.Bad || (decide (x_9.Live ≠ (0 : Int))))))) && r_5.2) (idx l0 r_5.1)).bind fun x_10 => bif (((r_3.2 && (x_6.Bad || (decide (x_7.Used ≥ pages0)))) || (r_4.2 && (x_8.Bad || (decide (x_9.Live ≠ (0 : Int)))))) || (r_5.2 && (decide (x_10.Live = (0 : Int))))) then (some false) else ((loopO (fun s => bywaylaw09_WearLeast_l1 l0 pages0 r_3 r_4 s) (0 : Int)).bind fun o_11 => elS o_11 (fun _ => (wear_Room l0 pages0).bind fun x_26 => (gb (decide ((decide (x_26 > (0 : Int))) = (r_3.2 || r_4.2))) (wear_Room l0 pages0)).bind fun x_27 => (gb (decide ((decide (x_26 > (0 : Int))) = (r_3.2 || r_4.2))) (mulI pages0 (l0.length : Int))).bind fun x_28 => some ((decide ((decide (x_26 > (0 : Int))) = (r_3.2 || r_4.2))) && (decide (x_27 ≤ x_28)))) (fun q => some q))))
/-- bywaylaw09.WearLeast -/
theorem bywaylaw09_WearLeast_c {A : Nat → Prop} {l0 : (List Wear)} {pages0 : Int}  {r : Bool} (w : World) (v0 v1 : Value) (hA : ∀ k, w.heap.size ≤ k → A k)  (h0 : (D (l0 : (List Wear))).p A w v0) (h1 : (D (pages0 : Int)).p A w v1) (H : bywaylaw09_WearLeast l0 pages0 = some r) :
    Calls Try.prog 7 #[v0, v1] w (Ret A w (D (r : Bool))) := by
  unfold bywaylaw09_WearLeast at H
  refine enter2 hA Try.func7 rfl Try.ntmps7 rfl h0 h1 ?_
  refine TC.seqS ?_
  refine TS.s OpY.assign rfl ?_
  refine TS.nil ?_
  refine TE.then ?_
  refine TC.kp [0, 1] [] ?_
  refine TC.seq ?_
  refine TC.seqS ?_
  obtain ⟨x_1, ex_1, H⟩ := bnd H
  refine TS.s (OpY.call0 fun w hA => bywaylaw09_awake_c w hA ex_1) rfl ?_
  refine TS.s OpY.notB rfl ?_
  refine TS.nil ?_
  refine TE.then ?_
  refine TC.kp [0, 1, 13] [] ?_
  refine TC.cond (fun hc => ?_) (fun hc => ?_)
  · replace H := cT H hc
    refine TC.seqS ?_
    refine TS.s OpY.assign rfl ?_
    refine TS.nil ?_
    refine TE.then ?_
    refine TC.kp [4] [] ?_
    refine TC.ret ?_
    refine TE.then_ret ?_
    obtain rfl := (Option.some.inj H)
    exact TE.ret1 rfl Cv.le
  · replace H := cF H hc
    refine TC.skip ?_
    refine TE.then ?_
    refine TC.kp [0, 1] [] ?_
    refine TC.seq ?_
    refine TC.seqS ?_
    refine TS.s OpY.move rfl ?_
    refine TS.s OpD.len rfl ?_
    refine TS.s OpY.gtr rfl ?_
    refine TS.s OpY.move rfl ?_
    refine TS.g 17 rfl (fun hg => OpY.move) rfl ?_
    refine TS.g 17 rfl (fun hg => OpY.move) rfl ?_
    obtain ⟨x_2, ex_2, H⟩ := bnd H
    refine TS.g 17 rfl (fun hg => (OpY.call2 fun w v0 v1 hA h0 h1 => wear_Right_c w v0 v1 hA (toD h0) (toD h1) (gb_some ex_2 (nF hg.h)))) rfl ?_
    refine TS.g 17 rfl (fun hg => OpY.notB) rfl ?_
    refine TS.s OpY.pickOr rfl ?_
    refine TS.nil ?_
    refine TE.then ?_
    refine TC.kp [0, 1, 22] [] ?_
    refine TC.cond (fun hc => ?_) (fun hc => ?_)
    · replace H := cT H hc
      refine TC.seqS ?_
      refine TS.s OpY.assign rfl ?_
      refine TS.nil ?_
      refine TE.then ?_
      refine TC.kp [4] [] ?_
      refine TC.ret ?_
      refine TE.then_ret ?_
      obtain rfl := (Option.some.inj H)
      exact TE.ret1 rfl Cv.le
    · replace H := cF H hc
      refine TC.skip ?_
      refine TE.then ?_
      refine TC.kp [0, 1] [] ?_
      refine TC.seqS ?_
      refine TS.s OpY.move rfl ?_
      refine TS.s OpY.move rfl ?_
      obtain ⟨r_3, er_3, H⟩ := bnd H
      refine TS.s (OpY.call2 fun w v0 v1 hA h0 h1 => wear_Front_c w v0 v1 hA (toD h0) (toD h1) er_3) rfl ?_
      refine TS.s OpY.move rfl ?_
      refine TS.s (OpY.extract rfl) rfl ?_
      refine TS.s (OpY.extract rfl) rfl ?_
      refine TS.s OpY.assign rfl ?_
      refine TS.s OpY.assign rfl ?_
      refine TS.nil ?_
      refine TE.then ?_
      refine TC.kp [0, 1, 5, 6] [] ?_
      refine TC.seqS ?_
      refine TS.s OpY.move rfl ?_
      refine TS.s OpY.move rfl ?_
      obtain ⟨r_4, er_4, H⟩ := bnd H
      refine TS.s (OpY.call2 fun w v0 v1 hA h0 h1 => wear_Dead_c w v0 v1 hA (toD h0) (toD h1) er_4) rfl ?_
      refine TS.s OpY.move rfl ?_
      refine TS.s (OpY.extract rfl) rfl ?_
      refine TS.s (OpY.extract rfl) rfl ?_
      refine TS.s OpY.assign rfl ?_
      refine TS.s OpY.assign rfl ?_
      refine TS.nil ?_
      refine TE.then ?_
      refine TC.kp [0, 1, 5, 6, 7, 8] [] ?_
      refine TC.seqS ?_
      refine TS.s OpY.move rfl ?_
      refine TS.s OpY.move rfl ?_
      obtain ⟨r_5, er_5, H⟩ := bnd H
      refine TS.s (OpY.call2 fun w v0 v1 hA h0 h1 => wear_Victim_c w v0 v1 hA (toD h0) (toD h1) er_5) rfl ?_
      refine TS.s OpY.move rfl ?_
      refine TS.s (OpY.extract rfl) rfl ?_
      refine TS.s (OpY.extract rfl) rfl ?_
      refine TS.s OpY.assign rfl ?_
      refine TS.s OpY.assign rfl ?_
      refine TS.nil ?_
      refine TE.then ?_
      refine TC.kp [0, 1, 5, 6, 7, 8, 9, 10] [] ?_
      refine TC.seq ?_
      refine TC.seqS ?_
      refine TS.s OpY.move rfl ?_
      refine TS.s OpY.move rfl ?_
      refine TS.g 42 rfl (fun hg => OpY.move) rfl ?_
      refine TS.g 42 rfl (fun hg => OpY.move) rfl ?_
      obtain ⟨x_6, ex_6, H⟩ := bnd H
      refine TS.g 42 rfl (fun hg => (OpD.index (gb_some ex_6 hg.h))) rfl ?_
      refine TS.g 42 rfl (fun hg => OpY.fieldAddr) rfl ?_
      refine TS.g 42 rfl (fun hg => OpY.load) rfl ?_
      refine TS.g 42 rfl (fun hg => OpY.move) rfl ?_
      refine TS.gg 48 rfl (fun hp hg => OpY.move) rfl ?_
      refine TS.gg 48 rfl (fun hp hg => OpY.move) rfl ?_
      obtain ⟨x_7, ex_7, H⟩ := bnd H
      refine TS.gg 48 rfl (fun hp hg => (OpD.index (gb_some ex_7 (aT hp.h (nF hg.h))))) rfl ?_
      refine TS.gg 48 rfl (fun hp hg => OpY.fieldAddr) rfl ?_
      refine TS.gg 48 rfl (fun hp hg => OpY.load) rfl ?_
      refine TS.gg 48 rfl (fun hp hg => OpY.move) rfl ?_
      refine TS.gg 48 rfl (fun hp hg => OpY.geq) rfl ?_
      refine TS.g 42 rfl (fun hg => OpY.pickOr) rfl ?_
      refine TS.s OpY.pickAnd rfl ?_
      refine TS.s OpY.move rfl ?_
      refine TS.g 58 rfl (fun hg => OpY.move) rfl ?_
      refine TS.g 58 rfl (fun hg => OpY.move) rfl ?_
      refine TS.gg 60 rfl (fun hp hg => OpY.move) rfl ?_
      refine TS.gg 60 rfl (fun hp hg => OpY.move) rfl ?_
      obtain ⟨x_8, ex_8, H⟩ := bnd H
      refine TS.gg 60 rfl (fun hp hg => (OpD.index (gb_some ex_8 (aT (nF hp.h) hg.h)))) rfl ?_
      refine TS.gg 60 rfl (fun hp hg => OpY.fieldAddr) rfl ?_
      refine TS.gg 60 rfl (fun hp hg => OpY.load) rfl ?_
      refine TS.gg 60 rfl (fun hp hg => OpY.move) rfl ?_
      refine TS.gg 66 rfl (fun hp hg => haveI l0 := Ft.l hp; haveI r0 := Ft.r hp; OpY.move) rfl ?_
      refine TS.gg 66 rfl (fun hp hg => haveI l0 := Ft.l hp; haveI r0 := Ft.r hp; OpY.move) rfl ?_
      obtain ⟨x_9, ex_9, H⟩ := bnd H
      refine TS.gg 66 rfl (fun hp hg => haveI l0 := Ft.l hp; haveI r0 := Ft.r hp; (OpD.index (gb_some ex_9 (aT (aT (nF hp.h.1) hp.h.2) (nF hg.h))))) rfl ?_
      refine TS.gg 66 rfl (fun hp hg => haveI l0 := Ft.l hp; haveI r0 := Ft.r hp; OpY.fieldAddr) rfl ?_
      refine TS.gg 66 rfl (fun hp hg => haveI l0 := Ft.l hp; haveI r0 := Ft.r hp; OpY.load) rfl ?_
      refine TS.gg 66 rfl (fun hp hg => haveI l0 := Ft.l hp; haveI r0 := Ft.r hp; OpY.neq) rfl ?_
      refine TS.gg 60 rfl (fun hp hg => OpY.pickOr) rfl ?_
      refine TS.g 58 rfl (fun hg => OpY.pickAnd) rfl ?_
      refine TS.s OpY.pickOr rfl ?_
      refine TS.s OpY.move rfl ?_
      refine TS.g 76 rfl (fun hg => OpY.move) rfl ?_
      refine TS.g 76 rfl (fun hg => OpY.move) rfl ?_
      refine TS.gg 78 rfl (fun hp hg => OpY.move) rfl ?_
      refine TS.gg 78 rfl (fun hp hg => OpY.move) rfl ?_
      obtain ⟨x_10, ex_10, H⟩ := bnd H
      refine TS.gg 78 rfl (fun hp hg => (OpD.index (gb_some ex_10 (aT (nF hp.h) hg.h)))) rfl ?_
      refine TS.gg 78 rfl (fun hp hg => OpY.fieldAddr) rfl ?_
      refine TS.gg 78 rfl (fun hp hg => OpY.load) rfl ?_
      refine TS.gg 78 rfl (fun hp hg => OpY.eql) rfl ?_
      refine TS.g 76 rfl (fun hg => OpY.pickAnd) rfl ?_
      refine TS.s OpY.pickOr rfl ?_
      refine TS.nil ?_
      refine TE.then ?_
      refine TC.kp [0, 1, 5, 6, 7, 8, 86] [] ?_
      refine TC.cond (fun hc => ?_) (fun hc => ?_)
      · replace H := cT H hc
        refine TC.seqS ?_
        refine TS.s OpY.assign rfl ?_
        refine TS.nil ?_
        refine TE.then ?_
        refine TC.kp [4] [] ?_
        refine TC.ret ?_
        refine TE.then_ret ?_
        obtain rfl := (Option.some.inj H)
        exact TE.ret1 rfl Cv.le
      · replace H := cF H hc
        refine TC.skip ?_
        refine TE.then ?_
        refine TC.kp [0, 1, 5, 6, 7, 8] [] ?_
        refine TC.seq ?_
        refine TC.seqS ?_
        refine TS.s OpY.assign rfl ?_
        refine TS.nil ?_
        refine TE.then ?_
        refine TC.kp [0, 1, 5, 6, 7, 8, 11] [] ?_
        obtain ⟨o_11, H11, H⟩ := bnd H
        refine TC.cutP (fun s : Unit => o_11 = .inl s) (fun (_ : Unit) (_ : Unit) => (Env.set (Env.set (Env.set (Env.set Env.nil 0 (D (l0 : (List Wear)))) 1 (D (pages0 : Int))) 6 (D (r_3.2 : Bool))) 8 (D (r_4.2 : Bool)))) (fun (_ : Unit) (_ : Unit) => []) ?_ ?_
        · skip
          refine TC.block ?_
          refine TC.loopP H11 (fun (i_12 : Int) (_ : Unit) => (Env.set (Env.set (Env.set (Env.set (Env.set (Env.set (Env.set Env.nil 0 (D (l0 : (List Wear)))) 1 (D (pages0 : Int))) 5 (D (r_3.1 : Int))) 6 (D (r_3.2 : Bool))) 7 (D (r_4.1 : Int))) 8 (D (r_4.2 : Bool))) 11 (D (i_12 : Int)))) (fun (i_12 : Int) (_ : Unit) => []) () (Env.cv (Env.cv (Env.cv (Env.cv (Env.cv (Env.cv (Env.cv (Env.le_nil _)))))))) (Less.nil _) ?_
          rintro i_12 ⟨⟩ x_13 H13 he13
          replace H13 : bywaylaw09_WearLeast_l1 l0 pages0 r_3 r_4 i_12 = some x_13 := H13
          unfold bywaylaw09_WearLeast_l1 at H13
          refine TC.seq ?_
          refine TC.seqS ?_
          refine TS.s OpY.move rfl ?_
          refine TS.s OpY.move rfl ?_
          refine TS.s OpD.len rfl ?_
          refine TS.s OpY.lss rfl ?_
          refine TS.nil ?_
          refine TE.then ?_
          refine TC.kp [0, 1, 5, 6, 7, 8, 11, 90] [] ?_
          refine TC.cond (fun hc => ?_) (fun hc => ?_)
          · replace H13 := cT H13 hc
            refine TC.skip ?_
            refine TE.then ?_
            refine TC.kp [0, 1, 5, 6, 7, 8, 11] [] ?_
            refine TC.seq ?_
            refine TC.block ?_
            refine TC.seq ?_
            refine TC.seqD0 mix (by kernel_rfl) ?_
            refine TR.s OpY.move rfl ?_
            refine TR.s OpY.move rfl ?_
            refine TR.g 94 rfl (fun hg => OpY.move) rfl ?_
            refine TR.g 94 rfl (fun hg => OpY.move) rfl ?_
            obtain ⟨x_14, ex_14, H13⟩ := bnd H13
            refine TR.g 94 rfl (fun hg => (OpD.index (gb_some ex_14 hg.h))) rfl ?_
            refine TR.g 94 rfl (fun hg => OpY.fieldAddr) rfl ?_
            refine TR.g 94 rfl (fun hg => OpY.load) rfl ?_
            refine TR.g 94 rfl (fun hg => OpY.notB) rfl ?_
            refine TR.s OpY.pickAnd rfl ?_
            refine TR.s OpY.move rfl ?_
            refine TR.g 102 rfl (fun hg => OpY.move) rfl ?_
            refine TR.g 102 rfl (fun hg => OpY.move) rfl ?_
            obtain ⟨x_15, ex_15, H13⟩ := bnd H13
            refine TR.g 102 rfl (fun hg => (OpD.index (gb_some ex_15 hg.h))) rfl ?_
            refine TR.g 102 rfl (fun hg => OpY.fieldAddr) rfl ?_
            refine TR.g 102 rfl (fun hg => OpY.load) rfl ?_
            refine TR.g 102 rfl (fun hg => OpY.eql) rfl ?_
            refine TR.s OpY.pickAnd rfl ?_
            refine TR.s OpY.move rfl ?_
            refine TR.g 110 rfl (fun hg => OpY.move) rfl ?_
            refine TR.g 110 rfl (fun hg => OpY.move) rfl ?_
            obtain ⟨x_16, ex_16, H13⟩ := bnd H13
            refine TR.g 110 rfl (fun hg => (OpD.index (gb_some ex_16 hg.h))) rfl ?_
            refine TR.g 110 rfl (fun hg => OpY.fieldAddr) rfl ?_
            refine TR.g 110 rfl (fun hg => OpY.load) rfl ?_
            refine TR.g 110 rfl (fun hg => OpY.gtr) rfl ?_
            refine TR.s OpY.pickAnd rfl ?_
            refine TR.s OpY.move rfl ?_
            refine TR.g 118 rfl (fun hg => OpY.move) rfl ?_
            refine TR.g 118 rfl (fun hg => OpY.move) rfl ?_
            obtain ⟨x_17, ex_17, H13⟩ := bnd H13
            refine TR.g 118 rfl (fun hg => (OpD.index (gb_some ex_17 hg.h))) rfl ?_
            refine TR.g 118 rfl (fun hg => OpY.fieldAddr) rfl ?_
            refine TR.g 118 rfl (fun hg => OpY.load) rfl ?_
            refine TR.g 118 rfl (fun hg => OpY.move) rfl ?_
            refine TR.g 118 rfl (fun hg => OpY.move) rfl ?_
            obtain ⟨x_18, ex_18, H13⟩ := bnd H13
            refine TR.g 118 rfl (fun hg => (OpD.index (gb_some ex_18 hg.h))) rfl ?_
            refine TR.g 118 rfl (fun hg => OpY.fieldAddr) rfl ?_
            refine TR.g 118 rfl (fun hg => OpY.load) rfl ?_
            refine TR.g 118 rfl (fun hg => OpY.lss) rfl ?_
            refine TR.s OpY.pickAnd rfl ?_
            refine TR.nil ?_
            refine TC.kp [0, 1, 5, 6, 7, 8, 11, 130] [] ?_
            refine TC.cond (fun hc => ?_) (fun hc => ?_)
            · replace H13 := cT H13 hc
              refine TC.seqS ?_
              refine TS.s OpY.assign rfl ?_
              refine TS.nil ?_
              refine TE.then ?_
              refine TC.kp [4] [] ?_
              refine TC.ret ?_
              refine TE.then_ret ?_
              refine TE.inBlock_ret ?_
              refine TE.then_ret ?_
              refine TE.then_ret ?_
              refine TE.inBlock_ret ?_
              refine TE.cut_ret ?_
              have R18 := elS_r (he13 _ (Option.some.inj H13).symm) H
              refine TE.then_ret ?_
              obtain rfl := (Option.some.inj R18)
              exact TE.ret1 rfl Cv.le
            · replace H13 := cF H13 hc
              refine TC.skip ?_
              refine TE.then ?_
              refine TC.kp [0, 1, 5, 6, 7, 8, 11] [] ?_
              refine TC.seqD0 mix (by kernel_rfl) ?_
              refine TR.s OpY.move rfl ?_
              refine TR.s OpY.move rfl ?_
              refine TR.g 132 rfl (fun hg => OpY.move) rfl ?_
              refine TR.g 132 rfl (fun hg => OpY.move) rfl ?_
              obtain ⟨x_20, ex_20, H13⟩ := bnd H13
              refine TR.g 132 rfl (fun hg => (OpD.index (gb_some ex_20 hg.h))) rfl ?_
              refine TR.g 132 rfl (fun hg => OpY.fieldAddr) rfl ?_
              refine TR.g 132 rfl (fun hg => OpY.load) rfl ?_
              refine TR.g 132 rfl (fun hg => OpY.notB) rfl ?_
              refine TR.s OpY.pickAnd rfl ?_
              refine TR.s OpY.move rfl ?_
              refine TR.g 140 rfl (fun hg => OpY.move) rfl ?_
              refine TR.g 140 rfl (fun hg => OpY.move) rfl ?_
              obtain ⟨x_21, ex_21, H13⟩ := bnd H13
              refine TR.g 140 rfl (fun hg => (OpD.index (gb_some ex_21 hg.h))) rfl ?_
              refine TR.g 140 rfl (fun hg => OpY.fieldAddr) rfl ?_
              refine TR.g 140 rfl (fun hg => OpY.load) rfl ?_
              refine TR.g 140 rfl (fun hg => OpY.move) rfl ?_
              refine TR.g 140 rfl (fun hg => OpY.lss) rfl ?_
              refine TR.s OpY.pickAnd rfl ?_
              refine TR.s OpY.move rfl ?_
              refine TR.g 149 rfl (fun hg => OpY.move) rfl ?_
              refine TR.g 149 rfl (fun hg => OpY.move) rfl ?_
              obtain ⟨x_22, ex_22, H13⟩ := bnd H13
              refine TR.g 149 rfl (fun hg => (OpD.index (gb_some ex_22 hg.h))) rfl ?_
              refine TR.g 149 rfl (fun hg => OpY.fieldAddr) rfl ?_
              refine TR.g 149 rfl (fun hg => OpY.load) rfl ?_
              refine TR.g 149 rfl (fun hg => OpY.move) rfl ?_
              refine TR.g 149 rfl (fun hg => OpY.move) rfl ?_
              obtain ⟨x_23, ex_23, H13⟩ := bnd H13
              refine TR.g 149 rfl (fun hg => (OpD.index (gb_some ex_23 hg.h))) rfl ?_
              refine TR.g 149 rfl (fun hg => OpY.fieldAddr) rfl ?_
              refine TR.g 149 rfl (fun hg => OpY.load) rfl ?_
              refine TR.g 149 rfl (fun hg => OpY.gtr) rfl ?_
              refine TR.s OpY.pickAnd rfl ?_
              refine TR.nil ?_
              refine TC.kp [0, 1, 5, 6, 7, 8, 11, 161] [] ?_
              refine TC.cond (fun hc => ?_) (fun hc => ?_)
              · replace H13 := cT H13 hc
                refine TC.seqS ?_
                refine TS.s OpY.assign rfl ?_
                refine TS.nil ?_
                refine TE.then ?_
                refine TC.kp [4] [] ?_
                refine TC.ret ?_
                refine TE.inBlock_ret ?_
                refine TE.then_ret ?_
                refine TE.then_ret ?_
                refine TE.inBlock_ret ?_
                refine TE.cut_ret ?_
                have R23 := elS_r (he13 _ (Option.some.inj H13).symm) H
                refine TE.then_ret ?_
                obtain rfl := (Option.some.inj R23)
                exact TE.ret1 rfl Cv.le
              · replace H13 := cF H13 hc
                refine TC.skip ?_
                refine TE.inBlock_normal ?_
                refine TE.then ?_
                refine TC.kp [0, 1, 5, 6, 7, 8, 11] [] ?_
                refine TC.regionS ?_
                refine TS.s OpY.move rfl ?_
                obtain ⟨x_25, ex_25, H13⟩ := bnd H13
                refine TS.s (OpD.add ex_25) rfl ?_
                refine TS.s OpY.assign rfl ?_
                refine TS.nil ?_
                refine TE.kp [0, 1, 5, 6, 7, 8, 11] [] ?_
                exact TE.backP x_25 () (Option.some.inj H13).symm (Env.cv (Env.cv (Env.cv (Env.cv (Env.cv (Env.cv (Env.cv (Env.le_nil _)))))))) (Less.nil _)
          · replace H13 := cF H13 hc
            refine TC.exit ?_
            refine TE.then_exit ?_
            refine TE.then_exit ?_
            refine TE.inBlock_here ?_
            exact TE.cutP () () (he13 _ (Option.some.inj H13).symm).symm (Env.cv (Env.cv (Env.cv (Env.cv (Env.le_nil _))))) (Less.nil _)
        rintro ⟨⟩ ⟨⟩ hp
        replace H := elS_l hp H
        refine TE.then ?_
        refine TC.kp [0, 1, 6, 8] [] ?_
        refine TC.seqS ?_
        refine TS.s OpY.move rfl ?_
        refine TS.s OpY.move rfl ?_
        obtain ⟨x_26, ex_26, H⟩ := bnd H
        refine TS.s (OpY.call2 fun w v0 v1 hA h0 h1 => wear_Room_c w v0 v1 hA (toD h0) (toD h1) ex_26) rfl ?_
        refine TS.s OpY.gtr rfl ?_
        refine TS.s OpY.move rfl ?_
        refine TS.s OpY.move rfl ?_
        refine TS.g 167 rfl (fun hg => OpY.move) rfl ?_
        refine TS.s OpY.pickOr rfl ?_
        refine TS.s (OpY.eql_bool Try.underlying4) rfl ?_
        refine TS.s OpY.move rfl ?_
        refine TS.g 171 rfl (fun hg => OpY.move) rfl ?_
        refine TS.g 171 rfl (fun hg => OpY.move) rfl ?_
        obtain ⟨x_27, ex_27, H⟩ := bnd H
        refine TS.g 171 rfl (fun hg => (OpY.call2 fun w v0 v1 hA h0 h1 => wear_Room_c w v0 v1 hA (toD h0) (toD h1) (gb_some ex_27 hg.h))) rfl ?_
        refine TS.g 171 rfl (fun hg => OpY.move) rfl ?_
        refine TS.g 171 rfl (fun hg => OpY.move) rfl ?_
        refine TS.g 171 rfl (fun hg => OpD.len) rfl ?_
        obtain ⟨x_28, ex_28, H⟩ := bnd H
        refine TS.g 171 rfl (fun hg => (OpD.mul (gb_some ex_28 hg.h))) rfl ?_
        refine TS.g 171 rfl (fun hg => OpY.leq) rfl ?_
        refine TS.s OpY.pickAnd rfl ?_
        refine TS.s OpY.assign rfl ?_
        refine TS.nil ?_
        refine TE.then ?_
        refine TC.kp [4] [] ?_
        refine TC.ret ?_
        obtain rfl := (Option.some.inj H)
        exact TE.ret1 rfl Cv.le
def bywaylaw09_WearMore_l1 (i_34 : Int) (w_35 : (List Wear)) : Option ((Int × (List Wear)) ⊕ (List Wear)) :=
  bif (decide (i_34 < (w_35.length : Int))) then ((idx w_35 i_34).bind fun x_37 => (some ((w_35.set (Int.toNat i_34) (⟨x_37.Live, x_37.Used, (7 : Int), x_37.Bad⟩ : Wear)) : (List Wear))).bind fun l_38 => (addI i_34 (1 : Int)).bind fun x_39 => some (.inl (x_39, l_38))) else (some (.inr w_35))
def bywaylaw09_WearMore (l0 : (List Wear)) (pages0 : Int) (at0 : UInt8) : Option Bool :=
  (bywaylaw09_awake).bind fun x_1 => bif (!x_1) then (some false) else ((gb (!(decide ((l0.length : Int) > (40 : Int)))) (wear_Right l0 pages0)).bind fun x_2 => bif ((decide ((l0.length : Int) > (40 : Int))) || (!x_2)) then (some true) else ((remI (at0.toNat : Int) (l0.length : Int)).bind fun x_3 => (room 32 ((([] : List Wear).length + l0.length : Nat) : Int)).bind fun u_6 => (some ((([] : List Wear) ++ l0) : (List Wear))).bind fun l_7 => (idx l_7 x_3).bind fun x_8 => (some ((l_7.set (Int.toNat x_3) (⟨x_8.Live, x_8.Used, x_8.Worn, true⟩ : Wear)) : (List Wear))).bind fun l_9 => ((idx l0 x_3).bind fun x_12 => bif (!x_12.Bad) then ((idx l0 x_3).bind fun x_13 => (subI pages0 x_13.Used).bind fun x_14 => (idx l0 x_3).bind fun x_15 => bif (decide (x_15.Live = (0 : Int))) then (some pages0) else (some x_14)) else (some (0 : Int))).bind fun room_10 => (wear_Room l_9 pages0).bind fun x_16 => (wear_Room l0 pages0).bind fun x_17 => (subI x_17 room_10).bind fun x_18 => bif (decide (x_16 ≠ x_18)) then (some false) else ((wear_Dead l0 pages0).bind fun r_19 => (room 32 ((([] : List Wear).length + l0.length : Nat) : Int)).bind fun u_22 => (some ((([] : List Wear) ++ l0) : (List Wear))).bind fun l_23 => ((idx l_23 x_3).bind fun x_26 => bif (decide (x_26.Worn < (549755813888 : Int))) then ((idx l_23 x_3).bind fun x_27 => (addI x_27.Worn (1 : Int)).bind fun x_28 => (idx l_23 x_3).bind fun x_29 => (some ((l_23.set (Int.toNat x_3) (⟨x_29.Live, x_29.Used, x_28, x_29.Bad⟩ : Wear)) : (List Wear))).bind fun l_30 => some l_30) else (some l_23)).bind fun w_24 => (wear_Dead w_24 pages0).bind fun r_31 => bif ((decide (r_19.2 ≠ r_31.2)) || ((r_19.2 && (decide (r_31.1 ≠ r_19.1))) && (decide (x_3 ≠ r_19.1)))) then (some false) else ((loopO (fun s => bywaylaw09_WearMore_l1 s.1 s.2) ((0 : Int), w_24)).bind fun w_32 => (wear_Spread w_32).bind fun x_40 => some (decide (x_40 = (0 : Int)))))))
/-- bywaylaw09.WearMore -/
theorem bywaylaw09_WearMore_c {A : Nat → Prop} {l0 : (List Wear)} {pages0 : Int} {at0 : UInt8}  {r : Bool} (w : World) (v0 v1 v2 : Value) (hA : ∀ k, w.heap.size ≤ k → A k)  (h0 : (D (l0 : (List Wear))).p A w v0) (h1 : (D (pages0 : Int)).p A w v1) (h2 : (D (at0 : UInt8)).p A w v2) (H : bywaylaw09_WearMore l0 pages0 at0 = some r) :
    Calls Try.prog 8 #[v0, v1, v2] w (Ret A w (D (r : Bool))) := by
  unfold bywaylaw09_WearMore at H
  refine enter3 hA Try.func8 rfl Try.ntmps8 rfl h0 h1 h2 ?_
  refine TC.seqS ?_
  refine TS.s OpY.assign rfl ?_
  refine TS.nil ?_
  refine TE.then ?_
  refine TC.kp [0, 1, 2] [] ?_
  refine TC.seq ?_
  refine TC.seqS ?_
  obtain ⟨x_1, ex_1, H⟩ := bnd H
  refine TS.s (OpY.call0 fun w hA => bywaylaw09_awake_c w hA ex_1) rfl ?_
  refine TS.s OpY.notB rfl ?_
  refine TS.nil ?_
  refine TE.then ?_
  refine TC.kp [0, 1, 2, 17] [] ?_
  refine TC.cond (fun hc => ?_) (fun hc => ?_)
  · replace H := cT H hc
    refine TC.seqS ?_
    refine TS.s OpY.assign rfl ?_
    refine TS.nil ?_
    refine TE.then ?_
    refine TC.kp [6] [] ?_
    refine TC.ret ?_
    refine TE.then_ret ?_
    obtain rfl := (Option.some.inj H)
    exact TE.ret1 rfl Cv.le
  · replace H := cF H hc
    refine TC.skip ?_
    refine TE.then ?_
    refine TC.kp [0, 1, 2] [] ?_
    refine TC.seq ?_
    refine TC.seqS ?_
    refine TS.s OpY.move rfl ?_
    refine TS.s OpD.len rfl ?_
    refine TS.s OpY.gtr rfl ?_
    refine TS.s OpY.move rfl ?_
    refine TS.g 21 rfl (fun hg => OpY.move) rfl ?_
    refine TS.g 21 rfl (fun hg => OpY.move) rfl ?_
    obtain ⟨x_2, ex_2, H⟩ := bnd H
    refine TS.g 21 rfl (fun hg => (OpY.call2 fun w v0 v1 hA h0 h1 => wear_Right_c w v0 v1 hA (toD h0) (toD h1) (gb_some ex_2 (nF hg.h)))) rfl ?_
    refine TS.g 21 rfl (fun hg => OpY.notB) rfl ?_
    refine TS.s OpY.pickOr rfl ?_
    refine TS.nil ?_
    refine TE.then ?_
    refine TC.kp [0, 1, 2, 26] [] ?_
    refine TC.cond (fun hc => ?_) (fun hc => ?_)
    · replace H := cT H hc
      refine TC.seqS ?_
      refine TS.s OpY.assign rfl ?_
      refine TS.nil ?_
      refine TE.then ?_
      refine TC.kp [6] [] ?_
      refine TC.ret ?_
      refine TE.then_ret ?_
      obtain rfl := (Option.some.inj H)
      exact TE.ret1 rfl Cv.le
    · replace H := cF H hc
      refine TC.skip ?_
      refine TE.then ?_
      refine TC.kp [0, 1, 2] [] ?_
      refine TC.seqS ?_
      refine TS.s OpY.move rfl ?_
      refine TS.s OpD.conv8_i rfl ?_
      refine TS.s OpY.move rfl ?_
      refine TS.s OpD.len rfl ?_
      obtain ⟨x_3, ex_3, H⟩ := bnd H
      refine TS.s (OpD.rem ex_3) rfl ?_
      refine TS.s OpY.assign rfl ?_
      refine TS.nil ?_
      refine TE.then ?_
      refine TC.kp [0, 1, 7] [] ?_
      refine TC.seqS ?_
      refine TS.build [] rfl rfl (by decide) rfl fun b32_3 => ?_
      refine TS.s OpY.move rfl ?_
      obtain ⟨u_6, eu_6, H⟩ := bnd H
      refine TS.app (ys := l0) inferInstance eu_6 rfl rfl rfl fun b34_4 p34_4 c34_4 => ?_
      refine TS.s OpY.assign rfl ?_
      refine TS.nil ?_
      refine TE.then ?_
      refine TC.kp [0, 1, 7, 8] [b34_4] ?_
      obtain ⟨l_7, el_7, H⟩ := bnd H
      refine TC.nmB b34_4 (nm_row el_7) ?_
      refine TC.see 8 _ (nm_sl2 el_7 rfl) ?_
      refine TC.seqS ?_
      refine TS.s OpY.move rfl ?_
      refine TS.s OpY.move rfl ?_
      obtain ⟨x_8, ex_8, H⟩ := bnd H
      refine TS.s (OpD.indexq (idx_in ex_8 rfl)) rfl ?_
      refine TS.s OpY.fieldAddr rfl ?_
      refine TS.un (OpT.storeq (y := (true : Bool)) (Pl.fld (off := 3) (α := Wear) (β := Bool) (Pl.rowz ex_8))) ?_
      refine TS.nil ?_
      refine TE.then ?_
      refine TC.kp [0, 1, 7, 8] [b34_4] ?_
      obtain ⟨l_9, el_9, H⟩ := bnd H
      refine TC.nmB b34_4 (nm_row el_9) ?_
      refine TC.see 8 _ (nm_sl2 el_9 (by simp)) ?_
      refine TC.seqS ?_
      refine TS.s OpY.assign rfl ?_
      refine TS.nil ?_
      refine TE.then ?_
      refine TC.kp [0, 1, 7, 8, 9] [b34_4] ?_
      refine TC.seq ?_
      obtain ⟨o_11, H11, H⟩ := bnd H
      refine TC.cutP (fun s : Int => o_11 = s) (fun (room_10 : Int) (_ : Unit) => (Env.set (Env.set (Env.set (Env.set (Env.set Env.nil 0 (D (l0 : (List Wear)))) 1 (D (pages0 : Int))) 7 (D (x_3 : Int))) 8 (Sl b34_4 p34_4 0 l_9.length c34_4)) 9 (D (room_10 : Int)))) (fun (room_10 : Int) (_ : Unit) => [⟨b34_4, p34_4, (Row (l_9 : List Wear) c34_4)⟩]) ?_ ?_
      · skip
        refine TC.seqS ?_
        refine TS.s OpY.move rfl ?_
        refine TS.s OpY.move rfl ?_
        obtain ⟨x_12, ex_12, H11⟩ := bnd H11
        refine TS.s (OpD.index ex_12) rfl ?_
        refine TS.s OpY.fieldAddr rfl ?_
        refine TS.s OpY.load rfl ?_
        refine TS.s OpY.notB rfl ?_
        refine TS.nil ?_
        refine TE.then ?_
        refine TC.kp [0, 1, 7, 8, 9, 44] [b34_4] ?_
        refine TC.cond (fun hc => ?_) (fun hc => ?_)
        · replace H11 := cT H11 hc
          refine TC.seqS ?_
          refine TS.s OpY.move rfl ?_
          refine TS.s OpY.move rfl ?_
          refine TS.s OpY.move rfl ?_
          obtain ⟨x_13, ex_13, H11⟩ := bnd H11
          refine TS.s (OpD.index ex_13) rfl ?_
          refine TS.s OpY.fieldAddr rfl ?_
          refine TS.s OpY.load rfl ?_
          obtain ⟨x_14, ex_14, H11⟩ := bnd H11
          refine TS.s (OpD.sub ex_14) rfl ?_
          refine TS.s OpY.assign rfl ?_
          refine TS.nil ?_
          refine TE.then ?_
          refine TC.kp [0, 1, 7, 8, 9] [b34_4] ?_
          refine TC.seqS ?_
          refine TS.s OpY.move rfl ?_
          refine TS.s OpY.move rfl ?_
          obtain ⟨x_15, ex_15, H11⟩ := bnd H11
          refine TS.s (OpD.index ex_15) rfl ?_
          refine TS.s OpY.fieldAddr rfl ?_
          refine TS.s OpY.load rfl ?_
          refine TS.s OpY.eql rfl ?_
          refine TS.nil ?_
          refine TE.then ?_
          refine TC.kp [0, 1, 7, 8, 9, 57] [b34_4] ?_
          refine TC.cond (fun hc => ?_) (fun hc => ?_)
          · replace H11 := cT H11 hc
            refine TC.regionS ?_
            refine TS.s OpY.move rfl ?_
            refine TS.s OpY.assign rfl ?_
            refine TS.nil ?_
            refine TE.kp [0, 1, 7, 8, 9] [b34_4] ?_
            exact TE.cutP pages0 () (Option.some.inj H11).symm (Env.cv (Env.cvBy (Sl_le rfl) (Env.cv (Env.cv (Env.cv (Env.le_nil _)))))) (Less.pk rfl (Less.nil _))
          · replace H11 := cF H11 hc
            refine TC.skip ?_
            exact TE.cutP x_14 () (Option.some.inj H11).symm (Env.cv (Env.cvBy (Sl_le rfl) (Env.cv (Env.cv (Env.cv (Env.le_nil _)))))) (Less.pk rfl (Less.nil _))
        · replace H11 := cF H11 hc
          refine TC.skip ?_
          exact TE.cutP (0 : Int) () (Option.some.inj H11).symm (Env.cv (Env.cvBy (Sl_le rfl) (Env.cv (Env.cv (Env.cv (Env.le_nil _)))))) (Less.pk rfl (Less.nil _))
      rintro room_10 ⟨⟩ hp
      replace hp := hp.symm
      subst hp
      refine TE.then ?_
      refine TC.kp [0, 1, 7, 8, 9] [b34_4] ?_
      refine TC.seq ?_
      refine TC.seqS ?_
      refine TS.s OpY.move rfl ?_
      refine TS.s OpY.move rfl ?_
      obtain ⟨x_16, ex_16, H⟩ := bnd H
      refine TS.s (OpY.callB2 [b34_4] (ArgB.sv PlS.all rfl (by simp)) ArgB.d fun w v0 v1 hA h0 h1 => wear_Room_c w v0 v1 hA (toD h0) (toD h1) ex_16) rfl ?_
      refine TS.s OpY.move rfl ?_
      refine TS.s OpY.move rfl ?_
      obtain ⟨x_17, ex_17, H⟩ := bnd H
      refine TS.s (OpY.call2 fun w v0 v1 hA h0 h1 => wear_Room_c w v0 v1 hA (toD h0) (toD h1) ex_17) rfl ?_
      refine TS.s OpY.move rfl ?_
      obtain ⟨x_18, ex_18, H⟩ := bnd H
      refine TS.s (OpD.sub ex_18) rfl ?_
      refine TS.s OpY.neq rfl ?_
      refine TS.nil ?_
      refine TE.then ?_
      refine TC.kp [0, 1, 7, 67] [] ?_
      refine TC.cond (fun hc => ?_) (fun hc => ?_)
      · replace H := cT H hc
        refine TC.seqS ?_
        refine TS.s OpY.assign rfl ?_
        refine TS.nil ?_
        refine TE.then ?_
        refine TC.kp [6] [] ?_
        refine TC.ret ?_
        refine TE.then_ret ?_
        obtain rfl := (Option.some.inj H)
        exact TE.ret1 rfl Cv.le
      · replace H := cF H hc
        refine TC.skip ?_
        refine TE.then ?_
        refine TC.kp [0, 1, 7] [] ?_
        refine TC.seqS ?_
        refine TS.s OpY.move rfl ?_
        refine TS.s OpY.move rfl ?_
        obtain ⟨r_19, er_19, H⟩ := bnd H
        refine TS.s (OpY.call2 fun w v0 v1 hA h0 h1 => wear_Dead_c w v0 v1 hA (toD h0) (toD h1) er_19) rfl ?_
        refine TS.s OpY.move rfl ?_
        refine TS.s (OpY.extract rfl) rfl ?_
        refine TS.s (OpY.extract rfl) rfl ?_
        refine TS.s OpY.assign rfl ?_
        refine TS.s OpY.assign rfl ?_
        refine TS.nil ?_
        refine TE.then ?_
        refine TC.kp [0, 1, 7, 10, 11] [] ?_
        refine TC.seqS ?_
        refine TS.build [] rfl rfl (by decide) rfl fun b74_19 => ?_
        refine TS.s OpY.move rfl ?_
        obtain ⟨u_22, eu_22, H⟩ := bnd H
        refine TS.app (ys := l0) inferInstance eu_22 rfl rfl rfl fun b76_20 p76_20 c76_20 => ?_
        refine TS.s OpY.assign rfl ?_
        refine TS.nil ?_
        refine TE.then ?_
        refine TC.kp [1, 7, 10, 11, 12] [b76_20] ?_
        obtain ⟨l_23, el_23, H⟩ := bnd H
        refine TC.nmB b76_20 (nm_row el_23) ?_
        refine TC.see 12 _ (nm_sl2 el_23 rfl) ?_
        refine TC.seq ?_
        obtain ⟨o_25, H25, H⟩ := bnd H
        refine TC.cutP (fun s : (List Wear) => o_25 = s) (fun (w_24 : (List Wear)) (_ : Unit) => (Env.set (Env.set (Env.set (Env.set (Env.set Env.nil 1 (D (pages0 : Int))) 7 (D (x_3 : Int))) 10 (D (r_19.1 : Int))) 11 (D (r_19.2 : Bool))) 12 (Sl b76_20 p76_20 0 w_24.length c76_20))) (fun (w_24 : (List Wear)) (_ : Unit) => [⟨b76_20, p76_20, (Row (w_24 : List Wear) c76_20)⟩]) ?_ ?_
        · skip
          refine TC.seqS ?_
          refine TS.s OpY.move rfl ?_
          refine TS.s OpY.move rfl ?_
          obtain ⟨x_26, ex_26, H25⟩ := bnd H25
          refine TS.s (OpD.indexq (idx_in ex_26 rfl)) rfl ?_
          refine TS.s OpY.fieldAddr rfl ?_
          refine TS.s (OpD.ldq (Pl.fld (off := 2) (α := Wear) (β := Int) (Pl.rowz ex_26))) rfl ?_
          refine TS.s OpY.lss rfl ?_
          refine TS.nil ?_
          refine TE.then ?_
          refine TC.kp [1, 7, 10, 11, 12, 82] [b76_20] ?_
          refine TC.cond (fun hc => ?_) (fun hc => ?_)
          · replace H25 := cT H25 hc
            refine TC.regionS ?_
            refine TS.s OpY.move rfl ?_
            refine TS.s OpY.move rfl ?_
            obtain ⟨x_27, ex_27, H25⟩ := bnd H25
            refine TS.s (OpD.indexq (idx_in ex_27 rfl)) rfl ?_
            refine TS.s OpY.fieldAddr rfl ?_
            refine TS.s (OpD.ldq (Pl.fld (off := 2) (α := Wear) (β := Int) (Pl.rowz ex_27))) rfl ?_
            obtain ⟨x_28, ex_28, H25⟩ := bnd H25
            refine TS.s (OpD.add ex_28) rfl ?_
            obtain ⟨x_29, ex_29, H25⟩ := bnd H25
            refine TS.s (OpD.indexq (idx_in ex_29 rfl)) rfl ?_
            refine TS.s OpY.fieldAddr rfl ?_
            refine TS.un (OpT.storeq (y := (x_28 : Int)) (Pl.fld (off := 2) (α := Wear) (β := Int) (Pl.rowz ex_29))) ?_
            refine TS.nil ?_
            refine TE.kp [1, 7, 10, 11, 12] [b76_20] ?_
            obtain ⟨l_30, el_30, H25⟩ := bnd H25
            refine TE.nmB b76_20 (nm_row el_30) ?_
            refine TE.see 12 _ (nm_sl2 el_30 (by simp)) ?_
            exact TE.cutP l_30 () (Option.some.inj H25).symm (Env.cvBy (Sl_le rfl) (Env.cv (Env.cv (Env.cv (Env.cv (Env.le_nil _)))))) (Less.pk rfl (Less.nil _))
          · replace H25 := cF H25 hc
            refine TC.skip ?_
            exact TE.cutP l_23 () (Option.some.inj H25).symm (Env.cvBy (Sl_le rfl) (Env.cv (Env.cv (Env.cv (Env.cv (Env.le_nil _)))))) (Less.pk rfl (Less.nil _))
        rintro w_24 ⟨⟩ hp
        replace hp := hp.symm
        subst hp
        refine TE.then ?_
        refine TC.kp [1, 7, 10, 11, 12] [b76_20] ?_
        refine TC.seqS ?_
        refine TS.s OpY.move rfl ?_
        refine TS.s OpY.move rfl ?_
        obtain ⟨r_31, er_31, H⟩ := bnd H
        refine TS.s (OpY.callB2 [b76_20] (ArgB.sv PlS.all rfl (by simp)) ArgB.d fun w v0 v1 hA h0 h1 => wear_Dead_c w v0 v1 hA (toD h0) (toD h1) er_31) rfl ?_
        refine TS.s OpY.move rfl ?_
        refine TS.s (OpY.extract rfl) rfl ?_
        refine TS.s (OpY.extract rfl) rfl ?_
        refine TS.s OpY.assign rfl ?_
        refine TS.s OpY.assign rfl ?_
        refine TS.nil ?_
        refine TE.then ?_
        refine TC.kp [7, 10, 11, 12, 13, 14] [b76_20] ?_
        refine TC.seq ?_
        refine TC.seqS ?_
        refine TS.s OpY.move rfl ?_
        refine TS.s OpY.move rfl ?_
        refine TS.s (OpY.neq_bool Try.underlying4) rfl ?_
        refine TS.s OpY.move rfl ?_
        refine TS.g 100 rfl (fun hg => OpY.move) rfl ?_
        refine TS.g 100 rfl (fun hg => OpY.move) rfl ?_
        refine TS.gg 102 rfl (fun hp hg => OpY.move) rfl ?_
        refine TS.gg 102 rfl (fun hp hg => OpY.move) rfl ?_
        refine TS.gg 102 rfl (fun hp hg => OpY.neq) rfl ?_
        refine TS.g 100 rfl (fun hg => OpY.pickAnd) rfl ?_
        refine TS.g 100 rfl (fun hg => OpY.move) rfl ?_
        refine TS.gg 107 rfl (fun hp hg => OpY.move) rfl ?_
        refine TS.gg 107 rfl (fun hp hg => OpY.move) rfl ?_
        refine TS.gg 107 rfl (fun hp hg => OpY.neq) rfl ?_
        refine TS.g 100 rfl (fun hg => OpY.pickAnd) rfl ?_
        refine TS.s OpY.pickOr rfl ?_
        refine TS.nil ?_
        refine TE.then ?_
        refine TC.kp [12, 112] [b76_20] ?_
        refine TC.cond (fun hc => ?_) (fun hc => ?_)
        · replace H := cT H hc
          refine TC.seqS ?_
          refine TS.s OpY.assign rfl ?_
          refine TS.nil ?_
          refine TE.then ?_
          refine TC.kp [6] [] ?_
          refine TC.ret ?_
          refine TE.then_ret ?_
          obtain rfl := (Option.some.inj H)
          exact TE.ret1 rfl Cv.le
        · replace H := cF H hc
          refine TC.skip ?_
          refine TE.then ?_
          refine TC.kp [12] [b76_20] ?_
          refine TC.seq ?_
          refine TC.seqS ?_
          refine TS.s OpY.assign rfl ?_
          refine TS.nil ?_
          refine TE.then ?_
          refine TC.kp [12, 15] [b76_20] ?_
          obtain ⟨o_33, H33, H⟩ := bnd H
          refine TC.cutP (fun s : (List Wear) => o_33 = s) (fun (w_32 : (List Wear)) (_ : Unit) => (Env.set Env.nil 12 (Sl b76_20 p76_20 0 w_32.length c76_20))) (fun (w_32 : (List Wear)) (_ : Unit) => [⟨b76_20, p76_20, (Row (w_32 : List Wear) c76_20)⟩]) ?_ ?_
          · skip
            refine TC.block ?_
            refine TC.loopP H33 (fun ⟨i_34, w_35⟩ (_ : Unit) => (Env.set (Env.set Env.nil 12 (Sl b76_20 p76_20 0 w_35.length c76_20)) 15 (D (i_34 : Int)))) (fun ⟨i_34, w_35⟩ (_ : Unit) => [⟨b76_20, p76_20, (Row (w_35 : List Wear) c76_20)⟩]) () (Env.cv (Env.cvBy (Sl_le rfl) (Env.le_nil _))) (Less.pk rfl (Less.nil _)) ?_
            rintro ⟨i_34, w_35⟩ ⟨⟩ x_36 H36 he36
            replace H36 : bywaylaw09_WearMore_l1 i_34 w_35 = some x_36 := H36
            unfold bywaylaw09_WearMore_l1 at H36
            refine TC.seq ?_
            refine TC.seqS ?_
            refine TS.s OpY.move rfl ?_
            refine TS.s OpY.move rfl ?_
            refine TS.s (OpD.lenSv (n := w_35.length) rfl) rfl ?_
            refine TS.s OpY.lss rfl ?_
            refine TS.nil ?_
            refine TE.then ?_
            refine TC.kp [12, 15, 116] [b76_20] ?_
            refine TC.cond (fun hc => ?_) (fun hc => ?_)
            · replace H36 := cT H36 hc
              refine TC.skip ?_
              refine TE.then ?_
              refine TC.kp [12, 15] [b76_20] ?_
              refine TC.seq ?_
              refine TC.block ?_
              refine TC.regionS ?_
              refine TS.s OpY.move rfl ?_
              refine TS.s OpY.move rfl ?_
              obtain ⟨x_37, ex_37, H36⟩ := bnd H36
              refine TS.s (OpD.indexq (idx_in ex_37 rfl)) rfl ?_
              refine TS.s OpY.fieldAddr rfl ?_
              refine TS.un (OpT.storeq (y := ((7 : Int) : Int)) (Pl.fld (off := 2) (α := Wear) (β := Int) (Pl.rowz ex_37))) ?_
              refine TS.nil ?_
              refine TE.kp [12, 15] [b76_20] ?_
              obtain ⟨l_38, el_38, H36⟩ := bnd H36
              refine TE.nmB b76_20 (nm_row el_38) ?_
              refine TE.see 12 _ (nm_sl2 el_38 (by simp)) ?_
              refine TE.inBlock_normal ?_
              refine TE.then ?_
              refine TC.kp [12, 15] [b76_20] ?_
              refine TC.regionS ?_
              refine TS.s OpY.move rfl ?_
              obtain ⟨x_39, ex_39, H36⟩ := bnd H36
              refine TS.s (OpD.add ex_39) rfl ?_
              refine TS.s OpY.assign rfl ?_
              refine TS.nil ?_
              refine TE.kp [12, 15] [b76_20] ?_
              exact TE.backP ⟨x_39, l_38⟩ () (Option.some.inj H36).symm (Env.cv (Env.cvBy (Sl_le rfl) (Env.le_nil _))) (Less.pk rfl (Less.nil _))
            · replace H36 := cF H36 hc
              refine TC.exit ?_
              refine TE.then_exit ?_
              refine TE.then_exit ?_
              refine TE.inBlock_here ?_
              exact TE.cutP w_35 () (he36 _ (Option.some.inj H36).symm).symm (Env.cvBy (Sl_le rfl) (Env.le_nil _)) (Less.pk rfl (Less.nil _))
          rintro w_32 ⟨⟩ hp
          replace hp := hp.symm
          subst hp
          refine TE.then ?_
          refine TC.kp [12] [b76_20] ?_
          refine TC.seqS ?_
          refine TS.s OpY.move rfl ?_
          obtain ⟨x_40, ex_40, H⟩ := bnd H
          refine TS.s (OpY.callB1 [b76_20] (ArgB.sv PlS.all rfl (by simp)) fun w v0 hA h0 => wear_Spread_c w v0 hA (toD h0) ex_40) rfl ?_
          refine TS.s OpY.eql rfl ?_
          refine TS.s OpY.assign rfl ?_
          refine TS.nil ?_
          refine TE.then ?_
          refine TC.kp [6] [] ?_
          refine TC.ret ?_
          obtain rfl := (Option.some.inj H)
          exact TE.ret1 rfl Cv.le
end Go.Proofs.Ytjnlpphnaldjeaa.Tr
