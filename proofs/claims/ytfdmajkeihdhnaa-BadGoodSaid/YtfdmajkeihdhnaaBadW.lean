/- The functions, as plain ones. Conditions: none. -/
import Derived.Test.YtfdmajkeihdhnaaTab
namespace Go.Proofs.Ytfdmajkeihdhnaa.Tr
open Go Go.RowKit
set_option maxRecDepth 100000
set_option synthInstance.maxHeartbeats 400000
set_option synthInstance.maxSize 4096
set_option linter.unusedVariables false
set_option linter.unusedSimpArgs false

def slices_Clone_int (s0 : (List Int)) : Option (List Int) :=
  (room 8 ((0 + s0.length : Nat) : Int)).bind fun _ => some s0
/-- slices.Clone   int int  -/
theorem slices_Clone_int_o {A : Nat → Prop} {s0 : (List Int)}  {r : (List Int)} (w : World) (v0 : Value) (hA : ∀ k, w.heap.size ≤ k → A k) (hO : OwnIn A []) (hap : Apart []) (hks : Pks (Pub A []) [] w) (h0 : (D (s0 : (List Int))).p (Pub A []) w v0) (H : slices_Clone_int s0 = some r) :
    Calls Try.prog 76 #[v0] w (RetO A w [] (fun g : Nat × Prop × Nat => Sl g.1 g.2.1 0 (List.length r) g.2.2) fun g => [⟨g.1, g.2.1, Row (r : List Int) g.2.2⟩]) := by
  unfold slices_Clone_int at H
  refine enterO1 hA hap hks Try.func76 rfl Try.ntmps76 rfl h0 ?_
  obtain ⟨u, eu, H⟩ := bnd H
  obtain rfl := Option.some.inj H
  refine TC.seqS ?_
  refine TS.s OpY.assign rfl ?_
  refine TS.nil ?_
  refine TE.then ?_
  refine TC.kp [0] [] ?_
  refine TC.seq ?_
  refine TC.seqS ?_
  refine TS.s OpY.move rfl ?_
  refine TS.s OpY.eql_slice rfl ?_
  refine TS.nil ?_
  refine TE.then ?_
  refine TC.condE (fun hc => ?_) (fun hc => ?_)
  · obtain rfl := hc rfl
    refine TC.seqS ?_
    refine TS.s OpY.assign rfl ?_
    refine TS.nil ?_
    refine TE.then ?_
    refine TC.kp [2] [] ?_
    refine TC.ret ?_
    refine TE.then_ret ?_
    exact TE.retO1 rfl ⟨0, False, 0⟩ NilS.sl0 (Less.nilRow (Less.nil _))
  · refine TC.skip ?_
    refine TE.then ?_
    refine TC.kp [0] [] ?_
    refine TC.seqS ?_
    refine TS.build [] rfl rfl (by decide) rfl fun b => ?_
    refine TS.s OpY.move rfl ?_
    refine TS.app (ys := s0) inferInstance eu rfl rfl rfl fun b1 p1 c1 => ?_
    refine TS.s OpY.assign rfl ?_
    refine TS.nil ?_
    refine TE.then ?_
    refine TC.kp [2] [b1] ?_
    refine TC.ret ?_
    exact TE.retO1 rfl ⟨b1, p1, c1⟩ (Sl_le (by simp)) (Less.pk rfl (Less.nil _))
theorem slices_Clone_int_c {A : Nat → Prop} {s0 : (List Int)} {r : (List Int)} (w : World) (v0 : Value) (hA : ∀ k, w.heap.size ≤ k → A k) (h0 : (D (s0 : (List Int))).p A w v0) (H : slices_Clone_int s0 = some r) :
    Calls Try.prog 76 #[v0] w (Ret A w (D r)) := (slices_Clone_int_o w v0 hA ⟨fun k ⟨e, he, _⟩ => absurd he (by simp)⟩ List.Pairwise.nil (fun e he => absurd he (by simp)) (Ty.enter h0) H).mono fun e w' h => RetO.pub1 hA h
def bad_New_l1 (blocks0 : Int) (spare0 : Int) (bad0 : (List Int)) (x_8 : Int) (m_9 : (List Int)) : Option ((Int × (List Int)) ⊕ (List Int)) :=
  bif (decide (x_8 < (bad0.length : Int))) then (((idx bad0 x_8).bind fun x_15 => (gb (decide (x_15 ≥ (0 : Int))) (addI blocks0 spare0)).bind fun x_16 => bif ((decide (x_15 ≥ (0 : Int))) && (decide (x_15 < x_16))) then ((some ((putM m_9 x_15) : List Int)).bind fun m_18 => some m_18) else (some m_9)).bind fun m_12 => (addI x_8 (1 : Int)).bind fun x_19 => some (.inl (x_19, m_12))) else (some (.inr m_9))
def bad_New_l2 (m_5 : (List Int)) (x_20 : Int) (x_24 : Int) (good_26 : (List Int)) : Option ((Int × (List Int)) ⊕ (List Int)) :=
  bif (decide (x_24 < x_20)) then ((bif (!(decide (x_24 ∈ m_5))) then ((room 8 ((good_26.length + ([x_24] : List Int).length : Nat) : Int)).bind fun u_33 => (some ((good_26 ++ ([x_24] : List Int)) : (List Int))).bind fun l_34 => some l_34) else (some good_26)).bind fun good_29 => (addI x_24 (1 : Int)).bind fun x_35 => some (.inl (x_35, good_29))) else (some (.inr good_26))
def bad_New (blocks0 : Int) (spare0 : Int) (bad0 : (List Int)) : Option (Reserve × Int) :=
  (gb (!(((decide (blocks0 < (1 : Int))) || (decide (spare0 < (0 : Int)))) || (decide (blocks0 > (255 : Int))))) (subI (255 : Int) blocks0)).bind fun x_2 => bif ((((decide (blocks0 < (1 : Int))) || (decide (spare0 < (0 : Int)))) || (decide (blocks0 > (255 : Int)))) || (decide (spare0 > x_2))) then ((some ((⟨[], []⟩ : Reserve) : Reserve)).bind fun k_3 => some (k_3, (1 : Int))) else ((loopO (fun s => bad_New_l1 blocks0 spare0 bad0 s.1 s.2) ((0 : Int), ([] : List Int))).bind fun m_5 => (addI blocks0 spare0).bind fun x_20 => (loopO (fun s => bad_New_l2 m_5 x_20 s.1 s.2) ((0 : Int), [])).bind fun good_22 => bif (decide ((good_22.length : Int) < blocks0)) then ((some ((⟨[], []⟩ : Reserve) : Reserve)).bind fun k_36 => some (k_36, (5 : Int))) else ((cut good_22.length 0 blocks0).bind fun u_37 => (slices_Clone_int (good_22.take (Int.toNat blocks0))).bind fun x_38 => (cut good_22.length blocks0 (good_22.length : Int)).bind fun u_40 => (slices_Clone_int ((good_22.drop (Int.toNat blocks0)).take (((good_22.length : Nat) - blocks0 : Int).toNat))).bind fun x_41 => (some ((⟨[], []⟩ : Reserve) : Reserve)).bind fun k_43 => some ((⟨x_38, (⟨k_43.Stands, x_41⟩ : Reserve).Left⟩ : Reserve), (0 : Int))))
/-- bad.New -/
theorem bad_New_c {A : Nat → Prop} {blocks0 : Int} {spare0 : Int} {bad0 : (List Int)}  {r : (Reserve × Int)} (w : World) (v0 v1 v2 : Value) (hA : ∀ k, w.heap.size ≤ k → A k)  (h0 : (D (blocks0 : Int)).p A w v0) (h1 : (D (spare0 : Int)).p A w v1) (h2 : (D (bad0 : (List Int))).p A w v2) (H : bad_New blocks0 spare0 bad0 = some r) :
    Calls Try.prog 27 #[v0, v1, v2] w (Ret A w (Tup [D (r.1 : Reserve), D (r.2 : Int)])) := by
  unfold bad_New at H
  refine enter3 hA Try.func27 rfl Try.ntmps27 rfl h0 h1 h2 ?_
  refine TC.seqS ?_
  refine TS.alloc (α := Reserve) rfl fun b6_0 => ?_
  refine TS.s OpY.assign rfl ?_
  refine TS.nil ?_
  refine TE.then ?_
  refine TC.kp [0, 1, 2, 6] [b6_0] ?_
  refine TC.seq ?_
  refine TC.seqS ?_
  refine TS.s OpY.move rfl ?_
  refine TS.s OpY.lss rfl ?_
  refine TS.s OpY.move rfl ?_
  refine TS.g 17 rfl (fun hg => OpY.move) rfl ?_
  refine TS.g 17 rfl (fun hg => OpY.lss) rfl ?_
  refine TS.s OpY.pickOr rfl ?_
  refine TS.s OpY.move rfl ?_
  refine TS.g 21 rfl (fun hg => OpY.move) rfl ?_
  refine TS.g 21 rfl (fun hg => OpY.gtr) rfl ?_
  refine TS.s OpY.pickOr rfl ?_
  refine TS.s OpY.move rfl ?_
  refine TS.g 25 rfl (fun hg => OpY.move) rfl ?_
  refine TS.g 25 rfl (fun hg => OpY.move) rfl ?_
  obtain ⟨x_2, ex_2, H⟩ := bnd H
  refine TS.g 25 rfl (fun hg => (OpD.sub (gb_some ex_2 (nF hg.h)))) rfl ?_
  refine TS.g 25 rfl (fun hg => OpY.gtr) rfl ?_
  refine TS.s OpY.pickOr rfl ?_
  refine TS.nil ?_
  refine TE.then ?_
  refine TC.kp [0, 1, 2, 6, 30] [b6_0] ?_
  refine TC.cond (fun hc => ?_) (fun hc => ?_)
  · replace H := cT H hc
    refine TC.seqS ?_
    refine TS.s (OpY.buildAs (⟨[], []⟩ : Reserve) rfl ⟨_, Try.underlying47, by kernel_rfl⟩ rfl rfl) rfl ?_
    refine TS.un (OpT.storeq (y := ((⟨[], []⟩ : Reserve) : Reserve)) Pl.one) ?_
    refine TS.s OpY.assign rfl ?_
    refine TS.nil ?_
    refine TE.then ?_
    refine TC.kp [6, 7] [b6_0] ?_
    obtain ⟨k_3, ek_3, H⟩ := bnd H
    refine TC.nmB b6_0 (nm_one ek_3) ?_
    refine TC.ret ?_
    refine TE.then_ret ?_
    obtain rfl := (Option.some.inj H)
    exact TE.retN rfl rfl (.cons Cv.le (.cons Cv.le .nil))
  · replace H := cF H hc
    refine TC.skip ?_
    refine TE.then ?_
    refine TC.kp [0, 1, 2, 6] [b6_0] ?_
    refine TC.seqS ?_
    refine TS.makeMap rfl fun N_3 r_3 hr_3 => ?_
    haveI := hr_3.op
    refine TS.s OpY.assign rfl ?_
    refine TS.nil ?_
    refine TE.then ?_
    refine TC.kp [0, 1, 2, 6, 8] [b6_0] ?_
    refine TC.seq ?_
    refine TC.seqS ?_
    refine TS.s OpY.move rfl ?_
    refine TS.s OpD.len rfl ?_
    refine TS.s OpY.move rfl ?_
    refine TS.nil ?_
    refine TE.then ?_
    refine TC.kp [0, 1, 6, 8, 33, 34, 35] [b6_0] ?_
    obtain ⟨o_7, H7, H⟩ := bnd H
    refine TC.cutM hr_3 (fun s : (List Int) => o_7 = s) (fun (m_5 : (List Int)) => m_5) (fun (m_5 : (List Int)) (_ : Unit) => (Env.set (Env.set (Env.set (Env.set Env.nil 0 (D (blocks0 : Int))) 1 (D (spare0 : Int))) 6 (Pt b6_0 0)) 8 (MapT N_3))) (fun (m_5 : (List Int)) (_ : Unit) => [⟨b6_0, True, (One (Dat.z : Reserve))⟩]) ?_ ?_
    · skip
      refine TC.block ?_
      refine TC.loopM H7 hr_3 (fun ⟨x_8, m_9⟩ => m_9) (fun ⟨x_8, m_9⟩ (_ : Unit) => (Env.set (Env.set (Env.set (Env.set (Env.set (Env.set (Env.set Env.nil 0 (D (blocks0 : Int))) 1 (D (spare0 : Int))) 6 (Pt b6_0 0)) 8 (MapT N_3)) 33 (D (bad0 : (List Int)))) 34 (D ((bad0.length : Int) : Int))) 35 (D (x_8 : Int)))) (fun ⟨x_8, m_9⟩ (_ : Unit) => [⟨b6_0, True, (One (Dat.z : Reserve))⟩]) () rfl (Env.cv (Env.cv (Env.cv (Env.cv (Env.cv (Env.cv (Env.cv (Env.le_nil _)))))))) (Less.pk rfl (Less.nil _)) ?_
      rintro ⟨x_8, m_9⟩ ⟨⟩ x_11 H11 he11 r_9 hr_9
      haveI := hr_9.op
      replace H11 : bad_New_l1 blocks0 spare0 bad0 x_8 m_9 = some x_11 := H11
      unfold bad_New_l1 at H11
      refine TC.seqS ?_
      refine TS.s OpY.lss rfl ?_
      refine TS.nil ?_
      refine TE.then ?_
      refine TC.kp [0, 1, 6, 8, 33, 34, 35, 36] [b6_0] ?_
      refine TC.seq ?_
      refine TC.cond (fun hc => ?_) (fun hc => ?_)
      · replace H11 := cT H11 hc
        refine TC.skip ?_
        refine TE.then ?_
        refine TC.kp [0, 1, 6, 8, 33, 34, 35] [b6_0] ?_
        refine TC.seq ?_
        obtain ⟨o_14, H14, H11⟩ := bnd H11
        refine TC.cutM hr_9 (fun s : (List Int) => o_14 = s) (fun (m_12 : (List Int)) => m_12) (fun (m_12 : (List Int)) (_ : Unit) => (Env.set (Env.set (Env.set (Env.set (Env.set (Env.set (Env.set Env.nil 0 (D (blocks0 : Int))) 1 (D (spare0 : Int))) 6 (Pt b6_0 0)) 8 (MapT N_3)) 33 (D (bad0 : (List Int)))) 34 (D ((bad0.length : Int) : Int))) 35 (D (x_8 : Int)))) (fun (m_12 : (List Int)) (_ : Unit) => [⟨b6_0, True, (One (Dat.z : Reserve))⟩]) ?_ ?_
        · skip
          refine TC.block ?_
          refine TC.seqS ?_
          obtain ⟨x_15, ex_15, H14⟩ := bnd H14
          refine TS.s (OpD.index ex_15) rfl ?_
          refine TS.s OpY.load rfl ?_
          refine TS.s OpY.assign rfl ?_
          refine TS.nil ?_
          refine TE.then ?_
          refine TC.kp [0, 1, 6, 8, 10, 33, 34, 35] [b6_0] ?_
          refine TC.seqS ?_
          refine TS.s OpY.move rfl ?_
          refine TS.s OpY.geq rfl ?_
          refine TS.s OpY.move rfl ?_
          refine TS.g 41 rfl (fun hg => OpY.move) rfl ?_
          refine TS.g 41 rfl (fun hg => OpY.move) rfl ?_
          refine TS.g 41 rfl (fun hg => OpY.move) rfl ?_
          obtain ⟨x_16, ex_16, H14⟩ := bnd H14
          refine TS.g 41 rfl (fun hg => (OpD.add (gb_some ex_16 hg.h))) rfl ?_
          refine TS.g 41 rfl (fun hg => OpY.lss) rfl ?_
          refine TS.s OpY.pickAnd rfl ?_
          refine TS.nil ?_
          refine TE.then ?_
          refine TC.kp [0, 1, 6, 8, 10, 33, 34, 35, 47] [b6_0] ?_
          refine TC.cond (fun hc => ?_) (fun hc => ?_)
          · replace H14 := cT H14 hc
            refine TC.regionS ?_
            refine TS.s OpY.move rfl ?_
            refine TS.s OpY.move rfl ?_
            refine TS.s OpY.buildE rfl ?_
            refine TS.mapUpdate hr_9 fun r_16 hr_16 => ?_
            haveI := hr_16.op
            refine TS.nil ?_
            refine TE.kp [0, 1, 6, 8, 33, 34, 35] [b6_0] ?_
            obtain ⟨m_18, em_18, H14⟩ := bnd H14
            replace hr_16 := (Option.some.inj em_18) ▸ hr_16
            refine TE.inBlock_normal ?_
            exact TE.cutM hr_16 m_18 () (Option.some.inj H14).symm rfl (Env.cv (Env.cv (Env.cv (Env.cv (Env.cv (Env.cv (Env.cv (Env.le_nil _)))))))) (Less.pk rfl (Less.nil _))
          · replace H14 := cF H14 hc
            refine TC.skip ?_
            refine TE.inBlock_normal ?_
            exact TE.cutM hr_9 m_9 () (Option.some.inj H14).symm rfl (Env.cv (Env.cv (Env.cv (Env.cv (Env.cv (Env.cv (Env.cv (Env.le_nil _)))))))) (Less.pk rfl (Less.nil _))
        rintro m_12 ⟨⟩ hp r_12 hr_12
        haveI := hr_12.op
        replace hp := hp.symm
        subst hp
        refine TE.then ?_
        refine TC.kp [0, 1, 6, 8, 33, 34, 35] [b6_0] ?_
        refine TC.regionS ?_
        obtain ⟨x_19, ex_19, H11⟩ := bnd H11
        refine TS.s (OpD.add ex_19) rfl ?_
        refine TS.s OpY.move rfl ?_
        refine TS.nil ?_
        refine TE.kp [0, 1, 6, 8, 33, 34, 35] [b6_0] ?_
        exact TE.backM hr_12 ⟨x_19, m_12⟩ () (Option.some.inj H11).symm rfl (Env.cv (Env.cv (Env.cv (Env.cv (Env.cv (Env.cv (Env.cv (Env.le_nil _)))))))) (Less.pk rfl (Less.nil _))
      · replace H11 := cF H11 hc
        refine TC.exit ?_
        refine TE.then_exit ?_
        refine TE.then_exit ?_
        refine TE.inBlock_here ?_
        exact TE.cutM hr_9 m_9 () (he11 _ (Option.some.inj H11).symm).symm rfl (Env.cv (Env.cv (Env.cv (Env.cv (Env.le_nil _))))) (Less.pk rfl (Less.nil _))
    rintro m_5 ⟨⟩ hp r_5 hr_5
    haveI := hr_5.op
    replace hp := hp.symm
    subst hp
    refine TE.then ?_
    refine TC.kp [0, 1, 6, 8] [b6_0] ?_
    refine TC.seqS ?_
    refine TS.s OpY.assign rfl ?_
    refine TS.nil ?_
    refine TE.then ?_
    refine TC.kp [0, 1, 6, 8, 11] [b6_0] ?_
    refine TC.seq ?_
    refine TC.seqS ?_
    refine TS.s OpY.move rfl ?_
    refine TS.s OpY.move rfl ?_
    obtain ⟨x_20, ex_20, H⟩ := bnd H
    refine TS.s (OpD.add ex_20) rfl ?_
    refine TS.s OpY.move rfl ?_
    refine TS.nil ?_
    refine TE.then ?_
    refine TC.kp [0, 6, 8, 11, 54, 55] [b6_0] ?_
    obtain ⟨o_23, H23, H⟩ := bnd H
    refine TC.cutP (fun s : (List Int) => o_23 = s) (fun (good_22 : (List Int)) (⟨b_20, p_20, c_20⟩ : Nat × Prop × Nat) => (Env.set (Env.set (Env.set Env.nil 0 (D (blocks0 : Int))) 6 (Pt b6_0 0)) 11 (Sl b_20 p_20 0 good_22.length c_20))) (fun (good_22 : (List Int)) (⟨b_20, p_20, c_20⟩ : Nat × Prop × Nat) => [⟨b_20, p_20, (Row (good_22 : List Int) c_20)⟩, ⟨b6_0, True, (One (Dat.z : Reserve))⟩]) ?_ ?_
    · skip
      refine TC.block ?_
      refine TC.loopP H23 (fun ⟨x_24, good_26⟩ (⟨b_24, p_24, c_24⟩ : Nat × Prop × Nat) => (Env.set (Env.set (Env.set (Env.set (Env.set (Env.set Env.nil 0 (D (blocks0 : Int))) 6 (Pt b6_0 0)) 8 (MapT N_3)) 11 (Sl b_24 p_24 0 good_26.length c_24)) 54 (D (x_20 : Int))) 55 (D (x_24 : Int)))) (fun ⟨x_24, good_26⟩ (⟨b_24, p_24, c_24⟩ : Nat × Prop × Nat) => [⟨b_24, p_24, (Row (good_26 : List Int) c_24)⟩, ⟨b6_0, True, (One (Dat.z : Reserve))⟩]) ⟨0, False, 0⟩ (Env.cv (Env.cv (Env.cvBy NilS.sl0 (Env.cv (Env.cv (Env.cv (Env.le_nil _))))))) (Less.nilRow (Less.pk rfl (Less.nil _))) ?_
      rintro ⟨x_24, good_26⟩ ⟨b_24, p_24, c_24⟩ x_27 H27 he27
      replace H27 : bad_New_l2 m_5 x_20 x_24 good_26 = some x_27 := H27
      unfold bad_New_l2 at H27
      refine TC.seqS ?_
      refine TS.s OpY.lss rfl ?_
      refine TS.nil ?_
      refine TE.then ?_
      refine TC.kp [0, 6, 8, 11, 54, 55, 56] [b6_0, b_24] ?_
      refine TC.seq ?_
      refine TC.cond (fun hc => ?_) (fun hc => ?_)
      · replace H27 := cT H27 hc
        refine TC.skip ?_
        refine TE.then ?_
        refine TC.kp [0, 6, 8, 11, 54, 55] [b6_0, b_24] ?_
        refine TC.seq ?_
        obtain ⟨o_30, H30, H27⟩ := bnd H27
        refine TC.cutP (fun s : (List Int) => o_30 = s) (fun (good_29 : (List Int)) (⟨b_27, p_27, c_27⟩ : Nat × Prop × Nat) => (Env.set (Env.set (Env.set (Env.set (Env.set (Env.set Env.nil 0 (D (blocks0 : Int))) 6 (Pt b6_0 0)) 8 (MapT N_3)) 11 (Sl b_27 p_27 0 good_29.length c_27)) 54 (D (x_20 : Int))) 55 (D (x_24 : Int)))) (fun (good_29 : (List Int)) (⟨b_27, p_27, c_27⟩ : Nat × Prop × Nat) => [⟨b_27, p_27, (Row (good_29 : List Int) c_27)⟩, ⟨b6_0, True, (One (Dat.z : Reserve))⟩]) ?_ ?_
        · skip
          refine TC.block ?_
          refine TC.seqS ?_
          refine TS.s OpY.move rfl ?_
          refine TS.s OpY.assign rfl ?_
          refine TS.nil ?_
          refine TE.then ?_
          refine TC.kp [0, 6, 8, 11, 12, 54, 55] [b6_0, b_24] ?_
          refine TC.seqS ?_
          refine TS.s OpY.move rfl ?_
          refine TS.s OpY.move rfl ?_
          refine TS.mapLookup hr_5 rfl ?_
          refine TS.s OpY.move rfl ?_
          refine TS.s (OpY.extract rfl) rfl ?_
          refine TS.s (OpY.extract rfl) rfl ?_
          refine TS.s OpY.allocE rfl ?_
          refine TS.sn OpY.storeE ?_
          refine TS.s OpY.assign rfl ?_
          refine TS.nil ?_
          refine TE.then ?_
          refine TC.kp [0, 6, 8, 11, 12, 14, 54, 55] [b6_0, b_24] ?_
          refine TC.seqS ?_
          refine TS.s OpY.move rfl ?_
          refine TS.s OpY.notB rfl ?_
          refine TS.nil ?_
          refine TE.then ?_
          refine TC.kp [0, 6, 8, 11, 12, 54, 55, 65] [b6_0, b_24] ?_
          refine TC.cond (fun hc => ?_) (fun hc => ?_)
          · replace H30 := cT H30 hc
            refine TC.regionS ?_
            refine TS.s OpY.move rfl ?_
            refine TS.s OpY.move rfl ?_
            refine TS.s (OpY.buildSlice [.tmp 67] rfl rfl (by decide)) rfl ?_
            obtain ⟨u_33, eu_33, H30⟩ := bnd H30
            refine TS.app (ys := ([x_24] : List Int)) inferInstance eu_33 rfl rfl rfl fun b69_31 p69_31 c69_31 => ?_
            refine TS.s OpY.assign rfl ?_
            refine TS.nil ?_
            refine TE.kp [0, 6, 8, 11, 54, 55] [b6_0, b69_31] ?_
            obtain ⟨l_34, el_34, H30⟩ := bnd H30
            refine TE.nmB b69_31 (nm_row el_34) ?_
            refine TE.see 11 _ (nm_sl2 el_34 rfl) ?_
            refine TE.inBlock_normal ?_
            exact TE.cutP l_34 ⟨b69_31, p69_31, c69_31⟩ (Option.some.inj H30).symm (Env.cv (Env.cv (Env.cvBy (Sl_le rfl) (Env.cv (Env.cv (Env.cv (Env.le_nil _))))))) (Less.pk rfl (Less.pk rfl (Less.nil _)))
          · replace H30 := cF H30 hc
            refine TC.skip ?_
            refine TE.inBlock_normal ?_
            exact TE.cutP good_26 ⟨b_24, p_24, c_24⟩ (Option.some.inj H30).symm (Env.cv (Env.cv (Env.cvBy (Sl_le rfl) (Env.cv (Env.cv (Env.cv (Env.le_nil _))))))) (Less.pk rfl (Less.pk rfl (Less.nil _)))
        rintro good_29 ⟨b_27, p_27, c_27⟩ hp
        replace hp := hp.symm
        subst hp
        refine TE.then ?_
        refine TC.kp [0, 6, 8, 11, 54, 55] [b6_0, b_27] ?_
        refine TC.regionS ?_
        obtain ⟨x_35, ex_35, H27⟩ := bnd H27
        refine TS.s (OpD.add ex_35) rfl ?_
        refine TS.s OpY.move rfl ?_
        refine TS.nil ?_
        refine TE.kp [0, 6, 8, 11, 54, 55] [b6_0, b_27] ?_
        exact TE.backP ⟨x_35, good_29⟩ ⟨b_27, p_27, c_27⟩ (Option.some.inj H27).symm (Env.cv (Env.cv (Env.cvBy (Sl_le rfl) (Env.cv (Env.cv (Env.cv (Env.le_nil _))))))) (Less.pk rfl (Less.pk rfl (Less.nil _)))
      · replace H27 := cF H27 hc
        refine TC.exit ?_
        refine TE.then_exit ?_
        refine TE.then_exit ?_
        refine TE.inBlock_here ?_
        exact TE.cutP good_26 ⟨b_24, p_24, c_24⟩ (he27 _ (Option.some.inj H27).symm).symm (Env.cvBy (Sl_le rfl) (Env.cv (Env.cv (Env.le_nil _)))) (Less.pk rfl (Less.pk rfl (Less.nil _)))
    rintro good_22 ⟨b_20, p_20, c_20⟩ hp
    replace hp := hp.symm
    subst hp
    refine TE.then ?_
    refine TC.kp [0, 6, 11] [b6_0, b_20] ?_
    refine TC.seq ?_
    refine TC.seqS ?_
    refine TS.s OpY.move rfl ?_
    refine TS.s (OpD.lenSv (n := good_22.length) rfl) rfl ?_
    refine TS.s OpY.move rfl ?_
    refine TS.s OpY.lss rfl ?_
    refine TS.nil ?_
    refine TE.then ?_
    refine TC.kp [0, 6, 11, 74] [b6_0, b_20] ?_
    refine TC.cond (fun hc => ?_) (fun hc => ?_)
    · replace H := cT H hc
      refine TC.seqS ?_
      refine TS.s (OpY.buildAs (⟨[], []⟩ : Reserve) rfl ⟨_, Try.underlying47, by kernel_rfl⟩ rfl rfl) rfl ?_
      refine TS.un (OpT.storeq (y := ((⟨[], []⟩ : Reserve) : Reserve)) Pl.one) ?_
      refine TS.s OpY.assign rfl ?_
      refine TS.nil ?_
      refine TE.then ?_
      refine TC.kp [6, 7] [b6_0] ?_
      obtain ⟨k_36, ek_36, H⟩ := bnd H
      refine TC.nmB b6_0 (nm_one ek_36) ?_
      refine TC.ret ?_
      refine TE.then_ret ?_
      refine TE.mapBack hr_5 ?_
      obtain rfl := (Option.some.inj H)
      exact TE.retN rfl rfl (.cons Cv.le (.cons Cv.le .nil))
    · replace H := cF H hc
      refine TC.skip ?_
      refine TE.then ?_
      refine TC.kp [0, 6, 11] [b6_0, b_20] ?_
      refine TC.seqD [3, 7, 8, 9] [b6_0, b_20] mix (by kernel_rfl) (by kernel_rfl) ?_
      refine TR.s OpY.move rfl ?_
      refine TR.s OpY.move rfl ?_
      obtain ⟨u_37, eu_37, H⟩ := bnd H
      refine TR.s (OpY.sliceSlTo (cut_row eu_37 rfl).2.1 (cut_row eu_37 rfl).2.2) rfl ?_
      obtain ⟨x_38, ex_38, H⟩ := bnd H
      refine TR.t (fun g => (OpT.callLO1 (xs := x_38) [b_20] (ArgB.sv (PlS.row0 (cut_le0 eu_37)) (List.length_take_of_le (cut_le0 eu_37)).symm (by simp)) fun w v0 hA hO hap hks h0 => slices_Clone_int_o w v0 hA hO hap hks (toD h0) ex_38)) rfl ?_
      refine TR.s OpY.move rfl ?_
      refine TR.s OpY.move rfl ?_
      obtain ⟨u_40, eu_40, H⟩ := bnd H
      refine TR.s (OpY.sliceSvFrom (cut_row eu_40 rfl).1 (cut_row eu_40 rfl).2.1) rfl ?_
      obtain ⟨x_41, ex_41, H⟩ := bnd H
      refine TR.t (fun g => (OpT.callLO1 (xs := x_41) [b_20] (ArgB.sv (PlS.rowz (cut_leF eu_40 rfl)) (cut_lenF eu_40 rfl) (by simp)) fun w v0 hA hO hap hks h0 => slices_Clone_int_o w v0 hA hO hap hks (toD h0) ex_41)) rfl ?_
      refine TR.t (fun g => OpT.G rfl (OpY.buildC (ps := _) rfl ⟨_, Try.underlying47, by kernel_rfl⟩ ((PartsC.hd (CtH.new (by decide)) (PartsC.hd (CtH.new (by decide)) inferInstance))))) rfl ?_
      refine TR.tn (fun g => (OpT.storeC trivial rfl CtSc.h)) rfl ?_
      refine TR.s OpY.assign rfl ?_
      refine TR.nil ?_
      rintro ⟨⟨⟨⟨_, ⟨b79_38, p79_38, c79_38⟩⟩, ⟨b83_41, p83_41, c83_41⟩⟩, _⟩, _⟩
      dsimp only [Fam.nextS, Fam.nextN, Fam.one, List.cons_append, List.nil_append]
      refine TC.kp [6, 7] [b6_0, b79_38, b83_41] ?_
      obtain ⟨k_43, ek_43, H⟩ := bnd H
      refine TC.nmB b6_0 (nm_mix (nm_mix (nm_one ek_43))) ?_
      refine TC.ret ?_
      refine TE.mapBack hr_5 ?_
      refine TE.coll b6_0 b83_41 (o := 1) (((Pl.mix (Pl.fld (off := 1) (α := Reserve) (β := (List Int)) Pl.one) (by first | decide | omega))).st (x_41 : List Int)) (PubC.sv PlS.all rfl) ?_
      refine TE.coll b6_0 b79_38 (o := 0) (((Pl.fld (off := 0) (α := Reserve) (β := (List Int)) Pl.one)).st (x_38 : List Int)) (PubC.sv PlS.all rfl) ?_
      obtain rfl := (Option.some.inj H)
      exact TE.retN rfl rfl (.cons Cv.le (.cons Cv.le .nil))
def slices_Grow_int (s0 : (List Int)) (n0 : Int) : Option (List Int) :=
  bif (decide (n0 < (0 : Int))) then (none) else (((subI (0 : Int) (0 : Int)).bind fun x_4 => (subI n0 x_4).bind fun x_5 => bif (decide (x_5 > (0 : Int))) then ((room 8 x_5).bind fun u_6 => (posI x_5).bind fun u_7 => (cut (List.replicate (Int.toNat x_5) (Dat.z : Int)).length 0 (0 : Int)).bind fun u_9 => (some (((List.replicate (Int.toNat x_5) (Dat.z : Int)).take (Int.toNat (0 : Int))) : (List Int))).bind fun l_10 => some l_10) else (some [])).bind fun s_2 => some s_2)
/-- slices.Grow   int int  -/
theorem slices_Grow_int_o {A : Nat → Prop} {s0 : (List Int)} {n0 : Int}  {r : (List Int)} (w : World) (v0 v1 : Value) (hA : ∀ k, w.heap.size ≤ k → A k) (hO : OwnIn A []) (hap : Apart []) (hks : Pks (Pub A []) [] w) (h0 : (NilS).p (Pub A []) w v0) (h1 : (D (n0 : Int)).p (Pub A []) w v1) (H : slices_Grow_int s0 n0 = some r) :
    Calls Try.prog 106 #[v0, v1] w (RetO A w [] (fun g : Nat × Prop × Nat => Sl g.1 g.2.1 0 (List.length r) g.2.2) fun g => [⟨g.1, g.2.1, Row (r : List Int) g.2.2⟩]) := by
  unfold slices_Grow_int at H
  refine enterO2 hA hap hks Try.func106 rfl Try.ntmps106 rfl h0 h1 ?_
  refine TC.seqS ?_
  refine TS.s OpY.assign rfl ?_
  refine TS.nil ?_
  refine TE.then ?_
  refine TC.kp [0, 1] [] ?_
  refine TC.seq ?_
  refine TC.seqS ?_
  refine TS.s OpY.move rfl ?_
  refine TS.s OpY.lss rfl ?_
  refine TS.nil ?_
  refine TE.then ?_
  refine TC.kp [0, 1, 6] [] ?_
  refine TC.cond (fun hc => ?_) (fun hc => ?_)
  · replace H := cT H hc
    cases H
  · replace H := cF H hc
    refine TC.skip ?_
    refine TE.then ?_
    refine TC.kp [0, 1] [] ?_
    refine TC.seq ?_
    obtain ⟨o_3, H3, H⟩ := bnd H
    refine TC.cutP (fun s : (List Int) => o_3 = s) (fun (s_2 : (List Int)) (⟨b_0, p_0, c_0⟩ : Nat × Prop × Nat) => (Env.set Env.nil 0 (Sl b_0 p_0 0 s_2.length c_0))) (fun (s_2 : (List Int)) (⟨b_0, p_0, c_0⟩ : Nat × Prop × Nat) => [⟨b_0, p_0, (Row (s_2 : List Int) c_0)⟩]) ?_ ?_
    · skip
      refine TC.seqS ?_
      refine TS.s OpY.move rfl ?_
      refine TS.s OpY.move rfl ?_
      refine TS.s OpY.capNil rfl ?_
      refine TS.s OpY.move rfl ?_
      refine TS.s OpD.lenNil rfl ?_
      obtain ⟨x_4, ex_4, H3⟩ := bnd H3
      refine TS.s (OpD.sub ex_4) rfl ?_
      obtain ⟨x_5, ex_5, H3⟩ := bnd H3
      refine TS.s (OpD.sub ex_5) rfl ?_
      refine TS.s OpY.assign rfl ?_
      refine TS.nil ?_
      refine TE.then ?_
      refine TC.kp [0, 1] [] ?_
      refine TC.seqS ?_
      refine TS.s OpY.move rfl ?_
      refine TS.s OpY.gtr rfl ?_
      refine TS.nil ?_
      refine TE.then ?_
      refine TC.kp [0, 1, 16] [] ?_
      refine TC.cond (fun hc => ?_) (fun hc => ?_)
      · replace H3 := cT H3 hc
        refine TC.regionS ?_
        refine TS.s OpY.move rfl ?_
        refine TS.s OpY.move rfl ?_
        refine TS.s OpY.capNil rfl ?_
        refine TS.s (OpY.sliceNil (α := Int)) rfl ?_
        refine TS.s OpY.move rfl ?_
        obtain ⟨u_6, eu_6, H3⟩ := bnd H3
        obtain ⟨u_7, eu_7, H3⟩ := bnd H3
        refine TS.appMake (α := Int) eu_6 eu_7 rfl fun b22_7 c22_7 => ?_
        refine TS.s OpY.move rfl ?_
        refine TS.s OpD.lenNil rfl ?_
        obtain ⟨u_9, eu_9, H3⟩ := bnd H3
        refine TS.s (OpY.sliceSlTo (cut_row eu_9 rfl).2.1 (cut_row eu_9 rfl).2.2) rfl ?_
        refine TS.s OpY.assign rfl ?_
        refine TS.nil ?_
        refine TE.kp [0] [b22_7] ?_
        refine TE.trim b22_7 (Int.toNat (0 : Int)) (cut_le0 eu_9) ?_
        refine TE.see 0 _ (Sl_le (List.length_take_of_le (cut_le0 eu_9)).symm) ?_
        obtain ⟨l_10, el_10, H3⟩ := bnd H3
        refine TE.nmB b22_7 (nm_row el_10) ?_
        refine TE.see 0 _ (nm_sl2 el_10 rfl) ?_
        exact TE.cutP l_10 ⟨b22_7, True, c22_7⟩ (Option.some.inj H3).symm (Env.cvBy (Sl_le rfl) (Env.le_nil _)) (Less.pk rfl (Less.nil _))
      · replace H3 := cF H3 hc
        refine TC.skip ?_
        exact TE.cutP [] ⟨0, False, 0⟩ (Option.some.inj H3).symm (Env.cvBy NilS.sl0 (Env.le_nil _)) (Less.nilRow (Less.nil _))
    rintro s_2 ⟨b_0, p_0, c_0⟩ hp
    replace hp := hp.symm
    subst hp
    refine TE.then ?_
    refine TC.kp [0] [b_0] ?_
    refine TC.seqS ?_
    refine TS.s OpY.move rfl ?_
    refine TS.s OpY.assign rfl ?_
    refine TS.nil ?_
    refine TE.then ?_
    refine TC.kp [4] [b_0] ?_
    refine TC.ret ?_
    obtain rfl := (Option.some.inj H)
    exact TE.retO1 rfl ⟨b_0, p_0, c_0⟩ (Sl_le rfl) (Less.pk rfl (Less.nil _))
theorem slices_Grow_int_c {A : Nat → Prop} {s0 : (List Int)} {n0 : Int} {r : (List Int)} (w : World) (v0 v1 : Value) (hA : ∀ k, w.heap.size ≤ k → A k) (h0 : (NilS).p A w v0) (h1 : (D (n0 : Int)).p A w v1) (H : slices_Grow_int s0 n0 = some r) :
    Calls Try.prog 106 #[v0, v1] w (Ret A w (D r)) := (slices_Grow_int_o w v0 v1 hA ⟨fun k ⟨e, he, _⟩ => absurd he (by simp)⟩ List.Pairwise.nil (fun e he => absurd he (by simp)) (Ty.enter h0) (Ty.enter h1) H).mono fun e w' h => RetO.pub1 hA h
def slices_Concat_int_l1 (slices0 : (List (List Int))) (size_3 : Int) (x_4 : Int) : Option ((Int × Int) ⊕ Int) :=
  bif (decide (x_4 < (slices0.length : Int))) then ((idx slices0 x_4).bind fun x_6 => (addI size_3 (x_6.length : Int)).bind fun x_7 => bif (decide (x_7 < (0 : Int))) then (none) else ((addI x_4 (1 : Int)).bind fun x_8 => some (.inl (x_7, x_8)))) else (some (.inr size_3))
def slices_Concat_int_l2 (slices0 : (List (List Int))) (x_14 : Int) (newslice_16 : (List Int)) : Option ((Int × (List Int)) ⊕ (List Int)) :=
  bif (decide (x_14 < (slices0.length : Int))) then ((idx slices0 x_14).bind fun x_18 => (room 8 ((newslice_16.length + x_18.length : Nat) : Int)).bind fun u_20 => (some ((newslice_16 ++ x_18) : (List Int))).bind fun l_21 => (addI x_14 (1 : Int)).bind fun x_22 => some (.inl (x_22, l_21))) else (some (.inr newslice_16))
def slices_Concat_int (slices0 : (List (List Int))) : Option (List Int) :=
  (loopO (fun s => slices_Concat_int_l1 slices0 s.1 s.2) ((0 : Int), (0 : Int))).bind fun size_1 => (slices_Grow_int [] size_1).bind fun x_9 => (loopO (fun s => slices_Concat_int_l2 slices0 s.1 s.2) ((0 : Int), x_9)).bind fun newslice_12 => some newslice_12
/-- slices.Concat   int int  -/
theorem slices_Concat_int_c {A : Nat → Prop} {slices0 : (List (List Int))}  {r : (List Int)} (w : World) (v0 : Value) (hA : ∀ k, w.heap.size ≤ k → A k)  (h0 : (D (slices0 : (List (List Int)))).p A w v0) (H : slices_Concat_int slices0 = some r) :
    Calls Try.prog 95 #[v0] w (Ret A w (D (r : (List Int)))) := by
  unfold slices_Concat_int at H
  refine enter1 hA Try.func95 rfl Try.ntmps95 rfl h0 ?_
  refine TC.seqS ?_
  refine TS.s OpY.assign rfl ?_
  refine TS.nil ?_
  refine TE.then ?_
  refine TC.kp [0] [] ?_
  refine TC.seqS ?_
  refine TS.s OpY.assign rfl ?_
  refine TS.nil ?_
  refine TE.then ?_
  refine TC.kp [0, 3] [] ?_
  refine TC.seq ?_
  refine TC.seqS ?_
  refine TS.s OpY.move rfl ?_
  refine TS.s OpD.len rfl ?_
  refine TS.s OpY.move rfl ?_
  refine TS.nil ?_
  refine TE.then ?_
  refine TC.kp [0, 3, 9, 10, 11] [] ?_
  obtain ⟨o_2, H2, H⟩ := bnd H
  refine TC.cutP (fun s : Int => o_2 = s) (fun (size_1 : Int) (_ : Unit) => (Env.set (Env.set Env.nil 0 (D (slices0 : (List (List Int))))) 3 (D (size_1 : Int)))) (fun (size_1 : Int) (_ : Unit) => []) ?_ ?_
  · skip
    refine TC.block ?_
    refine TC.loopP H2 (fun ⟨size_3, x_4⟩ (_ : Unit) => (Env.set (Env.set (Env.set (Env.set (Env.set Env.nil 0 (D (slices0 : (List (List Int))))) 3 (D (size_3 : Int))) 9 (D (slices0 : (List (List Int))))) 10 (D ((slices0.length : Int) : Int))) 11 (D (x_4 : Int)))) (fun ⟨size_3, x_4⟩ (_ : Unit) => []) () (Env.cv (Env.cv (Env.cv (Env.cv (Env.cv (Env.le_nil _)))))) (Less.nil _) ?_
    rintro ⟨size_3, x_4⟩ ⟨⟩ x_5 H5 he5
    replace H5 : slices_Concat_int_l1 slices0 size_3 x_4 = some x_5 := H5
    unfold slices_Concat_int_l1 at H5
    refine TC.seqS ?_
    refine TS.s OpY.lss rfl ?_
    refine TS.nil ?_
    refine TE.then ?_
    refine TC.kp [0, 3, 9, 10, 11, 12] [] ?_
    refine TC.seq ?_
    refine TC.cond (fun hc => ?_) (fun hc => ?_)
    · replace H5 := cT H5 hc
      refine TC.skip ?_
      refine TE.then ?_
      refine TC.kp [0, 3, 9, 10, 11] [] ?_
      refine TC.seq ?_
      refine TC.block ?_
      refine TC.seqS ?_
      obtain ⟨x_6, ex_6, H5⟩ := bnd H5
      refine TS.s (OpD.index ex_6) rfl ?_
      refine TS.s OpY.load rfl ?_
      refine TS.s OpY.assign rfl ?_
      refine TS.nil ?_
      refine TE.then ?_
      refine TC.kp [0, 3, 5, 9, 10, 11] [] ?_
      refine TC.seqS ?_
      refine TS.s OpY.move rfl ?_
      refine TS.s OpY.move rfl ?_
      refine TS.s OpD.len rfl ?_
      obtain ⟨x_7, ex_7, H5⟩ := bnd H5
      refine TS.s (OpD.add ex_7) rfl ?_
      refine TS.s OpY.assign rfl ?_
      refine TS.nil ?_
      refine TE.then ?_
      refine TC.kp [0, 3, 9, 10, 11] [] ?_
      refine TC.seqS ?_
      refine TS.s OpY.move rfl ?_
      refine TS.s OpY.lss rfl ?_
      refine TS.nil ?_
      refine TE.then ?_
      refine TC.kp [0, 3, 9, 10, 11, 20] [] ?_
      refine TC.cond (fun hc => ?_) (fun hc => ?_)
      · replace H5 := cT H5 hc
        cases H5
      · replace H5 := cF H5 hc
        refine TC.skip ?_
        refine TE.inBlock_normal ?_
        refine TE.then ?_
        refine TC.kp [0, 3, 9, 10, 11] [] ?_
        refine TC.regionS ?_
        obtain ⟨x_8, ex_8, H5⟩ := bnd H5
        refine TS.s (OpD.add ex_8) rfl ?_
        refine TS.s OpY.move rfl ?_
        refine TS.nil ?_
        refine TE.kp [0, 3, 9, 10, 11] [] ?_
        exact TE.backP ⟨x_7, x_8⟩ () (Option.some.inj H5).symm (Env.cv (Env.cv (Env.cv (Env.cv (Env.cv (Env.le_nil _)))))) (Less.nil _)
    · replace H5 := cF H5 hc
      refine TC.exit ?_
      refine TE.then_exit ?_
      refine TE.then_exit ?_
      refine TE.inBlock_here ?_
      exact TE.cutP size_3 () (he5 _ (Option.some.inj H5).symm).symm (Env.cv (Env.cv (Env.le_nil _))) (Less.nil _)
  rintro size_1 ⟨⟩ hp
  replace hp := hp.symm
  subst hp
  refine TE.then ?_
  refine TC.kp [0, 3] [] ?_
  refine TC.seqS ?_
  refine TS.s OpY.move rfl ?_
  obtain ⟨x_9, ex_9, H⟩ := bnd H
  refine TS.t (OpT.callO2 [] fun w v0 v1 hA hO hap hks h0 h1 => slices_Grow_int_o w v0 v1 hA hO hap hks (id h0) (toD h1) ex_9) rfl fun ⟨b24_9, p24_9, c24_9⟩ => ?_
  dsimp only [List.cons_append, List.nil_append]
  refine TS.s OpY.assign rfl ?_
  refine TS.nil ?_
  refine TE.then ?_
  refine TC.kp [0, 6] [b24_9] ?_
  refine TC.seq ?_
  refine TC.seqS ?_
  refine TS.s OpY.move rfl ?_
  refine TS.s OpD.len rfl ?_
  refine TS.s OpY.move rfl ?_
  refine TS.nil ?_
  refine TE.then ?_
  refine TC.kp [6, 25, 26, 27] [b24_9] ?_
  obtain ⟨o_13, H13, H⟩ := bnd H
  refine TC.cutP (fun s : (List Int) => o_13 = s) (fun (newslice_12 : (List Int)) (⟨b_10, p_10, c_10⟩ : Nat × Prop × Nat) => (Env.set Env.nil 6 (Sl b_10 p_10 0 newslice_12.length c_10))) (fun (newslice_12 : (List Int)) (⟨b_10, p_10, c_10⟩ : Nat × Prop × Nat) => [⟨b_10, p_10, (Row (newslice_12 : List Int) c_10)⟩]) ?_ ?_
  · skip
    refine TC.block ?_
    refine TC.loopP H13 (fun ⟨x_14, newslice_16⟩ (⟨b_14, p_14, c_14⟩ : Nat × Prop × Nat) => (Env.set (Env.set (Env.set (Env.set Env.nil 6 (Sl b_14 p_14 0 newslice_16.length c_14)) 25 (D (slices0 : (List (List Int))))) 26 (D ((slices0.length : Int) : Int))) 27 (D (x_14 : Int)))) (fun ⟨x_14, newslice_16⟩ (⟨b_14, p_14, c_14⟩ : Nat × Prop × Nat) => [⟨b_14, p_14, (Row (newslice_16 : List Int) c_14)⟩]) ⟨b24_9, p24_9, c24_9⟩ (Env.cv (Env.cv (Env.cv (Env.cvBy (Sl_le rfl) (Env.le_nil _))))) (Less.pk rfl (Less.nil _)) ?_
    rintro ⟨x_14, newslice_16⟩ ⟨b_14, p_14, c_14⟩ x_17 H17 he17
    replace H17 : slices_Concat_int_l2 slices0 x_14 newslice_16 = some x_17 := H17
    unfold slices_Concat_int_l2 at H17
    refine TC.seqS ?_
    refine TS.s OpY.lss rfl ?_
    refine TS.nil ?_
    refine TE.then ?_
    refine TC.kp [6, 25, 26, 27, 28] [b_14] ?_
    refine TC.seq ?_
    refine TC.cond (fun hc => ?_) (fun hc => ?_)
    · replace H17 := cT H17 hc
      refine TC.skip ?_
      refine TE.then ?_
      refine TC.kp [6, 25, 26, 27] [b_14] ?_
      refine TC.seq ?_
      refine TC.block ?_
      refine TC.seqS ?_
      obtain ⟨x_18, ex_18, H17⟩ := bnd H17
      refine TS.s (OpD.index ex_18) rfl ?_
      refine TS.s OpY.load rfl ?_
      refine TS.s OpY.assign rfl ?_
      refine TS.nil ?_
      refine TE.then ?_
      refine TC.kp [6, 8, 25, 26, 27] [b_14] ?_
      refine TC.regionS ?_
      refine TS.s OpY.move rfl ?_
      refine TS.s OpY.move rfl ?_
      obtain ⟨u_20, eu_20, H17⟩ := bnd H17
      refine TS.app (ys := x_18) inferInstance eu_20 rfl rfl rfl fun b33_18 p33_18 c33_18 => ?_
      refine TS.s OpY.assign rfl ?_
      refine TS.nil ?_
      refine TE.kp [6, 25, 26, 27] [b33_18] ?_
      obtain ⟨l_21, el_21, H17⟩ := bnd H17
      refine TE.nmB b33_18 (nm_row el_21) ?_
      refine TE.see 6 _ (nm_sl2 el_21 rfl) ?_
      refine TE.inBlock_normal ?_
      refine TE.then ?_
      refine TC.kp [6, 25, 26, 27] [b33_18] ?_
      refine TC.regionS ?_
      obtain ⟨x_22, ex_22, H17⟩ := bnd H17
      refine TS.s (OpD.add ex_22) rfl ?_
      refine TS.s OpY.move rfl ?_
      refine TS.nil ?_
      refine TE.kp [6, 25, 26, 27] [b33_18] ?_
      exact TE.backP ⟨x_22, l_21⟩ ⟨b33_18, p33_18, c33_18⟩ (Option.some.inj H17).symm (Env.cv (Env.cv (Env.cv (Env.cvBy (Sl_le rfl) (Env.le_nil _))))) (Less.pk rfl (Less.nil _))
    · replace H17 := cF H17 hc
      refine TC.exit ?_
      refine TE.then_exit ?_
      refine TE.then_exit ?_
      refine TE.inBlock_here ?_
      exact TE.cutP newslice_16 ⟨b_14, p_14, c_14⟩ (he17 _ (Option.some.inj H17).symm).symm (Env.cvBy (Sl_le rfl) (Env.le_nil _)) (Less.pk rfl (Less.nil _))
  rintro newslice_12 ⟨b_10, p_10, c_10⟩ hp
  replace hp := hp.symm
  subst hp
  refine TE.then ?_
  refine TC.kp [6] [b_10] ?_
  refine TC.seqS ?_
  refine TS.s OpY.move rfl ?_
  refine TS.s OpY.assign rfl ?_
  refine TS.nil ?_
  refine TE.then ?_
  refine TC.kp [2] [b_10] ?_
  refine TC.ret ?_
  refine TE.pub b_10 (PubE.set 2 (PubC.sv PlS.all rfl) PubE.refl) ?_
  obtain rfl := (Option.some.inj H)
  exact TE.ret1 rfl Cv.le
def bad_Right_l1 (x_4 : (List Int)) (x_8 : Int) (m_9 : (List Int)) : Option ((Int × (List Int)) ⊕ ((List Int) ⊕ Bool)) :=
  bif (decide (x_8 < (x_4.length : Int))) then ((idx x_4 x_8).bind fun x_12 => bif ((decide (x_12 < (0 : Int))) || (decide (x_12 ≥ (255 : Int)))) then (some (.inr (.inr false))) else ((some ((putM m_9 x_12) : List Int)).bind fun m_15 => (addI x_8 (1 : Int)).bind fun x_16 => some (.inl (x_16, m_15)))) else (some (.inr (.inl m_9)))
def bad_Right (r0 : Reserve) : Option Bool :=
  (addI (r0.Stands.length : Int) (r0.Left.length : Int)).bind fun x_2 => bif ((decide (x_2 < (1 : Int))) || (decide (x_2 > (255 : Int)))) then (some false) else ((slices_Concat_int ([r0.Stands, r0.Left] : List (List Int))).bind fun x_4 => (loopO (fun s => bad_Right_l1 x_4 s.1 s.2) ((0 : Int), ([] : List Int))).bind fun o_7 => elS o_7 (fun m_5 => some (decide (((m_5.length : Nat) : Int) = x_2))) (fun q => some q))
/-- bad.Right -/
theorem bad_Right_c {A : Nat → Prop} {r0 : Reserve}  {r : Bool} (w : World) (v0 : Value) (hA : ∀ k, w.heap.size ≤ k → A k)  (h0 : (D (r0 : Reserve)).p A w v0) (H : bad_Right r0 = some r) :
    Calls Try.prog 75 #[v0] w (Ret A w (D (r : Bool))) := by
  unfold bad_Right at H
  refine enter1 hA Try.func75 rfl Try.ntmps75 rfl h0 ?_
  refine TC.seqS ?_
  refine TS.box rfl fun b1_0 => ?_
  refine TS.s OpY.assign rfl ?_
  refine TS.nil ?_
  refine TE.then ?_
  refine TC.kp [1] [b1_0] ?_
  refine TC.seqS ?_
  refine TS.s OpY.fieldAddr rfl ?_
  refine TS.s (OpD.ldq (Pl.fld (off := 0) (α := Reserve) (β := (List Int)) Pl.one)) rfl ?_
  refine TS.s OpD.len rfl ?_
  refine TS.s OpY.fieldAddr rfl ?_
  refine TS.s (OpD.ldq (Pl.fld (off := 1) (α := Reserve) (β := (List Int)) Pl.one)) rfl ?_
  refine TS.s OpD.len rfl ?_
  obtain ⟨x_2, ex_2, H⟩ := bnd H
  refine TS.s (OpD.add ex_2) rfl ?_
  refine TS.s OpY.assign rfl ?_
  refine TS.nil ?_
  refine TE.then ?_
  refine TC.kp [1, 3] [b1_0] ?_
  refine TC.seq ?_
  refine TC.seqS ?_
  refine TS.s OpY.move rfl ?_
  refine TS.s OpY.lss rfl ?_
  refine TS.s OpY.move rfl ?_
  refine TS.g 16 rfl (fun hg => OpY.move) rfl ?_
  refine TS.g 16 rfl (fun hg => OpY.gtr) rfl ?_
  refine TS.s OpY.pickOr rfl ?_
  refine TS.nil ?_
  refine TE.then ?_
  refine TC.kp [1, 3, 19] [b1_0] ?_
  refine TC.cond (fun hc => ?_) (fun hc => ?_)
  · replace H := cT H hc
    refine TC.seqS ?_
    refine TS.s OpY.assign rfl ?_
    refine TS.nil ?_
    refine TE.then ?_
    refine TC.kp [2] [] ?_
    refine TC.ret ?_
    refine TE.then_ret ?_
    obtain rfl := (Option.some.inj H)
    exact TE.ret1 rfl Cv.le
  · replace H := cF H hc
    refine TC.skip ?_
    refine TE.then ?_
    refine TC.kp [1, 3] [b1_0] ?_
    refine TC.seqS ?_
    refine TS.s OpY.move rfl ?_
    refine TS.makeMapN rfl fun N_2 r_2 hr_2 => ?_
    haveI := hr_2.op
    refine TS.s OpY.assign rfl ?_
    refine TS.nil ?_
    refine TE.then ?_
    refine TC.kp [1, 3, 4] [b1_0] ?_
    refine TC.seq ?_
    refine TC.seqS ?_
    refine TS.s OpY.fieldAddr rfl ?_
    refine TS.s (OpD.ldq (Pl.fld (off := 0) (α := Reserve) (β := (List Int)) Pl.one)) rfl ?_
    refine TS.s OpY.fieldAddr rfl ?_
    refine TS.s (OpD.ldq (Pl.fld (off := 1) (α := Reserve) (β := (List Int)) Pl.one)) rfl ?_
    refine TS.s (OpY.buildSlice [.tmp 23, .tmp 25] rfl rfl (by decide)) rfl ?_
    obtain ⟨x_4, ex_4, H⟩ := bnd H
    refine TS.s (OpY.call1 fun w v0 hA h0 => slices_Concat_int_c w v0 hA (toD h0) ex_4) rfl ?_
    refine TS.s OpD.len rfl ?_
    refine TS.s OpY.move rfl ?_
    refine TS.nil ?_
    refine TE.then ?_
    refine TC.kp [3, 4, 27, 28, 29] [] ?_
    obtain ⟨o_7, H7, H⟩ := bnd H
    refine TC.cutM hr_2 (fun s : (List Int) => o_7 = .inl s) (fun (m_5 : (List Int)) => m_5) (fun (m_5 : (List Int)) (_ : Unit) => (Env.set (Env.set Env.nil 3 (D (x_2 : Int))) 4 (MapT N_2))) (fun (m_5 : (List Int)) (_ : Unit) => []) ?_ ?_
    · skip
      refine TC.block ?_
      refine TC.loopM H7 hr_2 (fun ⟨x_8, m_9⟩ => m_9) (fun ⟨x_8, m_9⟩ (_ : Unit) => (Env.set (Env.set (Env.set (Env.set (Env.set Env.nil 3 (D (x_2 : Int))) 4 (MapT N_2)) 27 (D (x_4 : (List Int)))) 28 (D ((x_4.length : Int) : Int))) 29 (D (x_8 : Int)))) (fun ⟨x_8, m_9⟩ (_ : Unit) => []) () rfl (Env.cv (Env.cv (Env.cv (Env.cv (Env.cv (Env.le_nil _)))))) (Less.nil _) ?_
      rintro ⟨x_8, m_9⟩ ⟨⟩ x_11 H11 he11 r_9 hr_9
      haveI := hr_9.op
      replace H11 : bad_Right_l1 x_4 x_8 m_9 = some x_11 := H11
      unfold bad_Right_l1 at H11
      refine TC.seqS ?_
      refine TS.s OpY.lss rfl ?_
      refine TS.nil ?_
      refine TE.then ?_
      refine TC.kp [3, 4, 27, 28, 29, 30] [] ?_
      refine TC.seq ?_
      refine TC.cond (fun hc => ?_) (fun hc => ?_)
      · replace H11 := cT H11 hc
        refine TC.skip ?_
        refine TE.then ?_
        refine TC.kp [3, 4, 27, 28, 29] [] ?_
        refine TC.seq ?_
        refine TC.block ?_
        refine TC.seqS ?_
        obtain ⟨x_12, ex_12, H11⟩ := bnd H11
        refine TS.s (OpD.index ex_12) rfl ?_
        refine TS.s OpY.load rfl ?_
        refine TS.s OpY.assign rfl ?_
        refine TS.nil ?_
        refine TE.then ?_
        refine TC.kp [3, 4, 6, 27, 28, 29] [] ?_
        refine TC.seq ?_
        refine TC.seqS ?_
        refine TS.s OpY.move rfl ?_
        refine TS.s OpY.lss rfl ?_
        refine TS.s OpY.move rfl ?_
        refine TS.g 35 rfl (fun hg => OpY.move) rfl ?_
        refine TS.g 35 rfl (fun hg => OpY.geq) rfl ?_
        refine TS.s OpY.pickOr rfl ?_
        refine TS.nil ?_
        refine TE.then ?_
        refine TC.kp [3, 4, 6, 27, 28, 29, 38] [] ?_
        refine TC.cond (fun hc => ?_) (fun hc => ?_)
        · replace H11 := cT H11 hc
          refine TC.seqS ?_
          refine TS.s OpY.assign rfl ?_
          refine TS.nil ?_
          refine TE.then ?_
          refine TC.kp [2] [] ?_
          refine TC.ret ?_
          refine TE.then_ret ?_
          refine TE.inBlock_ret ?_
          refine TE.then_ret ?_
          refine TE.then_ret ?_
          refine TE.inBlock_ret ?_
          refine TE.cutM_ret ?_
          have R12 := elS_r (he11 _ (Option.some.inj H11).symm) H
          refine TE.then_ret ?_
          refine TE.mapBack hr_9 ?_
          obtain rfl := (Option.some.inj R12)
          exact TE.ret1 rfl Cv.le
        · replace H11 := cF H11 hc
          refine TC.skip ?_
          refine TE.then ?_
          refine TC.kp [3, 4, 6, 27, 28, 29] [] ?_
          refine TC.regionS ?_
          refine TS.s OpY.move rfl ?_
          refine TS.s OpY.move rfl ?_
          refine TS.s OpY.buildE rfl ?_
          refine TS.mapUpdate hr_9 fun r_13 hr_13 => ?_
          haveI := hr_13.op
          refine TS.nil ?_
          refine TE.kp [3, 4, 27, 28, 29] [] ?_
          obtain ⟨m_15, em_15, H11⟩ := bnd H11
          replace hr_13 := (Option.some.inj em_15) ▸ hr_13
          refine TE.inBlock_normal ?_
          refine TE.then ?_
          refine TC.kp [3, 4, 27, 28, 29] [] ?_
          refine TC.regionS ?_
          obtain ⟨x_16, ex_16, H11⟩ := bnd H11
          refine TS.s (OpD.add ex_16) rfl ?_
          refine TS.s OpY.move rfl ?_
          refine TS.nil ?_
          refine TE.kp [3, 4, 27, 28, 29] [] ?_
          exact TE.backM hr_13 ⟨x_16, m_15⟩ () (Option.some.inj H11).symm rfl (Env.cv (Env.cv (Env.cv (Env.cv (Env.cv (Env.le_nil _)))))) (Less.nil _)
      · replace H11 := cF H11 hc
        refine TC.exit ?_
        refine TE.then_exit ?_
        refine TE.then_exit ?_
        refine TE.inBlock_here ?_
        exact TE.cutM hr_9 m_9 () (he11 _ (Option.some.inj H11).symm).symm rfl (Env.cv (Env.cv (Env.le_nil _))) (Less.nil _)
    rintro m_5 ⟨⟩ hp r_5 hr_5
    haveI := hr_5.op
    replace H := elS_l hp H
    refine TE.then ?_
    refine TC.kp [3, 4] [] ?_
    refine TC.seqS ?_
    refine TS.s OpY.move rfl ?_
    refine TS.mapLen hr_5 rfl ?_
    refine TS.s OpY.move rfl ?_
    refine TS.s OpY.eql rfl ?_
    refine TS.s OpY.assign rfl ?_
    refine TS.nil ?_
    refine TE.then ?_
    refine TC.kp [2] [] ?_
    refine TC.ret ?_
    refine TE.mapBack hr_5 ?_
    obtain rfl := (Option.some.inj H)
    exact TE.ret1 rfl Cv.le
def bad_has (r0 : Reserve) (n0 : Int) : Option Bool :=
  (bad_Right r0).bind fun x_2 => some ((x_2 && (decide (n0 ≥ (0 : Int)))) && (decide (n0 < (r0.Stands.length : Int))))
/-- bad.has -/
theorem bad_has_c {A : Nat → Prop} {r0 : Reserve} {n0 : Int}  {r : Bool} (w : World) (v0 v1 : Value) (hA : ∀ k, w.heap.size ≤ k → A k)  (h0 : (D (r0 : Reserve)).p A w v0) (h1 : (D (n0 : Int)).p A w v1) (H : bad_has r0 n0 = some r) :
    Calls Try.prog 77 #[v0, v1] w (Ret A w (D (r : Bool))) := by
  unfold bad_has at H
  refine enter2 hA Try.func77 rfl Try.ntmps77 rfl h0 h1 ?_
  refine TC.seqS ?_
  refine TS.box rfl fun b2_0 => ?_
  refine TS.s OpY.assign rfl ?_
  refine TS.nil ?_
  refine TE.then ?_
  refine TC.kp [1, 2] [b2_0] ?_
  refine TC.seqS ?_
  refine TS.s (OpD.ldq Pl.one) rfl ?_
  obtain ⟨x_2, ex_2, H⟩ := bnd H
  refine TS.s (OpY.call1 fun w v0 hA h0 => bad_Right_c w v0 hA (toD h0) ex_2) rfl ?_
  refine TS.s OpY.move rfl ?_
  refine TS.g 7 rfl (fun hg => OpY.move) rfl ?_
  refine TS.g 7 rfl (fun hg => OpY.geq) rfl ?_
  refine TS.s OpY.pickAnd rfl ?_
  refine TS.s OpY.move rfl ?_
  refine TS.g 11 rfl (fun hg => OpY.move) rfl ?_
  refine TS.g 11 rfl (fun hg => OpY.fieldAddr) rfl ?_
  refine TS.g 11 rfl (fun hg => (OpD.ldq (Pl.fld (off := 0) (α := Reserve) (β := (List Int)) Pl.one))) rfl ?_
  refine TS.g 11 rfl (fun hg => OpD.len) rfl ?_
  refine TS.g 11 rfl (fun hg => OpY.lss) rfl ?_
  refine TS.s OpY.pickAnd rfl ?_
  refine TS.s OpY.assign rfl ?_
  refine TS.nil ?_
  refine TE.then ?_
  refine TC.kp [4] [] ?_
  refine TC.ret ?_
  obtain rfl := (Option.some.inj H)
  exact TE.ret1 rfl Cv.le
def bad_Replace (r0 : Reserve) (n0 : Int) : Option (Reserve × Int) :=
  (slices_Clone_int r0.Stands).bind fun x_3 => (slices_Clone_int r0.Left).bind fun x_5 => (some ((⟨[], x_5⟩ : Reserve) : Reserve)).bind fun s_7 => (bad_has r0 n0).bind fun x_8 => bif (!x_8) then ((some ((⟨x_3, s_7.Left⟩ : Reserve) : Reserve)).bind fun k_9 => some (k_9, (1 : Int))) else (bif (decide ((r0.Left.length : Int) = (0 : Int))) then ((some ((⟨x_3, s_7.Left⟩ : Reserve) : Reserve)).bind fun k_10 => some (k_10, (5 : Int))) else ((idx r0.Left (0 : Int)).bind fun x_11 => (idx x_3 n0).bind fun x_12 => (some ((x_3.set (Int.toNat n0) x_11) : (List Int))).bind fun l_13 => (cut r0.Left.length (1 : Int) r0.Left.length).bind fun u_14 => (slices_Clone_int (r0.Left.drop (Int.toNat (1 : Int)))).bind fun x_15 => (some ((⟨s_7.Stands, x_15⟩ : Reserve) : Reserve)).bind fun s_16 => (some ((⟨l_13, s_16.Left⟩ : Reserve) : Reserve)).bind fun k_17 => some (k_17, (0 : Int))))
/-- bad.Replace -/
theorem bad_Replace_c {A : Nat → Prop} {r0 : Reserve} {n0 : Int}  {r : (Reserve × Int)} (w : World) (v0 v1 : Value) (hA : ∀ k, w.heap.size ≤ k → A k)  (h0 : (D (r0 : Reserve)).p A w v0) (h1 : (D (n0 : Int)).p A w v1) (H : bad_Replace r0 n0 = some r) :
    Calls Try.prog 28 #[v0, v1] w (Ret A w (Tup [D (r.1 : Reserve), D (r.2 : Int)])) := by
  unfold bad_Replace at H
  refine enter2 hA Try.func28 rfl Try.ntmps28 rfl h0 h1 ?_
  refine TC.seqS ?_
  refine TS.box rfl fun b2_0 => ?_
  refine TS.alloc (α := Reserve) rfl fun b4_1 => ?_
  refine TS.s OpY.assign rfl ?_
  refine TS.nil ?_
  refine TE.then ?_
  refine TC.kp [1, 2, 4] [b2_0, b4_1] ?_
  refine TC.seqD2 [0, 0, 1, 0, 0, 0, 2, 3, 1] [] mix (by kernel_rfl) (by kernel_rfl) ?_
  refine TR2.s OpY.fieldAddr rfl ?_
  refine TR2.s (OpD.ldq (Pl.fld (off := 0) (α := Reserve) (β := (List Int)) Pl.one)) rfl ?_
  obtain ⟨x_3, ex_3, H⟩ := bnd H
  refine TR2.t (fun Ωr g => (OpT.callO1 [] fun w v0 hA hO hap hks h0 => slices_Clone_int_o w v0 hA hO hap hks (toD h0) ex_3)) rfl ?_
  refine TR2.s OpY.fieldAddr rfl ?_
  refine TR2.s (OpD.ldq (Pl.fld (off := 1) (α := Reserve) (β := (List Int)) Pl.one)) rfl ?_
  obtain ⟨x_5, ex_5, H⟩ := bnd H
  refine TR2.s (OpY.call1 fun w v0 hA h0 => slices_Clone_int_c w v0 hA (toD h0) ex_5) rfl ?_
  refine TR2.r (fun g => OpG.s (OpY.buildC (ps := _) rfl ⟨_, Try.underlying47, by kernel_rfl⟩ ((PartsC.hd (CtH.new (by decide)) (PartsC.d (((Pl.mix (Pl.fld (off := 1) (α := Reserve) (β := (List Int)) Pl.one) (by first | decide | omega))).st _) inferInstance))))) rfl ?_
  refine TR2.a (AllocU.of (α := Reserve)) rfl ?_
  refine TR2.tn (fun Ωr g => (OpT.storeC trivial rfl CtSc.h)) rfl ?_
  refine TR2.nil ?_
  rintro ⟨⟨⟨⟨_, ⟨b9_3, p9_3, c9_3⟩⟩, _⟩, b6_5⟩, _⟩
  dsimp only [Fam.nextS, Fam.nextN, Fam.one, List.cons_append, List.nil_append]
  refine TC.kp [1, 2, 4, 6] [b2_0, b4_1, b6_5, b9_3] ?_
  obtain ⟨s_7, es_7, H⟩ := bnd H
  refine TC.nmB b6_5 (nm_mix (nm_one es_7)) ?_
  refine TC.seq ?_
  refine TC.seqS ?_
  refine TS.s (OpD.ldq Pl.one) rfl ?_
  refine TS.s OpY.move rfl ?_
  obtain ⟨x_8, ex_8, H⟩ := bnd H
  refine TS.s (OpY.call2 fun w v0 v1 hA h0 h1 => bad_has_c w v0 v1 hA (toD h0) (toD h1) ex_8) rfl ?_
  refine TS.s OpY.notB rfl ?_
  refine TS.nil ?_
  refine TE.then ?_
  refine TC.kp [1, 2, 4, 6, 17] [b2_0, b4_1, b6_5, b9_3] ?_
  refine TC.cond (fun hc => ?_) (fun hc => ?_)
  · replace H := cT H hc
    refine TC.seqS ?_
    refine TS.coll b6_5 b9_3 (o := 0) (((Pl.fld (off := 0) (α := Reserve) (β := (List Int)) Pl.one)).st (x_3 : List Int)) (PubC.sv PlS.all rfl) ?_
    refine TS.s (OpD.ldq Pl.one) rfl ?_
    refine TS.un (OpT.storeq (y := ((⟨x_3, s_7.Left⟩ : Reserve) : Reserve)) Pl.one) ?_
    refine TS.s OpY.assign rfl ?_
    refine TS.nil ?_
    refine TE.then ?_
    refine TC.kp [4, 5] [b4_1] ?_
    obtain ⟨k_9, ek_9, H⟩ := bnd H
    refine TC.nmB b4_1 (nm_one ek_9) ?_
    refine TC.ret ?_
    refine TE.then_ret ?_
    obtain rfl := (Option.some.inj H)
    exact TE.retN rfl rfl (.cons Cv.le (.cons Cv.le .nil))
  · replace H := cF H hc
    refine TC.skip ?_
    refine TE.then ?_
    refine TC.kp [1, 2, 4, 6] [b2_0, b4_1, b6_5, b9_3] ?_
    refine TC.seq ?_
    refine TC.seqS ?_
    refine TS.s OpY.fieldAddr rfl ?_
    refine TS.s (OpD.ldq (Pl.fld (off := 1) (α := Reserve) (β := (List Int)) Pl.one)) rfl ?_
    refine TS.s OpD.len rfl ?_
    refine TS.s OpY.eql rfl ?_
    refine TS.nil ?_
    refine TE.then ?_
    refine TC.kp [1, 2, 4, 6, 22] [b2_0, b4_1, b6_5, b9_3] ?_
    refine TC.cond (fun hc => ?_) (fun hc => ?_)
    · replace H := cT H hc
      refine TC.seqS ?_
      refine TS.coll b6_5 b9_3 (o := 0) (((Pl.fld (off := 0) (α := Reserve) (β := (List Int)) Pl.one)).st (x_3 : List Int)) (PubC.sv PlS.all rfl) ?_
      refine TS.s (OpD.ldq Pl.one) rfl ?_
      refine TS.un (OpT.storeq (y := ((⟨x_3, s_7.Left⟩ : Reserve) : Reserve)) Pl.one) ?_
      refine TS.s OpY.assign rfl ?_
      refine TS.nil ?_
      refine TE.then ?_
      refine TC.kp [4, 5] [b4_1] ?_
      obtain ⟨k_10, ek_10, H⟩ := bnd H
      refine TC.nmB b4_1 (nm_one ek_10) ?_
      refine TC.ret ?_
      refine TE.then_ret ?_
      obtain rfl := (Option.some.inj H)
      exact TE.retN rfl rfl (.cons Cv.le (.cons Cv.le .nil))
    · replace H := cF H hc
      refine TC.skip ?_
      refine TE.then ?_
      refine TC.kp [1, 2, 4, 6] [b2_0, b4_1, b6_5, b9_3] ?_
      refine TC.seqD [8] [b9_3] mix (by kernel_rfl) (by kernel_rfl) ?_
      refine TR.s OpY.fieldAddr rfl ?_
      refine TR.s (OpD.ldHq CeH.here) rfl ?_
      refine TR.s OpY.move rfl ?_
      refine TR.s OpY.fieldAddr rfl ?_
      refine TR.s (OpD.ldq (Pl.fld (off := 1) (α := Reserve) (β := (List Int)) Pl.one)) rfl ?_
      obtain ⟨x_11, ex_11, H⟩ := bnd H
      refine TR.s (OpD.index ex_11) rfl ?_
      refine TR.s OpY.load rfl ?_
      obtain ⟨x_12, ex_12, H⟩ := bnd H
      refine TR.s (OpD.indexq (idx_in ex_12 rfl)) rfl ?_
      refine TR.tn (fun g => (OpT.storeq (y := (x_11 : Int)) (Pl.rowz ex_12))) rfl ?_
      refine TR.nil ?_
      rintro ⟨_, _⟩
      dsimp only [Fam.nextS, Fam.nextN, Fam.one, List.cons_append, List.nil_append]
      refine TC.kp [2, 4, 6] [b2_0, b4_1, b6_5, b9_3] ?_
      obtain ⟨l_13, el_13, H⟩ := bnd H
      refine TC.nmB b9_3 (nm_row el_13) ?_
      refine TC.nmB b6_5 (mix_n (nm_len el_13 (by simp))) ?_
      refine TC.seqS ?_
      refine TS.s OpY.fieldAddr rfl ?_
      refine TS.s (OpD.ldq (Pl.fld (off := 1) (α := Reserve) (β := (List Int)) Pl.one)) rfl ?_
      obtain ⟨u_14, eu_14, H⟩ := bnd H
      refine TS.s (OpD.sliceFrom eu_14) rfl ?_
      obtain ⟨x_15, ex_15, H⟩ := bnd H
      refine TS.s (OpY.call1 fun w v0 hA h0 => slices_Clone_int_c w v0 hA (toD h0) ex_15) rfl ?_
      refine TS.s OpY.fieldAddr rfl ?_
      refine TS.un (OpT.storeq (y := (x_15 : (List Int))) (Pl.mix (Pl.fld (off := 1) (α := Reserve) (β := (List Int)) Pl.one) (by first | decide | omega))) ?_
      refine TS.nil ?_
      refine TE.then ?_
      refine TC.kp [4, 6] [b4_1, b6_5, b9_3] ?_
      obtain ⟨s_16, es_16, H⟩ := bnd H
      refine TC.nmB b6_5 (nm_mix (nm_one es_16)) ?_
      refine TC.seqS ?_
      refine TS.coll b6_5 b9_3 (o := 0) (((Pl.fld (off := 0) (α := Reserve) (β := (List Int)) Pl.one)).st (l_13 : List Int)) (PubC.sv PlS.all rfl) ?_
      refine TS.s (OpD.ldq Pl.one) rfl ?_
      refine TS.un (OpT.storeq (y := ((⟨l_13, s_16.Left⟩ : Reserve) : Reserve)) Pl.one) ?_
      refine TS.s OpY.assign rfl ?_
      refine TS.nil ?_
      refine TE.then ?_
      refine TC.kp [4, 5] [b4_1] ?_
      obtain ⟨k_17, ek_17, H⟩ := bnd H
      refine TC.nmB b4_1 (nm_one ek_17) ?_
      refine TC.ret ?_
      obtain rfl := (Option.some.inj H)
      exact TE.retN rfl rfl (.cons Cv.le (.cons Cv.le .nil))
def bad_At (r0 : Reserve) (n0 : Int) : Option (Int × Int) :=
  (bad_has r0 n0).bind fun x_2 => bif (!x_2) then (some ((0 : Int), (1 : Int))) else ((idx r0.Stands n0).bind fun x_3 => some (x_3, (0 : Int)))
/-- bad.At -/
theorem bad_At_c {A : Nat → Prop} {r0 : Reserve} {n0 : Int}  {r : (Int × Int)} (w : World) (v0 v1 : Value) (hA : ∀ k, w.heap.size ≤ k → A k)  (h0 : (D (r0 : Reserve)).p A w v0) (h1 : (D (n0 : Int)).p A w v1) (H : bad_At r0 n0 = some r) :
    Calls Try.prog 29 #[v0, v1] w (Ret A w (Tup [D (r.1 : Int), D (r.2 : Int)])) := by
  unfold bad_At at H
  refine enter2 hA Try.func29 rfl Try.ntmps29 rfl h0 h1 ?_
  refine TC.seqS ?_
  refine TS.box rfl fun b2_0 => ?_
  refine TS.s OpY.assign rfl ?_
  refine TS.s OpY.assign rfl ?_
  refine TS.nil ?_
  refine TE.then ?_
  refine TC.kp [1, 2] [b2_0] ?_
  refine TC.seq ?_
  refine TC.seqS ?_
  refine TS.s (OpD.ldq Pl.one) rfl ?_
  refine TS.s OpY.move rfl ?_
  obtain ⟨x_2, ex_2, H⟩ := bnd H
  refine TS.s (OpY.call2 fun w v0 v1 hA h0 h1 => bad_has_c w v0 v1 hA (toD h0) (toD h1) ex_2) rfl ?_
  refine TS.s OpY.notB rfl ?_
  refine TS.nil ?_
  refine TE.then ?_
  refine TC.kp [1, 2, 9] [b2_0] ?_
  refine TC.cond (fun hc => ?_) (fun hc => ?_)
  · replace H := cT H hc
    refine TC.seqS ?_
    refine TS.s OpY.assign rfl ?_
    refine TS.s OpY.assign rfl ?_
    refine TS.nil ?_
    refine TE.then ?_
    refine TC.kp [4, 5] [] ?_
    refine TC.ret ?_
    refine TE.then_ret ?_
    obtain rfl := (Option.some.inj H)
    exact TE.retN rfl rfl (.cons Cv.le (.cons Cv.le .nil))
  · replace H := cF H hc
    refine TC.skip ?_
    refine TE.then ?_
    refine TC.kp [1, 2] [b2_0] ?_
    refine TC.seqS ?_
    refine TS.s OpY.fieldAddr rfl ?_
    refine TS.s (OpD.ldq (Pl.fld (off := 0) (α := Reserve) (β := (List Int)) Pl.one)) rfl ?_
    refine TS.s OpY.move rfl ?_
    obtain ⟨x_3, ex_3, H⟩ := bnd H
    refine TS.s (OpD.index ex_3) rfl ?_
    refine TS.s OpY.load rfl ?_
    refine TS.s OpY.assign rfl ?_
    refine TS.s OpY.assign rfl ?_
    refine TS.nil ?_
    refine TE.then ?_
    refine TC.kp [4, 5] [] ?_
    refine TC.ret ?_
    obtain rfl := (Option.some.inj H)
    exact TE.retN rfl rfl (.cons Cv.le (.cons Cv.le .nil))
def sum_On_l2 (n_9 : UInt32) (x_10 : Int) : Option ((UInt32 × Int) ⊕ UInt32) :=
  bif (decide (x_10 < (8 : Int))) then ((some ((n_9 &&& (UInt32.ofNat 1)) : UInt32)).bind fun odd_12 => (some (((shr32 n_9 1) ^^^ ((UInt32.ofNat 3988292384) * odd_12)) : UInt32)).bind fun n_13 => (addI x_10 (1 : Int)).bind fun x_14 => some (.inl (n_13, x_14))) else (some (.inr n_9))
def sum_On_l1 (b0 : (List UInt8)) (n_3 : UInt32) (x_4 : Int) : Option ((UInt32 × Int) ⊕ UInt32) :=
  bif (decide (x_4 < (b0.length : Int))) then ((idx b0 x_4).bind fun x_6 => (loopO (fun s => sum_On_l2 s.1 s.2) ((n_3 ^^^ (x_6.toUInt32)), (0 : Int))).bind fun n_7 => (addI x_4 (1 : Int)).bind fun x_15 => some (.inl (n_7, x_15))) else (some (.inr n_3))
def sum_On (sum0 : UInt32) (b0 : (List UInt8)) : Option UInt32 :=
  (loopO (fun s => sum_On_l1 b0 s.1 s.2) ((~~~sum0), (0 : Int))).bind fun n_1 => some (~~~n_1)
/-- sum.On -/
theorem sum_On_c {A : Nat → Prop} {sum0 : UInt32} {b0 : (List UInt8)}  {r : UInt32} (w : World) (v0 v1 : Value) (hA : ∀ k, w.heap.size ≤ k → A k)  (h0 : (D (sum0 : UInt32)).p A w v0) (h1 : (D (b0 : (List UInt8))).p A w v1) (H : sum_On sum0 b0 = some r) :
    Calls Try.prog 93 #[v0, v1] w (Ret A w (D (r : UInt32))) := by
  unfold sum_On at H
  refine enter2 hA Try.func93 rfl Try.ntmps93 rfl h0 h1 ?_
  refine TC.seqS ?_
  refine TS.s OpY.assign rfl ?_
  refine TS.nil ?_
  refine TE.then ?_
  refine TC.kp [0, 1] [] ?_
  refine TC.seqS ?_
  refine TS.s OpY.move rfl ?_
  refine TS.s OpY.not32 rfl ?_
  refine TS.s OpY.assign rfl ?_
  refine TS.nil ?_
  refine TE.then ?_
  refine TC.kp [1, 5] [] ?_
  refine TC.seq ?_
  refine TC.seqS ?_
  refine TS.s OpY.move rfl ?_
  refine TS.s OpD.len rfl ?_
  refine TS.s OpY.move rfl ?_
  refine TS.nil ?_
  refine TE.then ?_
  refine TC.kp [5, 11, 12, 13] [] ?_
  obtain ⟨o_2, H2, H⟩ := bnd H
  refine TC.cutP (fun s : UInt32 => o_2 = s) (fun (n_1 : UInt32) (_ : Unit) => (Env.set Env.nil 5 (D (n_1 : UInt32)))) (fun (n_1 : UInt32) (_ : Unit) => []) ?_ ?_
  · skip
    refine TC.block ?_
    refine TC.loopP H2 (fun ⟨n_3, x_4⟩ (_ : Unit) => (Env.set (Env.set (Env.set (Env.set Env.nil 5 (D (n_3 : UInt32))) 11 (D (b0 : (List UInt8)))) 12 (D ((b0.length : Int) : Int))) 13 (D (x_4 : Int)))) (fun ⟨n_3, x_4⟩ (_ : Unit) => []) () (Env.cv (Env.cv (Env.cv (Env.cv (Env.le_nil _))))) (Less.nil _) ?_
    rintro ⟨n_3, x_4⟩ ⟨⟩ x_5 H5 he5
    replace H5 : sum_On_l1 b0 n_3 x_4 = some x_5 := H5
    unfold sum_On_l1 at H5
    refine TC.seqS ?_
    refine TS.s OpY.lss rfl ?_
    refine TS.nil ?_
    refine TE.then ?_
    refine TC.kp [5, 11, 12, 13, 14] [] ?_
    refine TC.seq ?_
    refine TC.cond (fun hc => ?_) (fun hc => ?_)
    · replace H5 := cT H5 hc
      refine TC.skip ?_
      refine TE.then ?_
      refine TC.kp [5, 11, 12, 13] [] ?_
      refine TC.seq ?_
      refine TC.block ?_
      refine TC.seqS ?_
      obtain ⟨x_6, ex_6, H5⟩ := bnd H5
      refine TS.s (OpD.index ex_6) rfl ?_
      refine TS.s OpY.load rfl ?_
      refine TS.s OpY.assign rfl ?_
      refine TS.nil ?_
      refine TE.then ?_
      refine TC.kp [5, 7, 11, 12, 13] [] ?_
      refine TC.seqS ?_
      refine TS.s OpY.move rfl ?_
      refine TS.s OpY.move rfl ?_
      refine TS.s OpY.conv8_32 rfl ?_
      refine TS.s OpY.xor32 rfl ?_
      refine TS.s OpY.assign rfl ?_
      refine TS.nil ?_
      refine TE.then ?_
      refine TC.kp [5, 11, 12, 13] [] ?_
      refine TC.seqS ?_
      refine TS.s OpY.move rfl ?_
      refine TS.nil ?_
      refine TE.then ?_
      refine TC.kp [5, 11, 12, 13, 21] [] ?_
      obtain ⟨o_8, H8, H5⟩ := bnd H5
      refine TC.cutP (fun s : UInt32 => o_8 = s) (fun (n_7 : UInt32) (_ : Unit) => (Env.set (Env.set (Env.set (Env.set Env.nil 5 (D (n_7 : UInt32))) 11 (D (b0 : (List UInt8)))) 12 (D ((b0.length : Int) : Int))) 13 (D (x_4 : Int)))) (fun (n_7 : UInt32) (_ : Unit) => []) ?_ ?_
      · skip
        refine TC.block ?_
        refine TC.loopP H8 (fun ⟨n_9, x_10⟩ (_ : Unit) => (Env.set (Env.set (Env.set (Env.set (Env.set Env.nil 5 (D (n_9 : UInt32))) 11 (D (b0 : (List UInt8)))) 12 (D ((b0.length : Int) : Int))) 13 (D (x_4 : Int))) 21 (D (x_10 : Int)))) (fun ⟨n_9, x_10⟩ (_ : Unit) => []) () (Env.cv (Env.cv (Env.cv (Env.cv (Env.cv (Env.le_nil _)))))) (Less.nil _) ?_
        rintro ⟨n_9, x_10⟩ ⟨⟩ x_11 H11 he11
        replace H11 : sum_On_l2 n_9 x_10 = some x_11 := H11
        unfold sum_On_l2 at H11
        refine TC.seqS ?_
        refine TS.s OpY.lss rfl ?_
        refine TS.nil ?_
        refine TE.then ?_
        refine TC.kp [5, 11, 12, 13, 21, 22] [] ?_
        refine TC.seq ?_
        refine TC.cond (fun hc => ?_) (fun hc => ?_)
        · replace H11 := cT H11 hc
          refine TC.skip ?_
          refine TE.then ?_
          refine TC.kp [5, 11, 12, 13, 21] [] ?_
          refine TC.seq ?_
          refine TC.block ?_
          refine TC.seqS ?_
          refine TS.s OpY.move rfl ?_
          refine TS.s OpY.and32 rfl ?_
          refine TS.s OpY.assign rfl ?_
          refine TS.nil ?_
          refine TE.then ?_
          refine TC.kp [5, 8, 11, 12, 13, 21] [] ?_
          obtain ⟨odd_12, eodd_12, H11⟩ := bnd H11
          refine TC.see 8 (D (odd_12 : UInt32)) (nm_cv eodd_12) ?_
          refine TC.seqS ?_
          refine TS.s OpY.move rfl ?_
          refine TS.s (OpD.shr32 (by decide)) rfl ?_
          refine TS.s OpY.assign rfl ?_
          refine TS.nil ?_
          refine TE.then ?_
          refine TC.kp [5, 8, 11, 12, 13, 21] [] ?_
          refine TC.regionS ?_
          refine TS.s OpY.move rfl ?_
          refine TS.s OpY.move rfl ?_
          refine TS.s OpY.mul32 rfl ?_
          refine TS.s OpY.xor32 rfl ?_
          refine TS.s OpY.assign rfl ?_
          refine TS.nil ?_
          refine TE.kp [5, 11, 12, 13, 21] [] ?_
          obtain ⟨n_13, en_13, H11⟩ := bnd H11
          refine TE.see 5 (D (n_13 : UInt32)) (nm_cv en_13) ?_
          refine TE.inBlock_normal ?_
          refine TE.then ?_
          refine TC.kp [5, 11, 12, 13, 21] [] ?_
          refine TC.regionS ?_
          obtain ⟨x_14, ex_14, H11⟩ := bnd H11
          refine TS.s (OpD.add ex_14) rfl ?_
          refine TS.s OpY.move rfl ?_
          refine TS.nil ?_
          refine TE.kp [5, 11, 12, 13, 21] [] ?_
          exact TE.backP ⟨n_13, x_14⟩ () (Option.some.inj H11).symm (Env.cv (Env.cv (Env.cv (Env.cv (Env.cv (Env.le_nil _)))))) (Less.nil _)
        · replace H11 := cF H11 hc
          refine TC.exit ?_
          refine TE.then_exit ?_
          refine TE.then_exit ?_
          refine TE.inBlock_here ?_
          exact TE.cutP n_9 () (he11 _ (Option.some.inj H11).symm).symm (Env.cv (Env.cv (Env.cv (Env.cv (Env.le_nil _))))) (Less.nil _)
      rintro n_7 ⟨⟩ hp
      replace hp := hp.symm
      subst hp
      refine TE.inBlock_normal ?_
      refine TE.then ?_
      refine TC.kp [5, 11, 12, 13] [] ?_
      refine TC.regionS ?_
      obtain ⟨x_15, ex_15, H5⟩ := bnd H5
      refine TS.s (OpD.add ex_15) rfl ?_
      refine TS.s OpY.move rfl ?_
      refine TS.nil ?_
      refine TE.kp [5, 11, 12, 13] [] ?_
      exact TE.backP ⟨n_7, x_15⟩ () (Option.some.inj H5).symm (Env.cv (Env.cv (Env.cv (Env.cv (Env.le_nil _))))) (Less.nil _)
    · replace H5 := cF H5 hc
      refine TC.exit ?_
      refine TE.then_exit ?_
      refine TE.then_exit ?_
      refine TE.inBlock_here ?_
      exact TE.cutP n_3 () (he5 _ (Option.some.inj H5).symm).symm (Env.cv (Env.le_nil _)) (Less.nil _)
  rintro n_1 ⟨⟩ hp
  replace hp := hp.symm
  subst hp
  refine TE.then ?_
  refine TC.kp [5] [] ?_
  refine TC.seqS ?_
  refine TS.s OpY.move rfl ?_
  refine TS.s OpY.not32 rfl ?_
  refine TS.s OpY.assign rfl ?_
  refine TS.nil ?_
  refine TE.then ?_
  refine TC.kp [4] [] ?_
  refine TC.ret ?_
  obtain rfl := (Option.some.inj H)
  exact TE.ret1 rfl Cv.le
def sum_Of (b0 : (List UInt8)) : Option UInt32 :=
  (sum_On (UInt32.ofNat 0) b0).bind fun x_1 => some x_1
/-- sum.Of -/
theorem sum_Of_c {A : Nat → Prop} {b0 : (List UInt8)}  {r : UInt32} (w : World) (v0 : Value) (hA : ∀ k, w.heap.size ≤ k → A k)  (h0 : (D (b0 : (List UInt8))).p A w v0) (H : sum_Of b0 = some r) :
    Calls Try.prog 64 #[v0] w (Ret A w (D (r : UInt32))) := by
  unfold sum_Of at H
  refine enter1 hA Try.func64 rfl Try.ntmps64 rfl h0 ?_
  refine TC.seqS ?_
  refine TS.s OpY.assign rfl ?_
  refine TS.nil ?_
  refine TE.then ?_
  refine TC.kp [0] [] ?_
  refine TC.seqS ?_
  refine TS.s OpY.move rfl ?_
  obtain ⟨x_1, ex_1, H⟩ := bnd H
  refine TS.s (OpY.call2 fun w v0 v1 hA h0 h1 => sum_On_c w v0 v1 hA (toD h0) (toD h1) ex_1) rfl ?_
  refine TS.s OpY.assign rfl ?_
  refine TS.nil ?_
  refine TE.then ?_
  refine TC.kp [2] [] ?_
  refine TC.ret ?_
  obtain rfl := (Option.some.inj H)
  exact TE.ret1 rfl Cv.le
def sum_Put_l1 (n0 : UInt64) (many0 : Int) (l_3 : (List UInt8)) (x_6 : Int) (b_7 : (List UInt8)) : Option ((Int × (List UInt8)) ⊕ (List UInt8)) :=
  bif (decide (x_6 < (l_3.length : Int))) then ((subI many0 (1 : Int)).bind fun x_9 => (subI x_9 x_6).bind fun x_10 => (mulI (8 : Int) x_6).bind fun x_11 => (cnt x_11).bind fun n_12 => (idx b_7 x_10).bind fun x_13 => (some ((b_7.set (Int.toNat x_10) ((shr64 n0 x_11).toUInt8)) : (List UInt8))).bind fun l_14 => (addI x_6 (1 : Int)).bind fun x_15 => some (.inl (x_15, l_14))) else (some (.inr b_7))
def sum_Put (n0 : UInt64) (many0 : Int) : Option (List UInt8) :=
  bif ((decide (many0 < (1 : Int))) || (decide (many0 > (8 : Int)))) then (some ([] : List UInt8)) else ((room 1 many0).bind fun u_1 => (some ((List.replicate (Int.toNat many0) (Dat.z : UInt8)) : (List UInt8))).bind fun l_3 => (loopO (fun s => sum_Put_l1 n0 many0 l_3 s.1 s.2) ((0 : Int), l_3)).bind fun b_4 => some b_4)
/-- sum.Put -/
theorem sum_Put_c {A : Nat → Prop} {n0 : UInt64} {many0 : Int}  {r : (List UInt8)} (w : World) (v0 v1 : Value) (hA : ∀ k, w.heap.size ≤ k → A k)  (h0 : (D (n0 : UInt64)).p A w v0) (h1 : (D (many0 : Int)).p A w v1) (H : sum_Put n0 many0 = some r) :
    Calls Try.prog 62 #[v0, v1] w (Ret A w (D (r : (List UInt8)))) := by
  unfold sum_Put at H
  refine enter2 hA Try.func62 rfl Try.ntmps62 rfl h0 h1 ?_
  refine TC.seqS ?_
  refine TS.s OpY.assign rfl ?_
  refine TS.nil ?_
  refine TE.then ?_
  refine TC.kp [0, 1] [] ?_
  refine TC.seq ?_
  refine TC.seqS ?_
  refine TS.s OpY.move rfl ?_
  refine TS.s OpY.lss rfl ?_
  refine TS.s OpY.move rfl ?_
  refine TS.g 9 rfl (fun hg => OpY.move) rfl ?_
  refine TS.g 9 rfl (fun hg => OpY.gtr) rfl ?_
  refine TS.s OpY.pickOr rfl ?_
  refine TS.nil ?_
  refine TE.then ?_
  refine TC.kp [0, 1, 12] [] ?_
  refine TC.cond (fun hc => ?_) (fun hc => ?_)
  · replace H := cT H hc
    refine TC.seqS ?_
    refine TS.s OpY.assign rfl ?_
    refine TS.nil ?_
    refine TE.then ?_
    refine TC.kp [4] [] ?_
    refine TC.ret ?_
    refine TE.then_ret ?_
    obtain rfl := (Option.some.inj H)
    exact TE.ret1 rfl Cv.le
  · replace H := cF H hc
    refine TC.skip ?_
    refine TE.then ?_
    refine TC.kp [0, 1] [] ?_
    refine TC.seqS ?_
    refine TS.s OpY.move rfl ?_
    obtain ⟨u_1, eu_1, H⟩ := bnd H
    refine TS.make eu_1 ⟨(room_some eu_1).1, Int.le_refl _⟩ rfl fun b14_1 => ?_
    refine TS.s OpY.assign rfl ?_
    refine TS.nil ?_
    refine TE.then ?_
    refine TC.kp [0, 1, 5] [b14_1] ?_
    obtain ⟨l_3, el_3, H⟩ := bnd H
    refine TC.nmB b14_1 (nm_row el_3) ?_
    refine TC.see 5 _ (nm_sl2 el_3 (by simp)) ?_
    refine TC.seq ?_
    refine TC.seqS ?_
    refine TS.s OpY.move rfl ?_
    refine TS.s (OpD.lenSv (n := l_3.length) rfl) rfl ?_
    refine TS.s OpY.move rfl ?_
    refine TS.nil ?_
    refine TE.then ?_
    refine TC.kp [0, 1, 5, 16, 17] [b14_1] ?_
    obtain ⟨o_5, H5, H⟩ := bnd H
    refine TC.cutP (fun s : (List UInt8) => o_5 = s) (fun (b_4 : (List UInt8)) (_ : Unit) => (Env.set Env.nil 5 (Sl b14_1 True 0 b_4.length (Int.toNat many0)))) (fun (b_4 : (List UInt8)) (_ : Unit) => [⟨b14_1, True, (Row (b_4 : List UInt8) (Int.toNat many0))⟩]) ?_ ?_
    · skip
      refine TC.block ?_
      refine TC.loopP H5 (fun ⟨x_6, b_7⟩ (_ : Unit) => (Env.set (Env.set (Env.set (Env.set (Env.set Env.nil 0 (D (n0 : UInt64))) 1 (D (many0 : Int))) 5 (Sl b14_1 True 0 b_7.length (Int.toNat many0))) 16 (D ((l_3.length : Int) : Int))) 17 (D (x_6 : Int)))) (fun ⟨x_6, b_7⟩ (_ : Unit) => [⟨b14_1, True, (Row (b_7 : List UInt8) (Int.toNat many0))⟩]) () (Env.cv (Env.cv (Env.cvBy (Sl_le rfl) (Env.cv (Env.cv (Env.le_nil _)))))) (Less.pk rfl (Less.nil _)) ?_
      rintro ⟨x_6, b_7⟩ ⟨⟩ x_8 H8 he8
      replace H8 : sum_Put_l1 n0 many0 l_3 x_6 b_7 = some x_8 := H8
      unfold sum_Put_l1 at H8
      refine TC.seqS ?_
      refine TS.s OpY.lss rfl ?_
      refine TS.nil ?_
      refine TE.then ?_
      refine TC.kp [0, 1, 5, 16, 17, 18] [b14_1] ?_
      refine TC.seq ?_
      refine TC.cond (fun hc => ?_) (fun hc => ?_)
      · replace H8 := cT H8 hc
        refine TC.skip ?_
        refine TE.then ?_
        refine TC.kp [0, 1, 5, 16, 17] [b14_1] ?_
        refine TC.seq ?_
        refine TC.block ?_
        refine TC.seqS ?_
        refine TS.s OpY.move rfl ?_
        refine TS.s OpY.assign rfl ?_
        refine TS.nil ?_
        refine TE.then ?_
        refine TC.kp [0, 1, 5, 6, 16, 17] [b14_1] ?_
        refine TC.regionS ?_
        refine TS.s OpY.move rfl ?_
        refine TS.s OpY.move rfl ?_
        obtain ⟨x_9, ex_9, H8⟩ := bnd H8
        refine TS.s (OpD.sub ex_9) rfl ?_
        refine TS.s OpY.move rfl ?_
        obtain ⟨x_10, ex_10, H8⟩ := bnd H8
        refine TS.s (OpD.sub ex_10) rfl ?_
        refine TS.s OpY.move rfl ?_
        refine TS.s OpY.move rfl ?_
        obtain ⟨x_11, ex_11, H8⟩ := bnd H8
        refine TS.s (OpD.mul ex_11) rfl ?_
        obtain ⟨n_12, en_12, H8⟩ := bnd H8
        refine TS.s (OpD.shr64 (cnt_some en_12).1) rfl ?_
        refine TS.s OpY.conv64_8 rfl ?_
        obtain ⟨x_13, ex_13, H8⟩ := bnd H8
        refine TS.s (OpD.indexq (idx_in ex_13 rfl)) rfl ?_
        refine TS.un (OpT.storeq (y := (((shr64 n0 x_11).toUInt8) : UInt8)) (Pl.rowz ex_13)) ?_
        refine TS.nil ?_
        refine TE.kp [0, 1, 5, 16, 17] [b14_1] ?_
        obtain ⟨l_14, el_14, H8⟩ := bnd H8
        refine TE.nmB b14_1 (nm_row el_14) ?_
        refine TE.see 5 _ (nm_sl2 el_14 (by simp)) ?_
        refine TE.inBlock_normal ?_
        refine TE.then ?_
        refine TC.kp [0, 1, 5, 16, 17] [b14_1] ?_
        refine TC.regionS ?_
        obtain ⟨x_15, ex_15, H8⟩ := bnd H8
        refine TS.s (OpD.add ex_15) rfl ?_
        refine TS.s OpY.move rfl ?_
        refine TS.nil ?_
        refine TE.kp [0, 1, 5, 16, 17] [b14_1] ?_
        exact TE.backP ⟨x_15, l_14⟩ () (Option.some.inj H8).symm (Env.cv (Env.cv (Env.cvBy (Sl_le rfl) (Env.cv (Env.cv (Env.le_nil _)))))) (Less.pk rfl (Less.nil _))
      · replace H8 := cF H8 hc
        refine TC.exit ?_
        refine TE.then_exit ?_
        refine TE.then_exit ?_
        refine TE.inBlock_here ?_
        exact TE.cutP b_7 () (he8 _ (Option.some.inj H8).symm).symm (Env.cvBy (Sl_le rfl) (Env.le_nil _)) (Less.pk rfl (Less.nil _))
    rintro b_4 ⟨⟩ hp
    replace hp := hp.symm
    subst hp
    refine TE.then ?_
    refine TC.kp [5] [b14_1] ?_
    refine TC.seqS ?_
    refine TS.s OpY.move rfl ?_
    refine TS.s OpY.assign rfl ?_
    refine TS.nil ?_
    refine TE.then ?_
    refine TC.kp [4] [b14_1] ?_
    refine TC.ret ?_
    refine TE.pub b14_1 (PubE.set 4 (PubC.sv PlS.all rfl) PubE.refl) ?_
    obtain rfl := (Option.some.inj H)
    exact TE.ret1 rfl Cv.le
def slices_Grow_byte (s0 : (List UInt8)) (n0 : Int) : Option (List UInt8) :=
  bif (decide (n0 < (0 : Int))) then (none) else (((subI (0 : Int) (0 : Int)).bind fun x_4 => (subI n0 x_4).bind fun x_5 => bif (decide (x_5 > (0 : Int))) then ((room 1 x_5).bind fun u_6 => (posI x_5).bind fun u_7 => (cut (List.replicate (Int.toNat x_5) (Dat.z : UInt8)).length 0 (0 : Int)).bind fun u_9 => (some (((List.replicate (Int.toNat x_5) (Dat.z : UInt8)).take (Int.toNat (0 : Int))) : (List UInt8))).bind fun l_10 => some l_10) else (some [])).bind fun s_2 => some s_2)
/-- slices.Grow   byte byte  -/
theorem slices_Grow_byte_o {A : Nat → Prop} {s0 : (List UInt8)} {n0 : Int}  {r : (List UInt8)} (w : World) (v0 v1 : Value) (hA : ∀ k, w.heap.size ≤ k → A k) (hO : OwnIn A []) (hap : Apart []) (hks : Pks (Pub A []) [] w) (h0 : (NilS).p (Pub A []) w v0) (h1 : (D (n0 : Int)).p (Pub A []) w v1) (H : slices_Grow_byte s0 n0 = some r) :
    Calls Try.prog 92 #[v0, v1] w (RetO A w [] (fun g : Nat × Prop × Nat => Sl g.1 g.2.1 0 (List.length r) g.2.2) fun g => [⟨g.1, g.2.1, Row (r : List UInt8) g.2.2⟩]) := by
  unfold slices_Grow_byte at H
  refine enterO2 hA hap hks Try.func92 rfl Try.ntmps92 rfl h0 h1 ?_
  refine TC.seqS ?_
  refine TS.s OpY.assign rfl ?_
  refine TS.nil ?_
  refine TE.then ?_
  refine TC.kp [0, 1] [] ?_
  refine TC.seq ?_
  refine TC.seqS ?_
  refine TS.s OpY.move rfl ?_
  refine TS.s OpY.lss rfl ?_
  refine TS.nil ?_
  refine TE.then ?_
  refine TC.kp [0, 1, 6] [] ?_
  refine TC.cond (fun hc => ?_) (fun hc => ?_)
  · replace H := cT H hc
    cases H
  · replace H := cF H hc
    refine TC.skip ?_
    refine TE.then ?_
    refine TC.kp [0, 1] [] ?_
    refine TC.seq ?_
    obtain ⟨o_3, H3, H⟩ := bnd H
    refine TC.cutP (fun s : (List UInt8) => o_3 = s) (fun (s_2 : (List UInt8)) (⟨b_0, p_0, c_0⟩ : Nat × Prop × Nat) => (Env.set Env.nil 0 (Sl b_0 p_0 0 s_2.length c_0))) (fun (s_2 : (List UInt8)) (⟨b_0, p_0, c_0⟩ : Nat × Prop × Nat) => [⟨b_0, p_0, (Row (s_2 : List UInt8) c_0)⟩]) ?_ ?_
    · skip
      refine TC.seqS ?_
      refine TS.s OpY.move rfl ?_
      refine TS.s OpY.move rfl ?_
      refine TS.s OpY.capNil rfl ?_
      refine TS.s OpY.move rfl ?_
      refine TS.s OpD.lenNil rfl ?_
      obtain ⟨x_4, ex_4, H3⟩ := bnd H3
      refine TS.s (OpD.sub ex_4) rfl ?_
      obtain ⟨x_5, ex_5, H3⟩ := bnd H3
      refine TS.s (OpD.sub ex_5) rfl ?_
      refine TS.s OpY.assign rfl ?_
      refine TS.nil ?_
      refine TE.then ?_
      refine TC.kp [0, 1] [] ?_
      refine TC.seqS ?_
      refine TS.s OpY.move rfl ?_
      refine TS.s OpY.gtr rfl ?_
      refine TS.nil ?_
      refine TE.then ?_
      refine TC.kp [0, 1, 16] [] ?_
      refine TC.cond (fun hc => ?_) (fun hc => ?_)
      · replace H3 := cT H3 hc
        refine TC.regionS ?_
        refine TS.s OpY.move rfl ?_
        refine TS.s OpY.move rfl ?_
        refine TS.s OpY.capNil rfl ?_
        refine TS.s (OpY.sliceNil (α := UInt8)) rfl ?_
        refine TS.s OpY.move rfl ?_
        obtain ⟨u_6, eu_6, H3⟩ := bnd H3
        obtain ⟨u_7, eu_7, H3⟩ := bnd H3
        refine TS.appMake (α := UInt8) eu_6 eu_7 rfl fun b22_7 c22_7 => ?_
        refine TS.s OpY.move rfl ?_
        refine TS.s OpD.lenNil rfl ?_
        obtain ⟨u_9, eu_9, H3⟩ := bnd H3
        refine TS.s (OpY.sliceSlTo (cut_row eu_9 rfl).2.1 (cut_row eu_9 rfl).2.2) rfl ?_
        refine TS.s OpY.assign rfl ?_
        refine TS.nil ?_
        refine TE.kp [0] [b22_7] ?_
        refine TE.trim b22_7 (Int.toNat (0 : Int)) (cut_le0 eu_9) ?_
        refine TE.see 0 _ (Sl_le (List.length_take_of_le (cut_le0 eu_9)).symm) ?_
        obtain ⟨l_10, el_10, H3⟩ := bnd H3
        refine TE.nmB b22_7 (nm_row el_10) ?_
        refine TE.see 0 _ (nm_sl2 el_10 rfl) ?_
        exact TE.cutP l_10 ⟨b22_7, True, c22_7⟩ (Option.some.inj H3).symm (Env.cvBy (Sl_le rfl) (Env.le_nil _)) (Less.pk rfl (Less.nil _))
      · replace H3 := cF H3 hc
        refine TC.skip ?_
        exact TE.cutP [] ⟨0, False, 0⟩ (Option.some.inj H3).symm (Env.cvBy NilS.sl0 (Env.le_nil _)) (Less.nilRow (Less.nil _))
    rintro s_2 ⟨b_0, p_0, c_0⟩ hp
    replace hp := hp.symm
    subst hp
    refine TE.then ?_
    refine TC.kp [0] [b_0] ?_
    refine TC.seqS ?_
    refine TS.s OpY.move rfl ?_
    refine TS.s OpY.assign rfl ?_
    refine TS.nil ?_
    refine TE.then ?_
    refine TC.kp [4] [b_0] ?_
    refine TC.ret ?_
    obtain rfl := (Option.some.inj H)
    exact TE.retO1 rfl ⟨b_0, p_0, c_0⟩ (Sl_le rfl) (Less.pk rfl (Less.nil _))
theorem slices_Grow_byte_c {A : Nat → Prop} {s0 : (List UInt8)} {n0 : Int} {r : (List UInt8)} (w : World) (v0 v1 : Value) (hA : ∀ k, w.heap.size ≤ k → A k) (h0 : (NilS).p A w v0) (h1 : (D (n0 : Int)).p A w v1) (H : slices_Grow_byte s0 n0 = some r) :
    Calls Try.prog 92 #[v0, v1] w (Ret A w (D r)) := (slices_Grow_byte_o w v0 v1 hA ⟨fun k ⟨e, he, _⟩ => absurd he (by simp)⟩ List.Pairwise.nil (fun e he => absurd he (by simp)) (Ty.enter h0) (Ty.enter h1) H).mono fun e w' h => RetO.pub1 hA h
def slices_Concat_byte_l1 (slices0 : (List (List UInt8))) (size_3 : Int) (x_4 : Int) : Option ((Int × Int) ⊕ Int) :=
  bif (decide (x_4 < (slices0.length : Int))) then ((idx slices0 x_4).bind fun x_6 => (addI size_3 (x_6.length : Int)).bind fun x_7 => bif (decide (x_7 < (0 : Int))) then (none) else ((addI x_4 (1 : Int)).bind fun x_8 => some (.inl (x_7, x_8)))) else (some (.inr size_3))
def slices_Concat_byte_l2 (slices0 : (List (List UInt8))) (x_14 : Int) (newslice_16 : (List UInt8)) : Option ((Int × (List UInt8)) ⊕ (List UInt8)) :=
  bif (decide (x_14 < (slices0.length : Int))) then ((idx slices0 x_14).bind fun x_18 => (room 1 ((newslice_16.length + x_18.length : Nat) : Int)).bind fun u_20 => (some ((newslice_16 ++ x_18) : (List UInt8))).bind fun l_21 => (addI x_14 (1 : Int)).bind fun x_22 => some (.inl (x_22, l_21))) else (some (.inr newslice_16))
def slices_Concat_byte (slices0 : (List (List UInt8))) : Option (List UInt8) :=
  (loopO (fun s => slices_Concat_byte_l1 slices0 s.1 s.2) ((0 : Int), (0 : Int))).bind fun size_1 => (slices_Grow_byte [] size_1).bind fun x_9 => (loopO (fun s => slices_Concat_byte_l2 slices0 s.1 s.2) ((0 : Int), x_9)).bind fun newslice_12 => some newslice_12
/-- slices.Concat   byte byte  -/
theorem slices_Concat_byte_o {A : Nat → Prop} {slices0 : (List (List UInt8))}  {r : (List UInt8)} (w : World) (v0 : Value) (hA : ∀ k, w.heap.size ≤ k → A k) (hO : OwnIn A []) (hap : Apart []) (hks : Pks (Pub A []) [] w) (h0 : (D (slices0 : (List (List UInt8)))).p (Pub A []) w v0) (H : slices_Concat_byte slices0 = some r) :
    Calls Try.prog 63 #[v0] w (RetO A w [] (fun g : Nat × Prop × Nat => Sl g.1 g.2.1 0 (List.length r) g.2.2) fun g => [⟨g.1, g.2.1, Row (r : List UInt8) g.2.2⟩]) := by
  unfold slices_Concat_byte at H
  refine enterO1 hA hap hks Try.func63 rfl Try.ntmps63 rfl h0 ?_
  refine TC.seqS ?_
  refine TS.s OpY.assign rfl ?_
  refine TS.nil ?_
  refine TE.then ?_
  refine TC.kp [0] [] ?_
  refine TC.seqS ?_
  refine TS.s OpY.assign rfl ?_
  refine TS.nil ?_
  refine TE.then ?_
  refine TC.kp [0, 3] [] ?_
  refine TC.seq ?_
  refine TC.seqS ?_
  refine TS.s OpY.move rfl ?_
  refine TS.s OpD.len rfl ?_
  refine TS.s OpY.move rfl ?_
  refine TS.nil ?_
  refine TE.then ?_
  refine TC.kp [0, 3, 9, 10, 11] [] ?_
  obtain ⟨o_2, H2, H⟩ := bnd H
  refine TC.cutP (fun s : Int => o_2 = s) (fun (size_1 : Int) (_ : Unit) => (Env.set (Env.set Env.nil 0 (D (slices0 : (List (List UInt8))))) 3 (D (size_1 : Int)))) (fun (size_1 : Int) (_ : Unit) => []) ?_ ?_
  · skip
    refine TC.block ?_
    refine TC.loopP H2 (fun ⟨size_3, x_4⟩ (_ : Unit) => (Env.set (Env.set (Env.set (Env.set (Env.set Env.nil 0 (D (slices0 : (List (List UInt8))))) 3 (D (size_3 : Int))) 9 (D (slices0 : (List (List UInt8))))) 10 (D ((slices0.length : Int) : Int))) 11 (D (x_4 : Int)))) (fun ⟨size_3, x_4⟩ (_ : Unit) => []) () (Env.cv (Env.cv (Env.cv (Env.cv (Env.cv (Env.le_nil _)))))) (Less.nil _) ?_
    rintro ⟨size_3, x_4⟩ ⟨⟩ x_5 H5 he5
    replace H5 : slices_Concat_byte_l1 slices0 size_3 x_4 = some x_5 := H5
    unfold slices_Concat_byte_l1 at H5
    refine TC.seqS ?_
    refine TS.s OpY.lss rfl ?_
    refine TS.nil ?_
    refine TE.then ?_
    refine TC.kp [0, 3, 9, 10, 11, 12] [] ?_
    refine TC.seq ?_
    refine TC.cond (fun hc => ?_) (fun hc => ?_)
    · replace H5 := cT H5 hc
      refine TC.skip ?_
      refine TE.then ?_
      refine TC.kp [0, 3, 9, 10, 11] [] ?_
      refine TC.seq ?_
      refine TC.block ?_
      refine TC.seqS ?_
      obtain ⟨x_6, ex_6, H5⟩ := bnd H5
      refine TS.s (OpD.index ex_6) rfl ?_
      refine TS.s OpY.load rfl ?_
      refine TS.s OpY.assign rfl ?_
      refine TS.nil ?_
      refine TE.then ?_
      refine TC.kp [0, 3, 5, 9, 10, 11] [] ?_
      refine TC.seqS ?_
      refine TS.s OpY.move rfl ?_
      refine TS.s OpY.move rfl ?_
      refine TS.s OpD.len rfl ?_
      obtain ⟨x_7, ex_7, H5⟩ := bnd H5
      refine TS.s (OpD.add ex_7) rfl ?_
      refine TS.s OpY.assign rfl ?_
      refine TS.nil ?_
      refine TE.then ?_
      refine TC.kp [0, 3, 9, 10, 11] [] ?_
      refine TC.seqS ?_
      refine TS.s OpY.move rfl ?_
      refine TS.s OpY.lss rfl ?_
      refine TS.nil ?_
      refine TE.then ?_
      refine TC.kp [0, 3, 9, 10, 11, 20] [] ?_
      refine TC.cond (fun hc => ?_) (fun hc => ?_)
      · replace H5 := cT H5 hc
        cases H5
      · replace H5 := cF H5 hc
        refine TC.skip ?_
        refine TE.inBlock_normal ?_
        refine TE.then ?_
        refine TC.kp [0, 3, 9, 10, 11] [] ?_
        refine TC.regionS ?_
        obtain ⟨x_8, ex_8, H5⟩ := bnd H5
        refine TS.s (OpD.add ex_8) rfl ?_
        refine TS.s OpY.move rfl ?_
        refine TS.nil ?_
        refine TE.kp [0, 3, 9, 10, 11] [] ?_
        exact TE.backP ⟨x_7, x_8⟩ () (Option.some.inj H5).symm (Env.cv (Env.cv (Env.cv (Env.cv (Env.cv (Env.le_nil _)))))) (Less.nil _)
    · replace H5 := cF H5 hc
      refine TC.exit ?_
      refine TE.then_exit ?_
      refine TE.then_exit ?_
      refine TE.inBlock_here ?_
      exact TE.cutP size_3 () (he5 _ (Option.some.inj H5).symm).symm (Env.cv (Env.cv (Env.le_nil _))) (Less.nil _)
  rintro size_1 ⟨⟩ hp
  replace hp := hp.symm
  subst hp
  refine TE.then ?_
  refine TC.kp [0, 3] [] ?_
  refine TC.seqS ?_
  refine TS.s OpY.move rfl ?_
  obtain ⟨x_9, ex_9, H⟩ := bnd H
  refine TS.t (OpT.callO2 [] fun w v0 v1 hA hO hap hks h0 h1 => slices_Grow_byte_o w v0 v1 hA hO hap hks (id h0) (toD h1) ex_9) rfl fun ⟨b24_9, p24_9, c24_9⟩ => ?_
  dsimp only [List.cons_append, List.nil_append]
  refine TS.s OpY.assign rfl ?_
  refine TS.nil ?_
  refine TE.then ?_
  refine TC.kp [0, 6] [b24_9] ?_
  refine TC.seq ?_
  refine TC.seqS ?_
  refine TS.s OpY.move rfl ?_
  refine TS.s OpD.len rfl ?_
  refine TS.s OpY.move rfl ?_
  refine TS.nil ?_
  refine TE.then ?_
  refine TC.kp [6, 25, 26, 27] [b24_9] ?_
  obtain ⟨o_13, H13, H⟩ := bnd H
  refine TC.cutP (fun s : (List UInt8) => o_13 = s) (fun (newslice_12 : (List UInt8)) (⟨b_10, p_10, c_10⟩ : Nat × Prop × Nat) => (Env.set Env.nil 6 (Sl b_10 p_10 0 newslice_12.length c_10))) (fun (newslice_12 : (List UInt8)) (⟨b_10, p_10, c_10⟩ : Nat × Prop × Nat) => [⟨b_10, p_10, (Row (newslice_12 : List UInt8) c_10)⟩]) ?_ ?_
  · skip
    refine TC.block ?_
    refine TC.loopP H13 (fun ⟨x_14, newslice_16⟩ (⟨b_14, p_14, c_14⟩ : Nat × Prop × Nat) => (Env.set (Env.set (Env.set (Env.set Env.nil 6 (Sl b_14 p_14 0 newslice_16.length c_14)) 25 (D (slices0 : (List (List UInt8))))) 26 (D ((slices0.length : Int) : Int))) 27 (D (x_14 : Int)))) (fun ⟨x_14, newslice_16⟩ (⟨b_14, p_14, c_14⟩ : Nat × Prop × Nat) => [⟨b_14, p_14, (Row (newslice_16 : List UInt8) c_14)⟩]) ⟨b24_9, p24_9, c24_9⟩ (Env.cv (Env.cv (Env.cv (Env.cvBy (Sl_le rfl) (Env.le_nil _))))) (Less.pk rfl (Less.nil _)) ?_
    rintro ⟨x_14, newslice_16⟩ ⟨b_14, p_14, c_14⟩ x_17 H17 he17
    replace H17 : slices_Concat_byte_l2 slices0 x_14 newslice_16 = some x_17 := H17
    unfold slices_Concat_byte_l2 at H17
    refine TC.seqS ?_
    refine TS.s OpY.lss rfl ?_
    refine TS.nil ?_
    refine TE.then ?_
    refine TC.kp [6, 25, 26, 27, 28] [b_14] ?_
    refine TC.seq ?_
    refine TC.cond (fun hc => ?_) (fun hc => ?_)
    · replace H17 := cT H17 hc
      refine TC.skip ?_
      refine TE.then ?_
      refine TC.kp [6, 25, 26, 27] [b_14] ?_
      refine TC.seq ?_
      refine TC.block ?_
      refine TC.seqS ?_
      obtain ⟨x_18, ex_18, H17⟩ := bnd H17
      refine TS.s (OpD.index ex_18) rfl ?_
      refine TS.s OpY.load rfl ?_
      refine TS.s OpY.assign rfl ?_
      refine TS.nil ?_
      refine TE.then ?_
      refine TC.kp [6, 8, 25, 26, 27] [b_14] ?_
      refine TC.regionS ?_
      refine TS.s OpY.move rfl ?_
      refine TS.s OpY.move rfl ?_
      obtain ⟨u_20, eu_20, H17⟩ := bnd H17
      refine TS.app (ys := x_18) inferInstance eu_20 rfl rfl rfl fun b33_18 p33_18 c33_18 => ?_
      refine TS.s OpY.assign rfl ?_
      refine TS.nil ?_
      refine TE.kp [6, 25, 26, 27] [b33_18] ?_
      obtain ⟨l_21, el_21, H17⟩ := bnd H17
      refine TE.nmB b33_18 (nm_row el_21) ?_
      refine TE.see 6 _ (nm_sl2 el_21 rfl) ?_
      refine TE.inBlock_normal ?_
      refine TE.then ?_
      refine TC.kp [6, 25, 26, 27] [b33_18] ?_
      refine TC.regionS ?_
      obtain ⟨x_22, ex_22, H17⟩ := bnd H17
      refine TS.s (OpD.add ex_22) rfl ?_
      refine TS.s OpY.move rfl ?_
      refine TS.nil ?_
      refine TE.kp [6, 25, 26, 27] [b33_18] ?_
      exact TE.backP ⟨x_22, l_21⟩ ⟨b33_18, p33_18, c33_18⟩ (Option.some.inj H17).symm (Env.cv (Env.cv (Env.cv (Env.cvBy (Sl_le rfl) (Env.le_nil _))))) (Less.pk rfl (Less.nil _))
    · replace H17 := cF H17 hc
      refine TC.exit ?_
      refine TE.then_exit ?_
      refine TE.then_exit ?_
      refine TE.inBlock_here ?_
      exact TE.cutP newslice_16 ⟨b_14, p_14, c_14⟩ (he17 _ (Option.some.inj H17).symm).symm (Env.cvBy (Sl_le rfl) (Env.le_nil _)) (Less.pk rfl (Less.nil _))
  rintro newslice_12 ⟨b_10, p_10, c_10⟩ hp
  replace hp := hp.symm
  subst hp
  refine TE.then ?_
  refine TC.kp [6] [b_10] ?_
  refine TC.seqS ?_
  refine TS.s OpY.move rfl ?_
  refine TS.s OpY.assign rfl ?_
  refine TS.nil ?_
  refine TE.then ?_
  refine TC.kp [2] [b_10] ?_
  refine TC.ret ?_
  obtain rfl := (Option.some.inj H)
  exact TE.retO1 rfl ⟨b_10, p_10, c_10⟩ (Sl_le rfl) (Less.pk rfl (Less.nil _))
theorem slices_Concat_byte_c {A : Nat → Prop} {slices0 : (List (List UInt8))} {r : (List UInt8)} (w : World) (v0 : Value) (hA : ∀ k, w.heap.size ≤ k → A k) (h0 : (D (slices0 : (List (List UInt8)))).p A w v0) (H : slices_Concat_byte slices0 = some r) :
    Calls Try.prog 63 #[v0] w (Ret A w (D r)) := (slices_Concat_byte_o w v0 hA ⟨fun k ⟨e, he, _⟩ => absurd he (by simp)⟩ List.Pairwise.nil (fun e he => absurd he (by simp)) (Ty.enter h0) H).mono fun e w' h => RetO.pub1 hA h
def sum_Sealed (b0 : (List UInt8)) : Option (List UInt8) :=
  (sum_Of b0).bind fun x_1 => (sum_Put (x_1.toUInt64) (4 : Int)).bind fun x_2 => (slices_Concat_byte ([b0, x_2] : List (List UInt8))).bind fun x_3 => some x_3
/-- sum.Sealed -/
theorem sum_Sealed_o {A : Nat → Prop} {b0 : (List UInt8)}  {r : (List UInt8)} (w : World) (v0 : Value) (hA : ∀ k, w.heap.size ≤ k → A k) (hO : OwnIn A []) (hap : Apart []) (hks : Pks (Pub A []) [] w) (h0 : (D (b0 : (List UInt8))).p (Pub A []) w v0) (H : sum_Sealed b0 = some r) :
    Calls Try.prog 96 #[v0] w (RetO A w [] (fun g : Nat × Prop × Nat => Sl g.1 g.2.1 0 (List.length r) g.2.2) fun g => [⟨g.1, g.2.1, Row (r : List UInt8) g.2.2⟩]) := by
  unfold sum_Sealed at H
  refine enterO1 hA hap hks Try.func96 rfl Try.ntmps96 rfl h0 ?_
  refine TC.seqS ?_
  refine TS.s OpY.assign rfl ?_
  refine TS.nil ?_
  refine TE.then ?_
  refine TC.kp [0] [] ?_
  refine TC.seqS ?_
  refine TS.s OpY.move rfl ?_
  refine TS.s OpY.move rfl ?_
  obtain ⟨x_1, ex_1, H⟩ := bnd H
  refine TS.s (OpY.call1 fun w v0 hA h0 => sum_Of_c w v0 hA (toD h0) ex_1) rfl ?_
  refine TS.s OpY.conv32_64 rfl ?_
  obtain ⟨x_2, ex_2, H⟩ := bnd H
  refine TS.s (OpY.call2 fun w v0 v1 hA h0 h1 => sum_Put_c w v0 v1 hA (toD h0) (toD h1) ex_2) rfl ?_
  refine TS.s (OpY.buildSlice [.tmp 3, .tmp 7] rfl rfl (by decide)) rfl ?_
  obtain ⟨x_3, ex_3, H⟩ := bnd H
  refine TS.t (OpT.callO1 [] fun w v0 hA hO hap hks h0 => slices_Concat_byte_o w v0 hA hO hap hks (toD h0) ex_3) rfl fun ⟨b9_3, p9_3, c9_3⟩ => ?_
  dsimp only [List.cons_append, List.nil_append]
  refine TS.s OpY.assign rfl ?_
  refine TS.nil ?_
  refine TE.then ?_
  refine TC.kp [2] [b9_3] ?_
  refine TC.ret ?_
  obtain rfl := (Option.some.inj H)
  exact TE.retO1 rfl ⟨b9_3, p9_3, c9_3⟩ (Sl_le rfl) (Less.pk rfl (Less.nil _))
theorem sum_Sealed_c {A : Nat → Prop} {b0 : (List UInt8)} {r : (List UInt8)} (w : World) (v0 : Value) (hA : ∀ k, w.heap.size ≤ k → A k) (h0 : (D (b0 : (List UInt8))).p A w v0) (H : sum_Sealed b0 = some r) :
    Calls Try.prog 96 #[v0] w (Ret A w (D r)) := (sum_Sealed_o w v0 hA ⟨fun k ⟨e, he, _⟩ => absurd he (by simp)⟩ List.Pairwise.nil (fun e he => absurd he (by simp)) (Ty.enter h0) H).mono fun e w' h => RetO.pub1 hA h
def bad_Put_l1 (x_5 : (List Int)) (x_9 : Int) (b_11 : (List UInt8)) : Option ((Int × (List UInt8)) ⊕ (List UInt8)) :=
  bif (decide (x_9 < (x_5.length : Int))) then ((idx x_5 x_9).bind fun x_13 => (room 1 ((b_11.length + ([(UInt8.ofInt x_13)] : List UInt8).length : Nat) : Int)).bind fun u_15 => (some ((b_11 ++ ([(UInt8.ofInt x_13)] : List UInt8)) : (List UInt8))).bind fun l_16 => (addI x_9 (1 : Int)).bind fun x_17 => some (.inl (x_17, l_16))) else (some (.inr b_11))
def bad_Put (r0 : Reserve) : Option ((List UInt8) × Int) :=
  (bad_Right r0).bind fun x_2 => bif (!x_2) then (some (([] : List UInt8), (1 : Int))) else ((some (([(UInt8.ofInt (r0.Stands.length : Int)), (UInt8.ofInt (r0.Left.length : Int))] : List UInt8) : (List UInt8))).bind fun l_4 => (slices_Concat_int ([r0.Stands, r0.Left] : List (List Int))).bind fun x_5 => (loopO (fun s => bad_Put_l1 x_5 s.1 s.2) ((0 : Int), l_4)).bind fun b_7 => (sum_Sealed b_7).bind fun x_18 => some (x_18, (0 : Int)))
/-- bad.Put -/
theorem bad_Put_c {A : Nat → Prop} {r0 : Reserve}  {r : ((List UInt8) × Int)} (w : World) (v0 : Value) (hA : ∀ k, w.heap.size ≤ k → A k)  (h0 : (D (r0 : Reserve)).p A w v0) (H : bad_Put r0 = some r) :
    Calls Try.prog 72 #[v0] w (Ret A w (Tup [D (r.1 : (List UInt8)), D (r.2 : Int)])) := by
  unfold bad_Put at H
  refine enter1 hA Try.func72 rfl Try.ntmps72 rfl h0 ?_
  refine TC.seqS ?_
  refine TS.box rfl fun b1_0 => ?_
  refine TS.s OpY.assign rfl ?_
  refine TS.s OpY.assign rfl ?_
  refine TS.nil ?_
  refine TE.then ?_
  refine TC.kp [1] [b1_0] ?_
  refine TC.seq ?_
  refine TC.seqS ?_
  refine TS.s (OpD.ldq Pl.one) rfl ?_
  obtain ⟨x_2, ex_2, H⟩ := bnd H
  refine TS.s (OpY.call1 fun w v0 hA h0 => bad_Right_c w v0 hA (toD h0) ex_2) rfl ?_
  refine TS.s OpY.notB rfl ?_
  refine TS.nil ?_
  refine TE.then ?_
  refine TC.kp [1, 9] [b1_0] ?_
  refine TC.cond (fun hc => ?_) (fun hc => ?_)
  · replace H := cT H hc
    refine TC.seqS ?_
    refine TS.s OpY.assign rfl ?_
    refine TS.s OpY.assign rfl ?_
    refine TS.nil ?_
    refine TE.then ?_
    refine TC.kp [2, 3] [] ?_
    refine TC.ret ?_
    refine TE.then_ret ?_
    obtain rfl := (Option.some.inj H)
    exact TE.retN rfl rfl (.cons Cv.le (.cons Cv.le .nil))
  · replace H := cF H hc
    refine TC.skip ?_
    refine TE.then ?_
    refine TC.kp [1] [b1_0] ?_
    refine TC.seqS ?_
    refine TS.s OpY.fieldAddr rfl ?_
    refine TS.s (OpD.ldq (Pl.fld (off := 0) (α := Reserve) (β := (List Int)) Pl.one)) rfl ?_
    refine TS.s OpD.len rfl ?_
    refine TS.s OpY.convi_8 rfl ?_
    refine TS.s OpY.fieldAddr rfl ?_
    refine TS.s (OpD.ldq (Pl.fld (off := 1) (α := Reserve) (β := (List Int)) Pl.one)) rfl ?_
    refine TS.s OpD.len rfl ?_
    refine TS.s OpY.convi_8 rfl ?_
    refine TS.build [.tmp 13, .tmp 17] rfl rfl (by decide) rfl fun b18_2 => ?_
    refine TS.s OpY.assign rfl ?_
    refine TS.nil ?_
    refine TE.then ?_
    refine TC.kp [1, 4] [b1_0, b18_2] ?_
    obtain ⟨l_4, el_4, H⟩ := bnd H
    refine TC.nmB b18_2 (nm_row el_4) ?_
    refine TC.see 4 _ (nm_sl2 el_4 rfl) ?_
    refine TC.seq ?_
    refine TC.seqS ?_
    refine TS.s OpY.fieldAddr rfl ?_
    refine TS.s (OpD.ldq (Pl.fld (off := 0) (α := Reserve) (β := (List Int)) Pl.one)) rfl ?_
    refine TS.s OpY.fieldAddr rfl ?_
    refine TS.s (OpD.ldq (Pl.fld (off := 1) (α := Reserve) (β := (List Int)) Pl.one)) rfl ?_
    refine TS.s (OpY.buildSlice [.tmp 20, .tmp 22] rfl rfl (by decide)) rfl ?_
    obtain ⟨x_5, ex_5, H⟩ := bnd H
    refine TS.s (OpY.call1 fun w v0 hA h0 => slices_Concat_int_c w v0 hA (toD h0) ex_5) rfl ?_
    refine TS.s OpD.len rfl ?_
    refine TS.s OpY.move rfl ?_
    refine TS.nil ?_
    refine TE.then ?_
    refine TC.kp [4, 24, 25, 26] [b18_2] ?_
    obtain ⟨o_8, H8, H⟩ := bnd H
    refine TC.cutP (fun s : (List UInt8) => o_8 = s) (fun (b_7 : (List UInt8)) (⟨b_5, p_5, c_5⟩ : Nat × Prop × Nat) => (Env.set Env.nil 4 (Sl b_5 p_5 0 b_7.length c_5))) (fun (b_7 : (List UInt8)) (⟨b_5, p_5, c_5⟩ : Nat × Prop × Nat) => [⟨b_5, p_5, (Row (b_7 : List UInt8) c_5)⟩]) ?_ ?_
    · skip
      refine TC.block ?_
      refine TC.loopP H8 (fun ⟨x_9, b_11⟩ (⟨b_9, p_9, c_9⟩ : Nat × Prop × Nat) => (Env.set (Env.set (Env.set (Env.set Env.nil 4 (Sl b_9 p_9 0 b_11.length c_9)) 24 (D (x_5 : (List Int)))) 25 (D ((x_5.length : Int) : Int))) 26 (D (x_9 : Int)))) (fun ⟨x_9, b_11⟩ (⟨b_9, p_9, c_9⟩ : Nat × Prop × Nat) => [⟨b_9, p_9, (Row (b_11 : List UInt8) c_9)⟩]) ⟨b18_2, True, ([(UInt8.ofInt (r0.Stands.length : Int)), (UInt8.ofInt (r0.Left.length : Int))] : List UInt8).length⟩ (Env.cv (Env.cv (Env.cv (Env.cvBy (Sl_le rfl) (Env.le_nil _))))) (Less.pk rfl (Less.nil _)) ?_
      rintro ⟨x_9, b_11⟩ ⟨b_9, p_9, c_9⟩ x_12 H12 he12
      replace H12 : bad_Put_l1 x_5 x_9 b_11 = some x_12 := H12
      unfold bad_Put_l1 at H12
      refine TC.seqS ?_
      refine TS.s OpY.lss rfl ?_
      refine TS.nil ?_
      refine TE.then ?_
      refine TC.kp [4, 24, 25, 26, 27] [b_9] ?_
      refine TC.seq ?_
      refine TC.cond (fun hc => ?_) (fun hc => ?_)
      · replace H12 := cT H12 hc
        refine TC.skip ?_
        refine TE.then ?_
        refine TC.kp [4, 24, 25, 26] [b_9] ?_
        refine TC.seq ?_
        refine TC.block ?_
        refine TC.seqS ?_
        obtain ⟨x_13, ex_13, H12⟩ := bnd H12
        refine TS.s (OpD.index ex_13) rfl ?_
        refine TS.s OpY.load rfl ?_
        refine TS.s OpY.assign rfl ?_
        refine TS.nil ?_
        refine TE.then ?_
        refine TC.kp [4, 6, 24, 25, 26] [b_9] ?_
        refine TC.regionS ?_
        refine TS.s OpY.move rfl ?_
        refine TS.s OpY.move rfl ?_
        refine TS.s OpY.convi_8 rfl ?_
        refine TS.s (OpY.buildSlice [.tmp 32] rfl rfl (by decide)) rfl ?_
        obtain ⟨u_15, eu_15, H12⟩ := bnd H12
        refine TS.app (ys := ([(UInt8.ofInt x_13)] : List UInt8)) inferInstance eu_15 rfl rfl rfl fun b34_13 p34_13 c34_13 => ?_
        refine TS.s OpY.assign rfl ?_
        refine TS.nil ?_
        refine TE.kp [4, 24, 25, 26] [b34_13] ?_
        obtain ⟨l_16, el_16, H12⟩ := bnd H12
        refine TE.nmB b34_13 (nm_row el_16) ?_
        refine TE.see 4 _ (nm_sl2 el_16 rfl) ?_
        refine TE.inBlock_normal ?_
        refine TE.then ?_
        refine TC.kp [4, 24, 25, 26] [b34_13] ?_
        refine TC.regionS ?_
        obtain ⟨x_17, ex_17, H12⟩ := bnd H12
        refine TS.s (OpD.add ex_17) rfl ?_
        refine TS.s OpY.move rfl ?_
        refine TS.nil ?_
        refine TE.kp [4, 24, 25, 26] [b34_13] ?_
        exact TE.backP ⟨x_17, l_16⟩ ⟨b34_13, p34_13, c34_13⟩ (Option.some.inj H12).symm (Env.cv (Env.cv (Env.cv (Env.cvBy (Sl_le rfl) (Env.le_nil _))))) (Less.pk rfl (Less.nil _))
      · replace H12 := cF H12 hc
        refine TC.exit ?_
        refine TE.then_exit ?_
        refine TE.then_exit ?_
        refine TE.inBlock_here ?_
        exact TE.cutP b_11 ⟨b_9, p_9, c_9⟩ (he12 _ (Option.some.inj H12).symm).symm (Env.cvBy (Sl_le rfl) (Env.le_nil _)) (Less.pk rfl (Less.nil _))
    rintro b_7 ⟨b_5, p_5, c_5⟩ hp
    replace hp := hp.symm
    subst hp
    refine TE.then ?_
    refine TC.kp [4] [b_5] ?_
    refine TC.seqS ?_
    refine TS.s OpY.move rfl ?_
    obtain ⟨x_18, ex_18, H⟩ := bnd H
    refine TS.t (OpT.callLO1 (xs := x_18) [b_5] (ArgB.sv PlS.all rfl (by simp)) fun w v0 hA hO hap hks h0 => sum_Sealed_o w v0 hA hO hap hks (toD h0) ex_18) rfl fun ⟨b37_18, p37_18, c37_18⟩ => ?_
    refine TS.s OpY.assign rfl ?_
    refine TS.s OpY.assign rfl ?_
    refine TS.nil ?_
    refine TE.then ?_
    refine TC.kp [2, 3] [b37_18] ?_
    refine TC.ret ?_
    refine TE.pub b37_18 (PubE.set 2 (PubC.sv PlS.all rfl) PubE.refl) ?_
    obtain rfl := (Option.some.inj H)
    exact TE.retN rfl rfl (.cons Cv.le (.cons Cv.le .nil))
def sum_Get_l1 (b0 : (List UInt8)) (n_3 : UInt64) (x_4 : Int) : Option ((UInt64 × Int) ⊕ UInt64) :=
  bif (decide (x_4 < (b0.length : Int))) then ((idx b0 x_4).bind fun x_6 => (some (((shl64 n_3 8) ||| (x_6.toUInt64)) : UInt64)).bind fun n_7 => (addI x_4 (1 : Int)).bind fun x_8 => some (.inl (n_7, x_8))) else (some (.inr n_3))
def sum_Get (b0 : (List UInt8)) : Option UInt64 :=
  (loopO (fun s => sum_Get_l1 b0 s.1 s.2) ((UInt64.ofNat 0), (0 : Int))).bind fun n_1 => some n_1
/-- sum.Get -/
theorem sum_Get_c {A : Nat → Prop} {b0 : (List UInt8)}  {r : UInt64} (w : World) (v0 : Value) (hA : ∀ k, w.heap.size ≤ k → A k)  (h0 : (D (b0 : (List UInt8))).p A w v0) (H : sum_Get b0 = some r) :
    Calls Try.prog 68 #[v0] w (Ret A w (D (r : UInt64))) := by
  unfold sum_Get at H
  refine enter1 hA Try.func68 rfl Try.ntmps68 rfl h0 ?_
  refine TC.seqS ?_
  refine TS.s OpY.assign rfl ?_
  refine TS.nil ?_
  refine TE.then ?_
  refine TC.kp [0] [] ?_
  refine TC.seqS ?_
  refine TS.s OpY.assign rfl ?_
  refine TS.nil ?_
  refine TE.then ?_
  refine TC.kp [0, 3] [] ?_
  refine TC.seq ?_
  refine TC.seqS ?_
  refine TS.s OpY.move rfl ?_
  refine TS.s OpD.len rfl ?_
  refine TS.s OpY.move rfl ?_
  refine TS.nil ?_
  refine TE.then ?_
  refine TC.kp [3, 6, 7, 8] [] ?_
  obtain ⟨o_2, H2, H⟩ := bnd H
  refine TC.cutP (fun s : UInt64 => o_2 = s) (fun (n_1 : UInt64) (_ : Unit) => (Env.set Env.nil 3 (D (n_1 : UInt64)))) (fun (n_1 : UInt64) (_ : Unit) => []) ?_ ?_
  · skip
    refine TC.block ?_
    refine TC.loopP H2 (fun ⟨n_3, x_4⟩ (_ : Unit) => (Env.set (Env.set (Env.set (Env.set Env.nil 3 (D (n_3 : UInt64))) 6 (D (b0 : (List UInt8)))) 7 (D ((b0.length : Int) : Int))) 8 (D (x_4 : Int)))) (fun ⟨n_3, x_4⟩ (_ : Unit) => []) () (Env.cv (Env.cv (Env.cv (Env.cv (Env.le_nil _))))) (Less.nil _) ?_
    rintro ⟨n_3, x_4⟩ ⟨⟩ x_5 H5 he5
    replace H5 : sum_Get_l1 b0 n_3 x_4 = some x_5 := H5
    unfold sum_Get_l1 at H5
    refine TC.seqS ?_
    refine TS.s OpY.lss rfl ?_
    refine TS.nil ?_
    refine TE.then ?_
    refine TC.kp [3, 6, 7, 8, 9] [] ?_
    refine TC.seq ?_
    refine TC.cond (fun hc => ?_) (fun hc => ?_)
    · replace H5 := cT H5 hc
      refine TC.skip ?_
      refine TE.then ?_
      refine TC.kp [3, 6, 7, 8] [] ?_
      refine TC.seq ?_
      refine TC.block ?_
      refine TC.seqS ?_
      obtain ⟨x_6, ex_6, H5⟩ := bnd H5
      refine TS.s (OpD.index ex_6) rfl ?_
      refine TS.s OpY.load rfl ?_
      refine TS.s OpY.assign rfl ?_
      refine TS.nil ?_
      refine TE.then ?_
      refine TC.kp [3, 5, 6, 7, 8] [] ?_
      refine TC.regionS ?_
      refine TS.s OpY.move rfl ?_
      refine TS.s (OpD.shl64 (by decide)) rfl ?_
      refine TS.s OpY.move rfl ?_
      refine TS.s OpY.conv8_64 rfl ?_
      refine TS.s OpY.or64 rfl ?_
      refine TS.s OpY.assign rfl ?_
      refine TS.nil ?_
      refine TE.kp [3, 6, 7, 8] [] ?_
      obtain ⟨n_7, en_7, H5⟩ := bnd H5
      refine TE.see 3 (D (n_7 : UInt64)) (nm_cv en_7) ?_
      refine TE.inBlock_normal ?_
      refine TE.then ?_
      refine TC.kp [3, 6, 7, 8] [] ?_
      refine TC.regionS ?_
      obtain ⟨x_8, ex_8, H5⟩ := bnd H5
      refine TS.s (OpD.add ex_8) rfl ?_
      refine TS.s OpY.move rfl ?_
      refine TS.nil ?_
      refine TE.kp [3, 6, 7, 8] [] ?_
      exact TE.backP ⟨n_7, x_8⟩ () (Option.some.inj H5).symm (Env.cv (Env.cv (Env.cv (Env.cv (Env.le_nil _))))) (Less.nil _)
    · replace H5 := cF H5 hc
      refine TC.exit ?_
      refine TE.then_exit ?_
      refine TE.then_exit ?_
      refine TE.inBlock_here ?_
      exact TE.cutP n_3 () (he5 _ (Option.some.inj H5).symm).symm (Env.cv (Env.le_nil _)) (Less.nil _)
  rintro n_1 ⟨⟩ hp
  replace hp := hp.symm
  subst hp
  refine TE.then ?_
  refine TC.kp [3] [] ?_
  refine TC.seqS ?_
  refine TS.s OpY.move rfl ?_
  refine TS.s OpY.assign rfl ?_
  refine TS.nil ?_
  refine TE.then ?_
  refine TC.kp [2] [] ?_
  refine TC.ret ?_
  obtain rfl := (Option.some.inj H)
  exact TE.ret1 rfl Cv.le
def slices_Clone_byte (s0 : (List UInt8)) : Option (List UInt8) :=
  (room 1 ((0 + s0.length : Nat) : Int)).bind fun _ => some s0
/-- slices.Clone   byte byte  -/
theorem slices_Clone_byte_o {A : Nat → Prop} {s0 : (List UInt8)}  {r : (List UInt8)} (w : World) (v0 : Value) (hA : ∀ k, w.heap.size ≤ k → A k) (hO : OwnIn A []) (hap : Apart []) (hks : Pks (Pub A []) [] w) (h0 : (D (s0 : (List UInt8))).p (Pub A []) w v0) (H : slices_Clone_byte s0 = some r) :
    Calls Try.prog 69 #[v0] w (RetO A w [] (fun g : Nat × Prop × Nat => Sl g.1 g.2.1 0 (List.length r) g.2.2) fun g => [⟨g.1, g.2.1, Row (r : List UInt8) g.2.2⟩]) := by
  unfold slices_Clone_byte at H
  refine enterO1 hA hap hks Try.func69 rfl Try.ntmps69 rfl h0 ?_
  obtain ⟨u, eu, H⟩ := bnd H
  obtain rfl := Option.some.inj H
  refine TC.seqS ?_
  refine TS.s OpY.assign rfl ?_
  refine TS.nil ?_
  refine TE.then ?_
  refine TC.kp [0] [] ?_
  refine TC.seq ?_
  refine TC.seqS ?_
  refine TS.s OpY.move rfl ?_
  refine TS.s OpY.eql_slice rfl ?_
  refine TS.nil ?_
  refine TE.then ?_
  refine TC.condE (fun hc => ?_) (fun hc => ?_)
  · obtain rfl := hc rfl
    refine TC.seqS ?_
    refine TS.s OpY.assign rfl ?_
    refine TS.nil ?_
    refine TE.then ?_
    refine TC.kp [2] [] ?_
    refine TC.ret ?_
    refine TE.then_ret ?_
    exact TE.retO1 rfl ⟨0, False, 0⟩ NilS.sl0 (Less.nilRow (Less.nil _))
  · refine TC.skip ?_
    refine TE.then ?_
    refine TC.kp [0] [] ?_
    refine TC.seqS ?_
    refine TS.build [] rfl rfl (by decide) rfl fun b => ?_
    refine TS.s OpY.move rfl ?_
    refine TS.app (ys := s0) inferInstance eu rfl rfl rfl fun b1 p1 c1 => ?_
    refine TS.s OpY.assign rfl ?_
    refine TS.nil ?_
    refine TE.then ?_
    refine TC.kp [2] [b1] ?_
    refine TC.ret ?_
    exact TE.retO1 rfl ⟨b1, p1, c1⟩ (Sl_le (by simp)) (Less.pk rfl (Less.nil _))
theorem slices_Clone_byte_c {A : Nat → Prop} {s0 : (List UInt8)} {r : (List UInt8)} (w : World) (v0 : Value) (hA : ∀ k, w.heap.size ≤ k → A k) (h0 : (D (s0 : (List UInt8))).p A w v0) (H : slices_Clone_byte s0 = some r) :
    Calls Try.prog 69 #[v0] w (Ret A w (D r)) := (slices_Clone_byte_o w v0 hA ⟨fun k ⟨e, he, _⟩ => absurd he (by simp)⟩ List.Pairwise.nil (fun e he => absurd he (by simp)) (Ty.enter h0) H).mono fun e w' h => RetO.pub1 hA h
def sum_Open (b0 : (List UInt8)) : Option ((List UInt8) × Int) :=
  bif (decide ((b0.length : Int) < (4 : Int))) then (some (([] : List UInt8), (3 : Int))) else ((subI (b0.length : Int) (4 : Int)).bind fun x_1 => (cut b0.length 0 x_1).bind fun u_2 => (subI (b0.length : Int) (4 : Int)).bind fun x_3 => (cut b0.length x_3 b0.length).bind fun u_4 => (some ((b0.take (Int.toNat x_1)) : (List UInt8))).bind fun inner_5 => (some ((b0.drop (Int.toNat x_3)) : (List UInt8))).bind fun end_6 => (sum_Of inner_5).bind fun x_7 => (sum_Get end_6).bind fun x_8 => bif (decide ((x_7.toUInt64) ≠ x_8)) then (some (([] : List UInt8), (4 : Int))) else ((slices_Clone_byte inner_5).bind fun x_9 => some (x_9, (0 : Int))))
/-- sum.Open -/
theorem sum_Open_c {A : Nat → Prop} {b0 : (List UInt8)}  {r : ((List UInt8) × Int)} (w : World) (v0 : Value) (hA : ∀ k, w.heap.size ≤ k → A k)  (h0 : (D (b0 : (List UInt8))).p A w v0) (H : sum_Open b0 = some r) :
    Calls Try.prog 97 #[v0] w (Ret A w (Tup [D (r.1 : (List UInt8)), D (r.2 : Int)])) := by
  unfold sum_Open at H
  refine enter1 hA Try.func97 rfl Try.ntmps97 rfl h0 ?_
  refine TC.seqS ?_
  refine TS.s OpY.assign rfl ?_
  refine TS.s OpY.assign rfl ?_
  refine TS.nil ?_
  refine TE.then ?_
  refine TC.kp [0] [] ?_
  refine TC.seq ?_
  refine TC.seqS ?_
  refine TS.s OpY.move rfl ?_
  refine TS.s OpD.len rfl ?_
  refine TS.s OpY.lss rfl ?_
  refine TS.nil ?_
  refine TE.then ?_
  refine TC.kp [0, 8] [] ?_
  refine TC.cond (fun hc => ?_) (fun hc => ?_)
  · replace H := cT H hc
    refine TC.seqS ?_
    refine TS.s OpY.assign rfl ?_
    refine TS.s OpY.assign rfl ?_
    refine TS.nil ?_
    refine TE.then ?_
    refine TC.kp [2, 3] [] ?_
    refine TC.ret ?_
    refine TE.then_ret ?_
    obtain rfl := (Option.some.inj H)
    exact TE.retN rfl rfl (.cons Cv.le (.cons Cv.le .nil))
  · replace H := cF H hc
    refine TC.skip ?_
    refine TE.then ?_
    refine TC.kp [0] [] ?_
    refine TC.seqD0 mix (by kernel_rfl) ?_
    refine TR.s OpY.move rfl ?_
    refine TR.s OpY.move rfl ?_
    refine TR.s OpD.len rfl ?_
    obtain ⟨x_1, ex_1, H⟩ := bnd H
    refine TR.s (OpD.sub ex_1) rfl ?_
    obtain ⟨u_2, eu_2, H⟩ := bnd H
    refine TR.s (OpD.sliceTo eu_2) rfl ?_
    refine TR.s OpY.move rfl ?_
    refine TR.s OpY.move rfl ?_
    refine TR.s OpD.len rfl ?_
    obtain ⟨x_3, ex_3, H⟩ := bnd H
    refine TR.s (OpD.sub ex_3) rfl ?_
    obtain ⟨u_4, eu_4, H⟩ := bnd H
    refine TR.s (OpD.sliceFrom eu_4) rfl ?_
    refine TR.s OpY.assign rfl ?_
    refine TR.s OpY.assign rfl ?_
    refine TR.nil ?_
    refine TC.kp [4, 5] [] ?_
    obtain ⟨inner_5, einner_5, H⟩ := bnd H
    refine TC.see 4 (D (inner_5 : (List UInt8))) (nm_cv einner_5) ?_
    obtain ⟨end_6, eend_6, H⟩ := bnd H
    refine TC.see 5 (D (end_6 : (List UInt8))) (nm_cv eend_6) ?_
    refine TC.seq ?_
    refine TC.seqS ?_
    refine TS.s OpY.move rfl ?_
    obtain ⟨x_7, ex_7, H⟩ := bnd H
    refine TS.s (OpY.call1 fun w v0 hA h0 => sum_Of_c w v0 hA (toD h0) ex_7) rfl ?_
    refine TS.s OpY.conv32_64 rfl ?_
    refine TS.s OpY.move rfl ?_
    obtain ⟨x_8, ex_8, H⟩ := bnd H
    refine TS.s (OpY.call1 fun w v0 hA h0 => sum_Get_c w v0 hA (toD h0) ex_8) rfl ?_
    refine TS.s OpY.neq64 rfl ?_
    refine TS.nil ?_
    refine TE.then ?_
    refine TC.kp [4, 24] [] ?_
    refine TC.cond (fun hc => ?_) (fun hc => ?_)
    · replace H := cT H hc
      refine TC.seqS ?_
      refine TS.s OpY.assign rfl ?_
      refine TS.s OpY.assign rfl ?_
      refine TS.nil ?_
      refine TE.then ?_
      refine TC.kp [2, 3] [] ?_
      refine TC.ret ?_
      refine TE.then_ret ?_
      obtain rfl := (Option.some.inj H)
      exact TE.retN rfl rfl (.cons Cv.le (.cons Cv.le .nil))
    · replace H := cF H hc
      refine TC.skip ?_
      refine TE.then ?_
      refine TC.kp [4] [] ?_
      refine TC.seqS ?_
      refine TS.s OpY.move rfl ?_
      obtain ⟨x_9, ex_9, H⟩ := bnd H
      refine TS.s (OpY.call1 fun w v0 hA h0 => slices_Clone_byte_c w v0 hA (toD h0) ex_9) rfl ?_
      refine TS.s OpY.assign rfl ?_
      refine TS.s OpY.assign rfl ?_
      refine TS.nil ?_
      refine TE.then ?_
      refine TC.kp [2, 3] [] ?_
      refine TC.ret ?_
      obtain rfl := (Option.some.inj H)
      exact TE.retN rfl rfl (.cons Cv.le (.cons Cv.le .nil))
def bad_numbers_l1 (b0 : (List UInt8)) (x_4 : Int) (l_6 : (List Int)) : Option ((Int × (List Int)) ⊕ (List Int)) :=
  bif (decide (x_4 < (b0.length : Int))) then ((idx b0 x_4).bind fun x_8 => (room 8 ((l_6.length + ([(x_8.toNat : Int)] : List Int).length : Nat) : Int)).bind fun u_10 => (some ((l_6 ++ ([(x_8.toNat : Int)] : List Int)) : (List Int))).bind fun l_11 => (addI x_4 (1 : Int)).bind fun x_12 => some (.inl (x_12, l_11))) else (some (.inr l_6))
def bad_numbers (b0 : (List UInt8)) : Option (List Int) :=
  (loopO (fun s => bad_numbers_l1 b0 s.1 s.2) ((0 : Int), [])).bind fun l_2 => some l_2
/-- bad.numbers -/
theorem bad_numbers_c {A : Nat → Prop} {b0 : (List UInt8)}  {r : (List Int)} (w : World) (v0 : Value) (hA : ∀ k, w.heap.size ≤ k → A k)  (h0 : (D (b0 : (List UInt8))).p A w v0) (H : bad_numbers b0 = some r) :
    Calls Try.prog 98 #[v0] w (Ret A w (D (r : (List Int)))) := by
  unfold bad_numbers at H
  refine enter1 hA Try.func98 rfl Try.ntmps98 rfl h0 ?_
  refine TC.seqS ?_
  refine TS.s OpY.assign rfl ?_
  refine TS.nil ?_
  refine TE.then ?_
  refine TC.kp [0] [] ?_
  refine TC.seqS ?_
  refine TS.s OpY.assign rfl ?_
  refine TS.nil ?_
  refine TE.then ?_
  refine TC.kp [0, 3] [] ?_
  refine TC.seq ?_
  refine TC.seqS ?_
  refine TS.s OpY.move rfl ?_
  refine TS.s OpD.len rfl ?_
  refine TS.s OpY.move rfl ?_
  refine TS.nil ?_
  refine TE.then ?_
  refine TC.kp [3, 6, 7, 8] [] ?_
  obtain ⟨o_3, H3, H⟩ := bnd H
  refine TC.cutP (fun s : (List Int) => o_3 = s) (fun (l_2 : (List Int)) (⟨b_0, p_0, c_0⟩ : Nat × Prop × Nat) => (Env.set Env.nil 3 (Sl b_0 p_0 0 l_2.length c_0))) (fun (l_2 : (List Int)) (⟨b_0, p_0, c_0⟩ : Nat × Prop × Nat) => [⟨b_0, p_0, (Row (l_2 : List Int) c_0)⟩]) ?_ ?_
  · skip
    refine TC.block ?_
    refine TC.loopP H3 (fun ⟨x_4, l_6⟩ (⟨b_4, p_4, c_4⟩ : Nat × Prop × Nat) => (Env.set (Env.set (Env.set (Env.set Env.nil 3 (Sl b_4 p_4 0 l_6.length c_4)) 6 (D (b0 : (List UInt8)))) 7 (D ((b0.length : Int) : Int))) 8 (D (x_4 : Int)))) (fun ⟨x_4, l_6⟩ (⟨b_4, p_4, c_4⟩ : Nat × Prop × Nat) => [⟨b_4, p_4, (Row (l_6 : List Int) c_4)⟩]) ⟨0, False, 0⟩ (Env.cv (Env.cv (Env.cv (Env.cvBy NilS.sl0 (Env.le_nil _))))) (Less.nilRow (Less.nil _)) ?_
    rintro ⟨x_4, l_6⟩ ⟨b_4, p_4, c_4⟩ x_7 H7 he7
    replace H7 : bad_numbers_l1 b0 x_4 l_6 = some x_7 := H7
    unfold bad_numbers_l1 at H7
    refine TC.seqS ?_
    refine TS.s OpY.lss rfl ?_
    refine TS.nil ?_
    refine TE.then ?_
    refine TC.kp [3, 6, 7, 8, 9] [b_4] ?_
    refine TC.seq ?_
    refine TC.cond (fun hc => ?_) (fun hc => ?_)
    · replace H7 := cT H7 hc
      refine TC.skip ?_
      refine TE.then ?_
      refine TC.kp [3, 6, 7, 8] [b_4] ?_
      refine TC.seq ?_
      refine TC.block ?_
      refine TC.seqS ?_
      obtain ⟨x_8, ex_8, H7⟩ := bnd H7
      refine TS.s (OpD.index ex_8) rfl ?_
      refine TS.s OpY.load rfl ?_
      refine TS.s OpY.assign rfl ?_
      refine TS.nil ?_
      refine TE.then ?_
      refine TC.kp [3, 5, 6, 7, 8] [b_4] ?_
      refine TC.regionS ?_
      refine TS.s OpY.move rfl ?_
      refine TS.s OpY.move rfl ?_
      refine TS.s OpD.conv8_i rfl ?_
      refine TS.s (OpY.buildSlice [.tmp 14] rfl rfl (by decide)) rfl ?_
      obtain ⟨u_10, eu_10, H7⟩ := bnd H7
      refine TS.app (ys := ([(x_8.toNat : Int)] : List Int)) inferInstance eu_10 rfl rfl rfl fun b16_8 p16_8 c16_8 => ?_
      refine TS.s OpY.assign rfl ?_
      refine TS.nil ?_
      refine TE.kp [3, 6, 7, 8] [b16_8] ?_
      obtain ⟨l_11, el_11, H7⟩ := bnd H7
      refine TE.nmB b16_8 (nm_row el_11) ?_
      refine TE.see 3 _ (nm_sl2 el_11 rfl) ?_
      refine TE.inBlock_normal ?_
      refine TE.then ?_
      refine TC.kp [3, 6, 7, 8] [b16_8] ?_
      refine TC.regionS ?_
      obtain ⟨x_12, ex_12, H7⟩ := bnd H7
      refine TS.s (OpD.add ex_12) rfl ?_
      refine TS.s OpY.move rfl ?_
      refine TS.nil ?_
      refine TE.kp [3, 6, 7, 8] [b16_8] ?_
      exact TE.backP ⟨x_12, l_11⟩ ⟨b16_8, p16_8, c16_8⟩ (Option.some.inj H7).symm (Env.cv (Env.cv (Env.cv (Env.cvBy (Sl_le rfl) (Env.le_nil _))))) (Less.pk rfl (Less.nil _))
    · replace H7 := cF H7 hc
      refine TC.exit ?_
      refine TE.then_exit ?_
      refine TE.then_exit ?_
      refine TE.inBlock_here ?_
      exact TE.cutP l_6 ⟨b_4, p_4, c_4⟩ (he7 _ (Option.some.inj H7).symm).symm (Env.cvBy (Sl_le rfl) (Env.le_nil _)) (Less.pk rfl (Less.nil _))
  rintro l_2 ⟨b_0, p_0, c_0⟩ hp
  replace hp := hp.symm
  subst hp
  refine TE.then ?_
  refine TC.kp [3] [b_0] ?_
  refine TC.seqS ?_
  refine TS.s OpY.move rfl ?_
  refine TS.s OpY.assign rfl ?_
  refine TS.nil ?_
  refine TE.then ?_
  refine TC.kp [2] [b_0] ?_
  refine TC.ret ?_
  refine TE.pub b_0 (PubE.set 2 (PubC.sv PlS.all rfl) PubE.refl) ?_
  obtain rfl := (Option.some.inj H)
  exact TE.ret1 rfl Cv.le
def bad_Read (b0 : (List UInt8)) : Option (Reserve × Int) :=
  (sum_Open b0).bind fun r_2 => bif (decide (r_2.2 ≠ (0 : Int))) then ((some ((⟨[], []⟩ : Reserve) : Reserve)).bind fun k_3 => some (k_3, r_2.2)) else ((gb (!(decide ((r_2.1.length : Int) < (2 : Int)))) (idx r_2.1 (0 : Int))).bind fun x_4 => (gb (!(decide ((r_2.1.length : Int) < (2 : Int)))) (addI (2 : Int) (x_4.toNat : Int))).bind fun x_5 => (gb (!(decide ((r_2.1.length : Int) < (2 : Int)))) (idx r_2.1 (1 : Int))).bind fun x_6 => (gb (!(decide ((r_2.1.length : Int) < (2 : Int)))) (addI x_5 (x_6.toNat : Int))).bind fun x_7 => bif ((decide ((r_2.1.length : Int) < (2 : Int))) || (decide ((r_2.1.length : Int) ≠ x_7))) then ((some ((⟨[], []⟩ : Reserve) : Reserve)).bind fun k_8 => some (k_8, (2 : Int))) else ((idx r_2.1 (0 : Int)).bind fun x_9 => (addI (2 : Int) (x_9.toNat : Int)).bind fun x_10 => (cut r_2.1.length (2 : Int) x_10).bind fun u_11 => (bad_numbers ((r_2.1.take (Int.toNat x_10)).drop (Int.toNat (2 : Int)))).bind fun x_12 => (cut r_2.1.length x_10 r_2.1.length).bind fun u_13 => (bad_numbers (r_2.1.drop (Int.toNat x_10))).bind fun x_14 => (some ((⟨x_12, x_14⟩ : Reserve) : Reserve)).bind fun r_16 => (bad_Right r_16).bind fun x_17 => bif (!x_17) then ((some ((⟨[], []⟩ : Reserve) : Reserve)).bind fun k_18 => some (k_18, (2 : Int))) else (some (r_16, (0 : Int)))))
/-- bad.Read -/
theorem bad_Read_c {A : Nat → Prop} {b0 : (List UInt8)}  {r : (Reserve × Int)} (w : World) (v0 : Value) (hA : ∀ k, w.heap.size ≤ k → A k)  (h0 : (D (b0 : (List UInt8))).p A w v0) (H : bad_Read b0 = some r) :
    Calls Try.prog 73 #[v0] w (Ret A w (Tup [D (r.1 : Reserve), D (r.2 : Int)])) := by
  unfold bad_Read at H
  refine enter1 hA Try.func73 rfl Try.ntmps73 rfl h0 ?_
  refine TC.seqS ?_
  refine TS.alloc (α := Reserve) rfl fun b2_0 => ?_
  refine TS.s OpY.assign rfl ?_
  refine TS.nil ?_
  refine TE.then ?_
  refine TC.kp [0, 2] [b2_0] ?_
  refine TC.seqS ?_
  refine TS.s OpY.move rfl ?_
  obtain ⟨r_2, er_2, H⟩ := bnd H
  refine TS.s (OpY.call1 fun w v0 hA h0 => sum_Open_c w v0 hA (toD h0) er_2) rfl ?_
  refine TS.s OpY.move rfl ?_
  refine TS.s (OpY.extract rfl) rfl ?_
  refine TS.s (OpY.extract rfl) rfl ?_
  refine TS.s OpY.assign rfl ?_
  refine TS.s OpY.assign rfl ?_
  refine TS.nil ?_
  refine TE.then ?_
  refine TC.kp [2, 4, 5] [b2_0] ?_
  refine TC.seq ?_
  refine TC.seqS ?_
  refine TS.s OpY.move rfl ?_
  refine TS.s OpY.neq rfl ?_
  refine TS.nil ?_
  refine TE.then ?_
  refine TC.kp [2, 4, 5, 14] [b2_0] ?_
  refine TC.cond (fun hc => ?_) (fun hc => ?_)
  · replace H := cT H hc
    refine TC.seqS ?_
    refine TS.s (OpY.buildAs (⟨[], []⟩ : Reserve) rfl ⟨_, Try.underlying47, by kernel_rfl⟩ rfl rfl) rfl ?_
    refine TS.s OpY.move rfl ?_
    refine TS.un (OpT.storeq (y := ((⟨[], []⟩ : Reserve) : Reserve)) Pl.one) ?_
    refine TS.s OpY.assign rfl ?_
    refine TS.nil ?_
    refine TE.then ?_
    refine TC.kp [2, 3] [b2_0] ?_
    obtain ⟨k_3, ek_3, H⟩ := bnd H
    refine TC.nmB b2_0 (nm_one ek_3) ?_
    refine TC.ret ?_
    refine TE.then_ret ?_
    obtain rfl := (Option.some.inj H)
    exact TE.retN rfl rfl (.cons Cv.le (.cons Cv.le .nil))
  · replace H := cF H hc
    refine TC.skip ?_
    refine TE.then ?_
    refine TC.kp [2, 4] [b2_0] ?_
    refine TC.seq ?_
    refine TC.seqD0 mix (by kernel_rfl) ?_
    refine TR.s OpY.move rfl ?_
    refine TR.s OpD.len rfl ?_
    refine TR.s OpY.lss rfl ?_
    refine TR.s OpY.move rfl ?_
    refine TR.g 20 rfl (fun hg => OpY.move) rfl ?_
    refine TR.g 20 rfl (fun hg => OpD.len) rfl ?_
    refine TR.g 20 rfl (fun hg => OpY.move) rfl ?_
    obtain ⟨x_4, ex_4, H⟩ := bnd H
    refine TR.g 20 rfl (fun hg => (OpD.index (gb_some ex_4 (nF hg.h)))) rfl ?_
    refine TR.g 20 rfl (fun hg => OpY.load) rfl ?_
    refine TR.g 20 rfl (fun hg => OpD.conv8_i) rfl ?_
    obtain ⟨x_5, ex_5, H⟩ := bnd H
    refine TR.g 20 rfl (fun hg => (OpD.add (gb_some ex_5 (nF hg.h)))) rfl ?_
    refine TR.g 20 rfl (fun hg => OpY.move) rfl ?_
    obtain ⟨x_6, ex_6, H⟩ := bnd H
    refine TR.g 20 rfl (fun hg => (OpD.index (gb_some ex_6 (nF hg.h)))) rfl ?_
    refine TR.g 20 rfl (fun hg => OpY.load) rfl ?_
    refine TR.g 20 rfl (fun hg => OpD.conv8_i) rfl ?_
    obtain ⟨x_7, ex_7, H⟩ := bnd H
    refine TR.g 20 rfl (fun hg => (OpD.add (gb_some ex_7 (nF hg.h)))) rfl ?_
    refine TR.g 20 rfl (fun hg => OpY.neq) rfl ?_
    refine TR.s OpY.pickOr rfl ?_
    refine TR.nil ?_
    refine TC.kp [2, 4, 34] [b2_0] ?_
    refine TC.cond (fun hc => ?_) (fun hc => ?_)
    · replace H := cT H hc
      refine TC.seqS ?_
      refine TS.s (OpY.buildAs (⟨[], []⟩ : Reserve) rfl ⟨_, Try.underlying47, by kernel_rfl⟩ rfl rfl) rfl ?_
      refine TS.un (OpT.storeq (y := ((⟨[], []⟩ : Reserve) : Reserve)) Pl.one) ?_
      refine TS.s OpY.assign rfl ?_
      refine TS.nil ?_
      refine TE.then ?_
      refine TC.kp [2, 3] [b2_0] ?_
      obtain ⟨k_8, ek_8, H⟩ := bnd H
      refine TC.nmB b2_0 (nm_one ek_8) ?_
      refine TC.ret ?_
      refine TE.then_ret ?_
      obtain rfl := (Option.some.inj H)
      exact TE.retN rfl rfl (.cons Cv.le (.cons Cv.le .nil))
    · replace H := cF H hc
      refine TC.skip ?_
      refine TE.then ?_
      refine TC.kp [2, 4] [b2_0] ?_
      refine TC.seqS ?_
      refine TS.s OpY.move rfl ?_
      obtain ⟨x_9, ex_9, H⟩ := bnd H
      refine TS.s (OpD.index ex_9) rfl ?_
      refine TS.s OpY.load rfl ?_
      refine TS.s OpD.conv8_i rfl ?_
      obtain ⟨x_10, ex_10, H⟩ := bnd H
      refine TS.s (OpD.add ex_10) rfl ?_
      refine TS.s OpY.assign rfl ?_
      refine TS.nil ?_
      refine TE.then ?_
      refine TC.kp [2, 4, 6] [b2_0] ?_
      refine TC.seqD [9, 10] [] mix (by kernel_rfl) (by kernel_rfl) ?_
      refine TR.s OpY.move rfl ?_
      refine TR.s OpY.move rfl ?_
      obtain ⟨u_11, eu_11, H⟩ := bnd H
      refine TR.s (OpD.slice2 eu_11) rfl ?_
      obtain ⟨x_12, ex_12, H⟩ := bnd H
      refine TR.s (OpY.call1 fun w v0 hA h0 => bad_numbers_c w v0 hA (toD h0) ex_12) rfl ?_
      refine TR.s OpY.move rfl ?_
      refine TR.s OpY.move rfl ?_
      obtain ⟨u_13, eu_13, H⟩ := bnd H
      refine TR.s (OpD.sliceFrom eu_13) rfl ?_
      obtain ⟨x_14, ex_14, H⟩ := bnd H
      refine TR.s (OpY.call1 fun w v0 hA h0 => bad_numbers_c w v0 hA (toD h0) ex_14) rfl ?_
      refine TR.s (OpY.buildAs (⟨x_12, x_14⟩ : Reserve) rfl ⟨_, Try.underlying47, by kernel_rfl⟩ rfl rfl) rfl ?_
      refine TR.t (fun g => OpT.allocT (α := Reserve)) rfl ?_
      refine TR.tn (fun g => (OpT.storeq (y := ((⟨x_12, x_14⟩ : Reserve) : Reserve)) Pl.one)) rfl ?_
      refine TR.nil ?_
      rintro ⟨⟨_, ⟨b7_14, _⟩⟩, _⟩
      dsimp only [Fam.nextS, Fam.nextN, Fam.one, List.cons_append, List.nil_append]
      refine TC.kp [2, 7] [b2_0, b7_14] ?_
      obtain ⟨r_16, er_16, H⟩ := bnd H
      refine TC.nmB b7_14 (nm_one er_16) ?_
      refine TC.seq ?_
      refine TC.seqS ?_
      refine TS.s (OpD.ldq Pl.one) rfl ?_
      obtain ⟨x_17, ex_17, H⟩ := bnd H
      refine TS.s (OpY.call1 fun w v0 hA h0 => bad_Right_c w v0 hA (toD h0) ex_17) rfl ?_
      refine TS.s OpY.notB rfl ?_
      refine TS.nil ?_
      refine TE.then ?_
      refine TC.kp [2, 7, 52] [b2_0, b7_14] ?_
      refine TC.cond (fun hc => ?_) (fun hc => ?_)
      · replace H := cT H hc
        refine TC.seqS ?_
        refine TS.s (OpY.buildAs (⟨[], []⟩ : Reserve) rfl ⟨_, Try.underlying47, by kernel_rfl⟩ rfl rfl) rfl ?_
        refine TS.un (OpT.storeq (y := ((⟨[], []⟩ : Reserve) : Reserve)) Pl.one) ?_
        refine TS.s OpY.assign rfl ?_
        refine TS.nil ?_
        refine TE.then ?_
        refine TC.kp [2, 3] [b2_0] ?_
        obtain ⟨k_18, ek_18, H⟩ := bnd H
        refine TC.nmB b2_0 (nm_one ek_18) ?_
        refine TC.ret ?_
        refine TE.then_ret ?_
        obtain rfl := (Option.some.inj H)
        exact TE.retN rfl rfl (.cons Cv.le (.cons Cv.le .nil))
      · replace H := cF H hc
        refine TC.skip ?_
        refine TE.then ?_
        refine TC.kp [2, 7] [b2_0, b7_14] ?_
        refine TC.seqS ?_
        refine TS.s (OpD.ldq Pl.one) rfl ?_
        refine TS.un (OpT.storeq (y := (r_16 : Reserve)) Pl.one) ?_
        refine TS.s OpY.assign rfl ?_
        refine TS.nil ?_
        refine TE.then ?_
        refine TC.kp [2, 3] [b2_0] ?_
        refine TC.ret ?_
        obtain rfl := (Option.some.inj H)
        exact TE.retN rfl rfl (.cons Cv.le (.cons Cv.le .nil))
def bywayref08_Ints_l1 (a0 : (List Int)) (b0 : (List Int)) (i_2 : Int) : Option (Int ⊕ (Unit ⊕ Bool)) :=
  bif (decide (i_2 < (a0.length : Int))) then ((idx a0 i_2).bind fun x_4 => (idx b0 i_2).bind fun x_5 => bif (decide (x_4 ≠ x_5)) then (some (.inr (.inr false))) else ((addI i_2 (1 : Int)).bind fun x_7 => some (.inl x_7))) else (some (.inr (.inl ())))
def bywayref08_Ints (a0 : (List Int)) (b0 : (List Int)) : Option Bool :=
  bif (decide ((a0.length : Int) ≠ (b0.length : Int))) then (some false) else ((loopO (fun s => bywayref08_Ints_l1 a0 b0 s) (0 : Int)).bind fun o_1 => elS o_1 (fun _ => some true) (fun q => some q))
/-- bywayref08.Ints -/
theorem bywayref08_Ints_c {A : Nat → Prop} {a0 : (List Int)} {b0 : (List Int)}  {r : Bool} (w : World) (v0 v1 : Value) (hA : ∀ k, w.heap.size ≤ k → A k)  (h0 : (D (a0 : (List Int))).p A w v0) (h1 : (D (b0 : (List Int))).p A w v1) (H : bywayref08_Ints a0 b0 = some r) :
    Calls Try.prog 58 #[v0, v1] w (Ret A w (D (r : Bool))) := by
  unfold bywayref08_Ints at H
  refine enter2 hA Try.func58 rfl Try.ntmps58 rfl h0 h1 ?_
  refine TC.seqS ?_
  refine TS.s OpY.assign rfl ?_
  refine TS.nil ?_
  refine TE.then ?_
  refine TC.kp [0, 1] [] ?_
  refine TC.seq ?_
  refine TC.seqS ?_
  refine TS.s OpY.move rfl ?_
  refine TS.s OpD.len rfl ?_
  refine TS.s OpY.move rfl ?_
  refine TS.s OpD.len rfl ?_
  refine TS.s OpY.neq rfl ?_
  refine TS.nil ?_
  refine TE.then ?_
  refine TC.kp [0, 1, 10] [] ?_
  refine TC.cond (fun hc => ?_) (fun hc => ?_)
  · replace H := cT H hc
    refine TC.seqS ?_
    refine TS.s OpY.assign rfl ?_
    refine TS.nil ?_
    refine TE.then ?_
    refine TC.kp [4] [] ?_
    refine TC.ret ?_
    refine TE.then_ret ?_
    obtain rfl := (Option.some.inj H)
    exact TE.ret1 rfl Cv.le
  · replace H := cF H hc
    refine TC.skip ?_
    refine TE.then ?_
    refine TC.kp [0, 1] [] ?_
    refine TC.seq ?_
    refine TC.seqS ?_
    refine TS.s OpY.assign rfl ?_
    refine TS.nil ?_
    refine TE.then ?_
    refine TC.kp [0, 1, 5] [] ?_
    obtain ⟨o_1, H1, H⟩ := bnd H
    refine TC.cutP (fun s : Unit => o_1 = .inl s) (fun (_ : Unit) (_ : Unit) => Env.nil) (fun (_ : Unit) (_ : Unit) => []) ?_ ?_
    · skip
      refine TC.block ?_
      refine TC.loopP H1 (fun (i_2 : Int) (_ : Unit) => (Env.set (Env.set (Env.set Env.nil 0 (D (a0 : (List Int)))) 1 (D (b0 : (List Int)))) 5 (D (i_2 : Int)))) (fun (i_2 : Int) (_ : Unit) => []) () (Env.cv (Env.cv (Env.cv (Env.le_nil _)))) (Less.nil _) ?_
      rintro i_2 ⟨⟩ x_3 H3 he3
      replace H3 : bywayref08_Ints_l1 a0 b0 i_2 = some x_3 := H3
      unfold bywayref08_Ints_l1 at H3
      refine TC.seq ?_
      refine TC.seqS ?_
      refine TS.s OpY.move rfl ?_
      refine TS.s OpY.move rfl ?_
      refine TS.s OpD.len rfl ?_
      refine TS.s OpY.lss rfl ?_
      refine TS.nil ?_
      refine TE.then ?_
      refine TC.kp [0, 1, 5, 14] [] ?_
      refine TC.cond (fun hc => ?_) (fun hc => ?_)
      · replace H3 := cT H3 hc
        refine TC.skip ?_
        refine TE.then ?_
        refine TC.kp [0, 1, 5] [] ?_
        refine TC.seq ?_
        refine TC.block ?_
        refine TC.seqD0 mix (by kernel_rfl) ?_
        refine TR.s OpY.move rfl ?_
        refine TR.s OpY.move rfl ?_
        obtain ⟨x_4, ex_4, H3⟩ := bnd H3
        refine TR.s (OpD.index ex_4) rfl ?_
        refine TR.s OpY.load rfl ?_
        refine TR.s OpY.move rfl ?_
        refine TR.s OpY.move rfl ?_
        obtain ⟨x_5, ex_5, H3⟩ := bnd H3
        refine TR.s (OpD.index ex_5) rfl ?_
        refine TR.s OpY.load rfl ?_
        refine TR.s OpY.neq rfl ?_
        refine TR.nil ?_
        refine TC.kp [0, 1, 5, 25] [] ?_
        refine TC.cond (fun hc => ?_) (fun hc => ?_)
        · replace H3 := cT H3 hc
          refine TC.seqS ?_
          refine TS.s OpY.assign rfl ?_
          refine TS.nil ?_
          refine TE.then ?_
          refine TC.kp [4] [] ?_
          refine TC.ret ?_
          refine TE.inBlock_ret ?_
          refine TE.then_ret ?_
          refine TE.then_ret ?_
          refine TE.inBlock_ret ?_
          refine TE.cut_ret ?_
          have R5 := elS_r (he3 _ (Option.some.inj H3).symm) H
          refine TE.then_ret ?_
          obtain rfl := (Option.some.inj R5)
          exact TE.ret1 rfl Cv.le
        · replace H3 := cF H3 hc
          refine TC.skip ?_
          refine TE.inBlock_normal ?_
          refine TE.then ?_
          refine TC.kp [0, 1, 5] [] ?_
          refine TC.regionS ?_
          refine TS.s OpY.move rfl ?_
          obtain ⟨x_7, ex_7, H3⟩ := bnd H3
          refine TS.s (OpD.add ex_7) rfl ?_
          refine TS.s OpY.assign rfl ?_
          refine TS.nil ?_
          refine TE.kp [0, 1, 5] [] ?_
          exact TE.backP x_7 () (Option.some.inj H3).symm (Env.cv (Env.cv (Env.cv (Env.le_nil _)))) (Less.nil _)
      · replace H3 := cF H3 hc
        refine TC.exit ?_
        refine TE.then_exit ?_
        refine TE.then_exit ?_
        refine TE.inBlock_here ?_
        exact TE.cutP () () (he3 _ (Option.some.inj H3).symm).symm (Env.le_nil _) (Less.nil _)
    rintro ⟨⟩ ⟨⟩ hp
    replace H := elS_l hp H
    refine TE.then ?_
    refine TC.kp [] [] ?_
    refine TC.seqS ?_
    refine TS.s OpY.assign rfl ?_
    refine TS.nil ?_
    refine TE.then ?_
    refine TC.kp [4] [] ?_
    refine TC.ret ?_
    obtain rfl := (Option.some.inj H)
    exact TE.ret1 rfl Cv.le
def bywayref08_Same (a0 : Reserve) (b0 : Reserve) : Option Bool :=
  (bywayref08_Ints a0.Stands b0.Stands).bind fun x_3 => (gb x_3 (bywayref08_Ints a0.Left b0.Left)).bind fun x_4 => some (x_3 && x_4)
/-- bywayref08.Same -/
theorem bywayref08_Same_c {A : Nat → Prop} {a0 : Reserve} {b0 : Reserve}  {r : Bool} (w : World) (v0 v1 : Value) (hA : ∀ k, w.heap.size ≤ k → A k)  (h0 : (D (a0 : Reserve)).p A w v0) (h1 : (D (b0 : Reserve)).p A w v1) (H : bywayref08_Same a0 b0 = some r) :
    Calls Try.prog 74 #[v0, v1] w (Ret A w (D (r : Bool))) := by
  unfold bywayref08_Same at H
  refine enter2 hA Try.func74 rfl Try.ntmps74 rfl h0 h1 ?_
  refine TC.seqS ?_
  refine TS.box rfl fun b2_0 => ?_
  refine TS.box rfl fun b3_1 => ?_
  refine TS.s OpY.assign rfl ?_
  refine TS.nil ?_
  refine TE.then ?_
  refine TC.kp [2, 3] [b2_0, b3_1] ?_
  refine TC.seqS ?_
  refine TS.s OpY.fieldAddr rfl ?_
  refine TS.s (OpD.ldq (Pl.fld (off := 0) (α := Reserve) (β := (List Int)) Pl.one)) rfl ?_
  refine TS.s OpY.fieldAddr rfl ?_
  refine TS.s (OpD.ldq (Pl.fld (off := 0) (α := Reserve) (β := (List Int)) Pl.one)) rfl ?_
  obtain ⟨x_3, ex_3, H⟩ := bnd H
  refine TS.s (OpY.call2 fun w v0 v1 hA h0 h1 => bywayref08_Ints_c w v0 v1 hA (toD h0) (toD h1) ex_3) rfl ?_
  refine TS.s OpY.move rfl ?_
  refine TS.g 10 rfl (fun hg => OpY.fieldAddr) rfl ?_
  refine TS.g 10 rfl (fun hg => (OpD.ldq (Pl.fld (off := 1) (α := Reserve) (β := (List Int)) Pl.one))) rfl ?_
  refine TS.g 10 rfl (fun hg => OpY.fieldAddr) rfl ?_
  refine TS.g 10 rfl (fun hg => (OpD.ldq (Pl.fld (off := 1) (α := Reserve) (β := (List Int)) Pl.one))) rfl ?_
  obtain ⟨x_4, ex_4, H⟩ := bnd H
  refine TS.g 10 rfl (fun hg => (OpY.call2 fun w v0 v1 hA h0 h1 => bywayref08_Ints_c w v0 v1 hA (toD h0) (toD h1) (gb_some ex_4 hg.h))) rfl ?_
  refine TS.s OpY.pickAnd rfl ?_
  refine TS.s OpY.assign rfl ?_
  refine TS.nil ?_
  refine TE.then ?_
  refine TC.kp [4] [] ?_
  refine TC.ret ?_
  obtain rfl := (Option.some.inj H)
  exact TE.ret1 rfl Cv.le
def bywaylaw08_awake : Option Bool :=
  (bad_New (3 : Int) (2 : Int) ([(1 : Int)] : List Int)).bind fun r_1 => (bad_Replace r_1.1 (0 : Int)).bind fun r_3 => (bad_At r_3.1 (0 : Int)).bind fun r_5 => (bad_Put r_1.1).bind fun r_6 => (bad_Read r_6.1).bind fun r_7 => (gb (((((decide (r_1.2 = (0 : Int))) && (decide (r_3.2 = (0 : Int)))) && (decide (r_5.2 = (0 : Int)))) && (decide (r_6.2 = (0 : Int)))) && (decide (r_7.2 = (0 : Int)))) (bywayref08_Ints r_1.1.Stands ([(0 : Int), (2 : Int), (3 : Int)] : List Int))).bind fun x_9 => (gb (((((((decide (r_1.2 = (0 : Int))) && (decide (r_3.2 = (0 : Int)))) && (decide (r_5.2 = (0 : Int)))) && (decide (r_6.2 = (0 : Int)))) && (decide (r_7.2 = (0 : Int)))) && x_9) && (decide (r_5.1 = (4 : Int)))) (bywayref08_Same r_7.1 r_1.1)).bind fun x_10 => (gb ((((((((decide (r_1.2 = (0 : Int))) && (decide (r_3.2 = (0 : Int)))) && (decide (r_5.2 = (0 : Int)))) && (decide (r_6.2 = (0 : Int)))) && (decide (r_7.2 = (0 : Int)))) && x_9) && (decide (r_5.1 = (4 : Int)))) && x_10) (bad_Right r_3.1)).bind fun x_11 => some (((((((((decide (r_1.2 = (0 : Int))) && (decide (r_3.2 = (0 : Int)))) && (decide (r_5.2 = (0 : Int)))) && (decide (r_6.2 = (0 : Int)))) && (decide (r_7.2 = (0 : Int)))) && x_9) && (decide (r_5.1 = (4 : Int)))) && x_10) && x_11)
/-- bywaylaw08.awake -/
theorem bywaylaw08_awake_c {A : Nat → Prop}   {r : Bool} (w : World)  (hA : ∀ k, w.heap.size ≤ k → A k)   (H : bywaylaw08_awake = some r) :
    Calls Try.prog 26 #[] w (Ret A w (D (r : Bool))) := by
  unfold bywaylaw08_awake at H
  refine enter0 hA Try.func26 rfl Try.ntmps26 rfl  ?_
  refine TC.seqS ?_
  refine TS.s OpY.assign rfl ?_
  refine TS.nil ?_
  refine TE.then ?_
  refine TC.kp [] [] ?_
  refine TC.seqS ?_
  refine TS.s (OpY.buildSlice [.const (.int .i64 1)] rfl rfl (by decide)) rfl ?_
  obtain ⟨r_1, er_1, H⟩ := bnd H
  refine TS.s (OpY.call3 fun w v0 v1 v2 hA h0 h1 h2 => bad_New_c w v0 v1 v2 hA (toD h0) (toD h1) (toD h2) er_1) rfl ?_
  refine TS.s OpY.move rfl ?_
  refine TS.s (OpY.extract rfl) rfl ?_
  refine TS.s (OpY.extract rfl) rfl ?_
  refine TS.alloc (α := Reserve) rfl fun b1_1 => ?_
  refine TS.un (OpT.storeq (y := (r_1.1 : Reserve)) Pl.one) ?_
  refine TS.s OpY.assign rfl ?_
  refine TS.nil ?_
  refine TE.then ?_
  refine TC.kp [1, 2] [b1_1] ?_
  refine TC.seqS ?_
  refine TS.s (OpD.ldq Pl.one) rfl ?_
  obtain ⟨r_3, er_3, H⟩ := bnd H
  refine TS.s (OpY.call2 fun w v0 v1 hA h0 h1 => bad_Replace_c w v0 v1 hA (toD h0) (toD h1) er_3) rfl ?_
  refine TS.s OpY.move rfl ?_
  refine TS.s (OpY.extract rfl) rfl ?_
  refine TS.s (OpY.extract rfl) rfl ?_
  refine TS.alloc (α := Reserve) rfl fun b3_3 => ?_
  refine TS.un (OpT.storeq (y := (r_3.1 : Reserve)) Pl.one) ?_
  refine TS.s OpY.assign rfl ?_
  refine TS.nil ?_
  refine TE.then ?_
  refine TC.kp [1, 2, 3, 4] [b1_1, b3_3] ?_
  refine TC.seqS ?_
  refine TS.s (OpD.ldq Pl.one) rfl ?_
  obtain ⟨r_5, er_5, H⟩ := bnd H
  refine TS.s (OpY.call2 fun w v0 v1 hA h0 h1 => bad_At_c w v0 v1 hA (toD h0) (toD h1) er_5) rfl ?_
  refine TS.s OpY.move rfl ?_
  refine TS.s (OpY.extract rfl) rfl ?_
  refine TS.s (OpY.extract rfl) rfl ?_
  refine TS.s OpY.assign rfl ?_
  refine TS.s OpY.assign rfl ?_
  refine TS.nil ?_
  refine TE.then ?_
  refine TC.kp [1, 2, 3, 4, 5, 6] [b1_1, b3_3] ?_
  refine TC.seqS ?_
  refine TS.s (OpD.ldq Pl.one) rfl ?_
  obtain ⟨r_6, er_6, H⟩ := bnd H
  refine TS.s (OpY.call1 fun w v0 hA h0 => bad_Put_c w v0 hA (toD h0) er_6) rfl ?_
  refine TS.s OpY.move rfl ?_
  refine TS.s (OpY.extract rfl) rfl ?_
  refine TS.s (OpY.extract rfl) rfl ?_
  refine TS.s OpY.assign rfl ?_
  refine TS.s OpY.assign rfl ?_
  refine TS.nil ?_
  refine TE.then ?_
  refine TC.kp [1, 2, 3, 4, 5, 6, 7, 8] [b1_1, b3_3] ?_
  refine TC.seqS ?_
  refine TS.s OpY.move rfl ?_
  obtain ⟨r_7, er_7, H⟩ := bnd H
  refine TS.s (OpY.call1 fun w v0 hA h0 => bad_Read_c w v0 hA (toD h0) er_7) rfl ?_
  refine TS.s OpY.move rfl ?_
  refine TS.s (OpY.extract rfl) rfl ?_
  refine TS.s (OpY.extract rfl) rfl ?_
  refine TS.alloc (α := Reserve) rfl fun b9_7 => ?_
  refine TS.un (OpT.storeq (y := (r_7.1 : Reserve)) Pl.one) ?_
  refine TS.s OpY.assign rfl ?_
  refine TS.nil ?_
  refine TE.then ?_
  refine TC.kp [1, 2, 3, 4, 5, 6, 8, 9, 10] [b1_1, b3_3, b9_7] ?_
  refine TC.seqS ?_
  refine TS.s OpY.move rfl ?_
  refine TS.s OpY.eql rfl ?_
  refine TS.s OpY.move rfl ?_
  refine TS.g 38 rfl (fun hg => OpY.move) rfl ?_
  refine TS.g 38 rfl (fun hg => OpY.eql) rfl ?_
  refine TS.s OpY.pickAnd rfl ?_
  refine TS.s OpY.move rfl ?_
  refine TS.g 42 rfl (fun hg => OpY.move) rfl ?_
  refine TS.g 42 rfl (fun hg => OpY.eql) rfl ?_
  refine TS.s OpY.pickAnd rfl ?_
  refine TS.s OpY.move rfl ?_
  refine TS.g 46 rfl (fun hg => OpY.move) rfl ?_
  refine TS.g 46 rfl (fun hg => OpY.eql) rfl ?_
  refine TS.s OpY.pickAnd rfl ?_
  refine TS.s OpY.move rfl ?_
  refine TS.g 50 rfl (fun hg => OpY.move) rfl ?_
  refine TS.g 50 rfl (fun hg => OpY.eql) rfl ?_
  refine TS.s OpY.pickAnd rfl ?_
  refine TS.s OpY.move rfl ?_
  refine TS.g 54 rfl (fun hg => OpY.fieldAddr) rfl ?_
  refine TS.g 54 rfl (fun hg => (OpD.ldq (Pl.fld (off := 0) (α := Reserve) (β := (List Int)) Pl.one))) rfl ?_
  refine TS.g 54 rfl (fun hg => (OpY.buildSlice [.const (.int .i64 0), .const (.int .i64 2), .const (.int .i64 3)] rfl rfl (by decide))) rfl ?_
  obtain ⟨x_9, ex_9, H⟩ := bnd H
  refine TS.g 54 rfl (fun hg => (OpY.call2 fun w v0 v1 hA h0 h1 => bywayref08_Ints_c w v0 v1 hA (toD h0) (toD h1) (gb_some ex_9 hg.h))) rfl ?_
  refine TS.s OpY.pickAnd rfl ?_
  refine TS.s OpY.move rfl ?_
  refine TS.g 60 rfl (fun hg => OpY.move) rfl ?_
  refine TS.g 60 rfl (fun hg => OpY.eql) rfl ?_
  refine TS.s OpY.pickAnd rfl ?_
  refine TS.s OpY.move rfl ?_
  refine TS.g 64 rfl (fun hg => (OpD.ldq Pl.one)) rfl ?_
  refine TS.g 64 rfl (fun hg => (OpD.ldq Pl.one)) rfl ?_
  obtain ⟨x_10, ex_10, H⟩ := bnd H
  refine TS.g 64 rfl (fun hg => (OpY.call2 fun w v0 v1 hA h0 h1 => bywayref08_Same_c w v0 v1 hA (toD h0) (toD h1) (gb_some ex_10 hg.h))) rfl ?_
  refine TS.s OpY.pickAnd rfl ?_
  refine TS.s OpY.move rfl ?_
  refine TS.g 69 rfl (fun hg => (OpD.ldq Pl.one)) rfl ?_
  obtain ⟨x_11, ex_11, H⟩ := bnd H
  refine TS.g 69 rfl (fun hg => (OpY.call1 fun w v0 hA h0 => bad_Right_c w v0 hA (toD h0) (gb_some ex_11 hg.h))) rfl ?_
  refine TS.s OpY.pickAnd rfl ?_
  refine TS.s OpY.assign rfl ?_
  refine TS.nil ?_
  refine TE.then ?_
  refine TC.kp [0] [] ?_
  refine TC.ret ?_
  obtain rfl := (Option.some.inj H)
  exact TE.ret1 rfl Cv.le
def bywaylaw08_BadGood_l1 (x_2 : Int) (m_3 : Int) (x_6 : Int) (i_9 : Int) (r_10 : Reserve) : Option ((Int × Reserve) ⊕ (Reserve ⊕ Bool)) :=
  bif (decide (i_9 < m_3)) then ((bad_Replace r_10 x_6).bind fun r_12 => (bad_At r_12.1 x_6).bind fun r_14 => (gb (!((decide (r_12.2 ≠ (0 : Int))) || (decide (r_14.2 ≠ (0 : Int))))) (addI x_2 i_9)).bind fun x_15 => bif (((decide (r_12.2 ≠ (0 : Int))) || (decide (r_14.2 ≠ (0 : Int)))) || (decide (r_14.1 ≠ x_15))) then (some (.inr (.inr false))) else ((addI i_9 (1 : Int)).bind fun x_17 => some (.inl (x_17, r_12.1)))) else (some (.inr (.inl r_10)))
def bywaylaw08_BadGood_l2 (x_2 : Int) (x_6 : Int) (r_7 : Reserve) (i_21 : Int) : Option (Int ⊕ (Unit ⊕ Bool)) :=
  bif (decide (i_21 < x_2)) then ((bad_At r_7 i_21).bind fun r_23 => bif ((decide (r_23.2 ≠ (0 : Int))) || ((decide (i_21 ≠ x_6)) && (decide (r_23.1 ≠ i_21)))) then (some (.inr (.inr false))) else ((addI i_21 (1 : Int)).bind fun x_25 => some (.inl x_25))) else (some (.inr (.inl ())))
def bywaylaw08_BadGood (blocks0 : UInt8) (spare0 : UInt8) (at0 : UInt8) : Option Bool :=
  (bywaylaw08_awake).bind fun x_1 => bif (!x_1) then (some false) else ((addI ((blocks0 % (UInt8.ofNat 100)).toNat : Int) (1 : Int)).bind fun x_2 => (some (((spare0 % (UInt8.ofNat 100)).toNat : Int) : Int)).bind fun m_3 => (bad_New x_2 m_3 ([] : List Int)).bind fun r_4 => bif (decide (r_4.2 ≠ (0 : Int))) then (some false) else ((remI (at0.toNat : Int) x_2).bind fun x_6 => (loopO (fun s => bywaylaw08_BadGood_l1 x_2 m_3 x_6 s.1 s.2) ((0 : Int), r_4.1)).bind fun o_8 => elS o_8 (fun r_7 => (bad_Replace r_7 x_6).bind fun r_18 => (loopO (fun s => bywaylaw08_BadGood_l2 x_2 x_6 r_7 s) (0 : Int)).bind fun o_20 => elS o_20 (fun _ => some (decide (r_18.2 = (5 : Int)))) (fun q => some q)) (fun q => some q)))
/-- bywaylaw08.BadGood -/
theorem bywaylaw08_BadGood_c {A : Nat → Prop} {blocks0 : UInt8} {spare0 : UInt8} {at0 : UInt8}  {r : Bool} (w : World) (v0 v1 v2 : Value) (hA : ∀ k, w.heap.size ≤ k → A k)  (h0 : (D (blocks0 : UInt8)).p A w v0) (h1 : (D (spare0 : UInt8)).p A w v1) (h2 : (D (at0 : UInt8)).p A w v2) (H : bywaylaw08_BadGood blocks0 spare0 at0 = some r) :
    Calls Try.prog 6 #[v0, v1, v2] w (Ret A w (D (r : Bool))) := by
  unfold bywaylaw08_BadGood at H
  refine enter3 hA Try.func6 rfl Try.ntmps6 rfl h0 h1 h2 ?_
  refine TC.seqS ?_
  refine TS.s OpY.assign rfl ?_
  refine TS.nil ?_
  refine TE.then ?_
  refine TC.kp [0, 1, 2] [] ?_
  refine TC.seq ?_
  refine TC.seqS ?_
  obtain ⟨x_1, ex_1, H⟩ := bnd H
  refine TS.s (OpY.call0 fun w hA => bywaylaw08_awake_c w hA ex_1) rfl ?_
  refine TS.s OpY.notB rfl ?_
  refine TS.nil ?_
  refine TE.then ?_
  refine TC.kp [0, 1, 2, 23] [] ?_
  refine TC.cond (fun hc => ?_) (fun hc => ?_)
  · replace H := cT H hc
    refine TC.seqS ?_
    refine TS.s OpY.assign rfl ?_
    refine TS.nil ?_
    refine TE.then ?_
    refine TC.kp [6] [] ?_
    refine TC.ret ?_
    refine TE.then_ret ?_
    obtain rfl := (Option.some.inj H)
    exact TE.ret1 rfl Cv.le
  · replace H := cF H hc
    refine TC.skip ?_
    refine TE.then ?_
    refine TC.kp [0, 1, 2] [] ?_
    refine TC.seqS ?_
    refine TS.s OpY.move rfl ?_
    refine TS.s (OpY.rem8 (by decide)) rfl ?_
    refine TS.s OpD.conv8_i rfl ?_
    obtain ⟨x_2, ex_2, H⟩ := bnd H
    refine TS.s (OpD.add ex_2) rfl ?_
    refine TS.s OpY.move rfl ?_
    refine TS.s (OpY.rem8 (by decide)) rfl ?_
    refine TS.s OpD.conv8_i rfl ?_
    refine TS.s OpY.assign rfl ?_
    refine TS.s OpY.assign rfl ?_
    refine TS.nil ?_
    refine TE.then ?_
    refine TC.kp [2, 7, 8] [] ?_
    obtain ⟨m_3, em_3, H⟩ := bnd H
    refine TC.see 8 (D (m_3 : Int)) (nm_cv em_3) ?_
    refine TC.seqS ?_
    refine TS.s OpY.move rfl ?_
    refine TS.s OpY.move rfl ?_
    obtain ⟨r_4, er_4, H⟩ := bnd H
    refine TS.s (OpY.call3 fun w v0 v1 v2 hA h0 h1 h2 => bad_New_c w v0 v1 v2 hA (toD h0) (toD h1) (toD h2) er_4) rfl ?_
    refine TS.s OpY.move rfl ?_
    refine TS.s (OpY.extract rfl) rfl ?_
    refine TS.s (OpY.extract rfl) rfl ?_
    refine TS.alloc (α := Reserve) rfl fun b9_4 => ?_
    refine TS.un (OpT.storeq (y := (r_4.1 : Reserve)) Pl.one) ?_
    refine TS.s OpY.assign rfl ?_
    refine TS.nil ?_
    refine TE.then ?_
    refine TC.kp [2, 7, 8, 9, 10] [b9_4] ?_
    refine TC.seq ?_
    refine TC.seqS ?_
    refine TS.s OpY.move rfl ?_
    refine TS.s OpY.neq rfl ?_
    refine TS.nil ?_
    refine TE.then ?_
    refine TC.kp [2, 7, 8, 9, 38] [b9_4] ?_
    refine TC.cond (fun hc => ?_) (fun hc => ?_)
    · replace H := cT H hc
      refine TC.seqS ?_
      refine TS.s OpY.assign rfl ?_
      refine TS.nil ?_
      refine TE.then ?_
      refine TC.kp [6] [] ?_
      refine TC.ret ?_
      refine TE.then_ret ?_
      obtain rfl := (Option.some.inj H)
      exact TE.ret1 rfl Cv.le
    · replace H := cF H hc
      refine TC.skip ?_
      refine TE.then ?_
      refine TC.kp [2, 7, 8, 9] [b9_4] ?_
      refine TC.seqS ?_
      refine TS.s OpY.move rfl ?_
      refine TS.s OpD.conv8_i rfl ?_
      refine TS.s OpY.move rfl ?_
      obtain ⟨x_6, ex_6, H⟩ := bnd H
      refine TS.s (OpD.rem ex_6) rfl ?_
      refine TS.s OpY.assign rfl ?_
      refine TS.nil ?_
      refine TE.then ?_
      refine TC.kp [7, 8, 9, 11] [b9_4] ?_
      refine TC.seq ?_
      refine TC.seqS ?_
      refine TS.s OpY.assign rfl ?_
      refine TS.nil ?_
      refine TE.then ?_
      refine TC.kp [7, 8, 9, 11, 12] [b9_4] ?_
      obtain ⟨o_8, H8, H⟩ := bnd H
      refine TC.cutP (fun s : Reserve => o_8 = .inl s) (fun (r_7 : Reserve) (_ : Unit) => (Env.set (Env.set (Env.set Env.nil 7 (D (x_2 : Int))) 9 (Pt b9_4 0)) 11 (D (x_6 : Int)))) (fun (r_7 : Reserve) (_ : Unit) => [⟨b9_4, True, (One (r_7 : Reserve))⟩]) ?_ ?_
      · skip
        refine TC.block ?_
        refine TC.loopP H8 (fun ⟨i_9, r_10⟩ (_ : Unit) => (Env.set (Env.set (Env.set (Env.set (Env.set Env.nil 7 (D (x_2 : Int))) 8 (D (m_3 : Int))) 9 (Pt b9_4 0)) 11 (D (x_6 : Int))) 12 (D (i_9 : Int)))) (fun ⟨i_9, r_10⟩ (_ : Unit) => [⟨b9_4, True, (One (r_10 : Reserve))⟩]) () (Env.cv (Env.cv (Env.cv (Env.cv (Env.cv (Env.le_nil _)))))) (Less.pk rfl (Less.nil _)) ?_
        rintro ⟨i_9, r_10⟩ ⟨⟩ x_11 H11 he11
        replace H11 : bywaylaw08_BadGood_l1 x_2 m_3 x_6 i_9 r_10 = some x_11 := H11
        unfold bywaylaw08_BadGood_l1 at H11
        refine TC.seq ?_
        refine TC.seqS ?_
        refine TS.s OpY.move rfl ?_
        refine TS.s OpY.move rfl ?_
        refine TS.s OpY.lss rfl ?_
        refine TS.nil ?_
        refine TE.then ?_
        refine TC.kp [7, 8, 9, 11, 12, 45] [b9_4] ?_
        refine TC.cond (fun hc => ?_) (fun hc => ?_)
        · replace H11 := cT H11 hc
          refine TC.skip ?_
          refine TE.then ?_
          refine TC.kp [7, 8, 9, 11, 12] [b9_4] ?_
          refine TC.seq ?_
          refine TC.block ?_
          refine TC.seqS ?_
          refine TS.s (OpD.ldq Pl.one) rfl ?_
          refine TS.s OpY.move rfl ?_
          obtain ⟨r_12, er_12, H11⟩ := bnd H11
          refine TS.s (OpY.call2 fun w v0 v1 hA h0 h1 => bad_Replace_c w v0 v1 hA (toD h0) (toD h1) er_12) rfl ?_
          refine TS.s OpY.move rfl ?_
          refine TS.s (OpY.extract rfl) rfl ?_
          refine TS.s (OpY.extract rfl) rfl ?_
          refine TS.alloc (α := Reserve) rfl fun b13_12 => ?_
          refine TS.un (OpT.storeq (y := (r_12.1 : Reserve)) Pl.one) ?_
          refine TS.s OpY.assign rfl ?_
          refine TS.nil ?_
          refine TE.then ?_
          refine TC.kp [7, 8, 9, 11, 12, 13, 14] [b9_4, b13_12] ?_
          refine TC.seqS ?_
          refine TS.s (OpD.ldq Pl.one) rfl ?_
          refine TS.s OpY.move rfl ?_
          obtain ⟨r_14, er_14, H11⟩ := bnd H11
          refine TS.s (OpY.call2 fun w v0 v1 hA h0 h1 => bad_At_c w v0 v1 hA (toD h0) (toD h1) er_14) rfl ?_
          refine TS.s OpY.move rfl ?_
          refine TS.s (OpY.extract rfl) rfl ?_
          refine TS.s (OpY.extract rfl) rfl ?_
          refine TS.s OpY.assign rfl ?_
          refine TS.s OpY.assign rfl ?_
          refine TS.nil ?_
          refine TE.then ?_
          refine TC.kp [7, 8, 9, 11, 12, 13, 14, 15, 16] [b9_4, b13_12] ?_
          refine TC.seq ?_
          refine TC.seqS ?_
          refine TS.s OpY.move rfl ?_
          refine TS.s OpY.neq rfl ?_
          refine TS.s OpY.move rfl ?_
          refine TS.g 62 rfl (fun hg => OpY.move) rfl ?_
          refine TS.g 62 rfl (fun hg => OpY.neq) rfl ?_
          refine TS.s OpY.pickOr rfl ?_
          refine TS.s OpY.move rfl ?_
          refine TS.g 66 rfl (fun hg => OpY.move) rfl ?_
          refine TS.g 66 rfl (fun hg => OpY.move) rfl ?_
          refine TS.g 66 rfl (fun hg => OpY.move) rfl ?_
          obtain ⟨x_15, ex_15, H11⟩ := bnd H11
          refine TS.g 66 rfl (fun hg => (OpD.add (gb_some ex_15 (nF hg.h)))) rfl ?_
          refine TS.g 66 rfl (fun hg => OpY.neq) rfl ?_
          refine TS.s OpY.pickOr rfl ?_
          refine TS.nil ?_
          refine TE.then ?_
          refine TC.kp [7, 8, 9, 11, 12, 13, 72] [b9_4, b13_12] ?_
          refine TC.cond (fun hc => ?_) (fun hc => ?_)
          · replace H11 := cT H11 hc
            refine TC.seqS ?_
            refine TS.s OpY.assign rfl ?_
            refine TS.nil ?_
            refine TE.then ?_
            refine TC.kp [6] [] ?_
            refine TC.ret ?_
            refine TE.then_ret ?_
            refine TE.inBlock_ret ?_
            refine TE.then_ret ?_
            refine TE.then_ret ?_
            refine TE.inBlock_ret ?_
            refine TE.cut_ret ?_
            have R15 := elS_r (he11 _ (Option.some.inj H11).symm) H
            refine TE.then_ret ?_
            obtain rfl := (Option.some.inj R15)
            exact TE.ret1 rfl Cv.le
          · replace H11 := cF H11 hc
            refine TC.skip ?_
            refine TE.then ?_
            refine TC.kp [7, 8, 9, 11, 12, 13] [b9_4, b13_12] ?_
            refine TC.regionS ?_
            refine TS.s (OpD.ldq Pl.one) rfl ?_
            refine TS.un (OpT.storeq (y := (r_12.1 : Reserve)) Pl.one) ?_
            refine TS.nil ?_
            refine TE.kp [7, 8, 9, 11, 12] [b9_4] ?_
            refine TE.inBlock_normal ?_
            refine TE.then ?_
            refine TC.kp [7, 8, 9, 11, 12] [b9_4] ?_
            refine TC.regionS ?_
            refine TS.s OpY.move rfl ?_
            obtain ⟨x_17, ex_17, H11⟩ := bnd H11
            refine TS.s (OpD.add ex_17) rfl ?_
            refine TS.s OpY.assign rfl ?_
            refine TS.nil ?_
            refine TE.kp [7, 8, 9, 11, 12] [b9_4] ?_
            exact TE.backP ⟨x_17, r_12.1⟩ () (Option.some.inj H11).symm (Env.cv (Env.cv (Env.cv (Env.cv (Env.cv (Env.le_nil _)))))) (Less.pk rfl (Less.nil _))
        · replace H11 := cF H11 hc
          refine TC.exit ?_
          refine TE.then_exit ?_
          refine TE.then_exit ?_
          refine TE.inBlock_here ?_
          exact TE.cutP r_10 () (he11 _ (Option.some.inj H11).symm).symm (Env.cv (Env.cv (Env.cv (Env.le_nil _)))) (Less.pk rfl (Less.nil _))
      rintro r_7 ⟨⟩ hp
      replace H := elS_l hp H
      refine TE.then ?_
      refine TC.kp [7, 9, 11] [b9_4] ?_
      refine TC.seqS ?_
      refine TS.s (OpD.ldq Pl.one) rfl ?_
      refine TS.s OpY.move rfl ?_
      obtain ⟨r_18, er_18, H⟩ := bnd H
      refine TS.s (OpY.call2 fun w v0 v1 hA h0 h1 => bad_Replace_c w v0 v1 hA (toD h0) (toD h1) er_18) rfl ?_
      refine TS.s OpY.move rfl ?_
      refine TS.s (OpY.extract rfl) rfl ?_
      refine TS.s (OpY.extract rfl) rfl ?_
      refine TS.alloc (α := Reserve) rfl fun b17_18 => ?_
      refine TS.un (OpT.storeq (y := (r_18.1 : Reserve)) Pl.one) ?_
      refine TS.s OpY.assign rfl ?_
      refine TS.nil ?_
      refine TE.then ?_
      refine TC.kp [7, 9, 11, 18] [b9_4] ?_
      refine TC.seq ?_
      refine TC.seqS ?_
      refine TS.s OpY.assign rfl ?_
      refine TS.nil ?_
      refine TE.then ?_
      refine TC.kp [7, 9, 11, 18, 19] [b9_4] ?_
      obtain ⟨o_20, H20, H⟩ := bnd H
      refine TC.cutP (fun s : Unit => o_20 = .inl s) (fun (_ : Unit) (_ : Unit) => (Env.set Env.nil 18 (D (r_18.2 : Int)))) (fun (_ : Unit) (_ : Unit) => []) ?_ ?_
      · skip
        refine TC.block ?_
        refine TC.loopP H20 (fun (i_21 : Int) (_ : Unit) => (Env.set (Env.set (Env.set (Env.set (Env.set Env.nil 7 (D (x_2 : Int))) 9 (Pt b9_4 0)) 11 (D (x_6 : Int))) 18 (D (r_18.2 : Int))) 19 (D (i_21 : Int)))) (fun (i_21 : Int) (_ : Unit) => [⟨b9_4, True, (One (r_7 : Reserve))⟩]) () (Env.cv (Env.cv (Env.cv (Env.cv (Env.cv (Env.le_nil _)))))) (Less.pk rfl (Less.nil _)) ?_
        rintro i_21 ⟨⟩ x_22 H22 he22
        replace H22 : bywaylaw08_BadGood_l2 x_2 x_6 r_7 i_21 = some x_22 := H22
        unfold bywaylaw08_BadGood_l2 at H22
        refine TC.seq ?_
        refine TC.seqS ?_
        refine TS.s OpY.move rfl ?_
        refine TS.s OpY.move rfl ?_
        refine TS.s OpY.lss rfl ?_
        refine TS.nil ?_
        refine TE.then ?_
        refine TC.kp [7, 9, 11, 18, 19, 82] [b9_4] ?_
        refine TC.cond (fun hc => ?_) (fun hc => ?_)
        · replace H22 := cT H22 hc
          refine TC.skip ?_
          refine TE.then ?_
          refine TC.kp [7, 9, 11, 18, 19] [b9_4] ?_
          refine TC.seq ?_
          refine TC.block ?_
          refine TC.seqS ?_
          refine TS.s (OpD.ldq Pl.one) rfl ?_
          refine TS.s OpY.move rfl ?_
          obtain ⟨r_23, er_23, H22⟩ := bnd H22
          refine TS.s (OpY.call2 fun w v0 v1 hA h0 h1 => bad_At_c w v0 v1 hA (toD h0) (toD h1) er_23) rfl ?_
          refine TS.s OpY.move rfl ?_
          refine TS.s (OpY.extract rfl) rfl ?_
          refine TS.s (OpY.extract rfl) rfl ?_
          refine TS.s OpY.assign rfl ?_
          refine TS.s OpY.assign rfl ?_
          refine TS.nil ?_
          refine TE.then ?_
          refine TC.kp [7, 9, 11, 18, 19, 20, 21] [b9_4] ?_
          refine TC.seqS ?_
          refine TS.s OpY.move rfl ?_
          refine TS.s OpY.neq rfl ?_
          refine TS.s OpY.move rfl ?_
          refine TS.g 93 rfl (fun hg => OpY.move) rfl ?_
          refine TS.g 93 rfl (fun hg => OpY.move) rfl ?_
          refine TS.g 93 rfl (fun hg => OpY.neq) rfl ?_
          refine TS.g 93 rfl (fun hg => OpY.move) rfl ?_
          refine TS.gg 97 rfl (fun hp hg => OpY.move) rfl ?_
          refine TS.gg 97 rfl (fun hp hg => OpY.move) rfl ?_
          refine TS.gg 97 rfl (fun hp hg => OpY.neq) rfl ?_
          refine TS.g 93 rfl (fun hg => OpY.pickAnd) rfl ?_
          refine TS.s OpY.pickOr rfl ?_
          refine TS.nil ?_
          refine TE.then ?_
          refine TC.kp [7, 9, 11, 18, 19, 102] [b9_4] ?_
          refine TC.cond (fun hc => ?_) (fun hc => ?_)
          · replace H22 := cT H22 hc
            refine TC.seqS ?_
            refine TS.s OpY.assign rfl ?_
            refine TS.nil ?_
            refine TE.then ?_
            refine TC.kp [6] [] ?_
            refine TC.ret ?_
            refine TE.inBlock_ret ?_
            refine TE.then_ret ?_
            refine TE.then_ret ?_
            refine TE.inBlock_ret ?_
            refine TE.cut_ret ?_
            have R23 := elS_r (he22 _ (Option.some.inj H22).symm) H
            refine TE.then_ret ?_
            obtain rfl := (Option.some.inj R23)
            exact TE.ret1 rfl Cv.le
          · replace H22 := cF H22 hc
            refine TC.skip ?_
            refine TE.inBlock_normal ?_
            refine TE.then ?_
            refine TC.kp [7, 9, 11, 18, 19] [b9_4] ?_
            refine TC.regionS ?_
            refine TS.s OpY.move rfl ?_
            obtain ⟨x_25, ex_25, H22⟩ := bnd H22
            refine TS.s (OpD.add ex_25) rfl ?_
            refine TS.s OpY.assign rfl ?_
            refine TS.nil ?_
            refine TE.kp [7, 9, 11, 18, 19] [b9_4] ?_
            exact TE.backP x_25 () (Option.some.inj H22).symm (Env.cv (Env.cv (Env.cv (Env.cv (Env.cv (Env.le_nil _)))))) (Less.pk rfl (Less.nil _))
        · replace H22 := cF H22 hc
          refine TC.exit ?_
          refine TE.then_exit ?_
          refine TE.then_exit ?_
          refine TE.inBlock_here ?_
          exact TE.cutP () () (he22 _ (Option.some.inj H22).symm).symm (Env.cv (Env.le_nil _)) (Less.nil _)
      rintro ⟨⟩ ⟨⟩ hp
      replace H := elS_l hp H
      refine TE.then ?_
      refine TC.kp [18] [] ?_
      refine TC.seqS ?_
      refine TS.s OpY.move rfl ?_
      refine TS.s OpY.eql rfl ?_
      refine TS.s OpY.assign rfl ?_
      refine TS.nil ?_
      refine TE.then ?_
      refine TC.kp [6] [] ?_
      refine TC.ret ?_
      obtain rfl := (Option.some.inj H)
      exact TE.ret1 rfl Cv.le
end Go.Proofs.Ytfdmajkeihdhnaa.Tr
