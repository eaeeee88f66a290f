/- The functions, as plain ones. Conditions: none. -/
import Derived.Test.YtjnlpphnaldjeaaTab
namespace Go.Proofs.Ytjnlpphnaldjeaa.Tr
open Go Go.RowKit
set_option maxRecDepth 100000
set_option synthInstance.maxHeartbeats 400000
set_option synthInstance.maxSize 4096
set_option linter.unusedVariables false
set_option linter.unusedSimpArgs false

def cache_New (most0 : Int) : Option (Kept × Int) :=
  bif ((decide (most0 < (1 : Int))) || (decide (most0 > (64 : Int)))) then ((some ((⟨0, []⟩ : Kept) : Kept)).bind fun k_2 => some (k_2, (1 : Int))) else ((some ((⟨most0, []⟩ : Kept) : Kept)).bind fun k_3 => some (k_3, (0 : Int)))
/-- cache.New -/
theorem cache_New_c {A : Nat → Prop} {most0 : Int}  {r : (Kept × Int)} (w : World) (v0 : Value) (hA : ∀ k, w.heap.size ≤ k → A k)  (h0 : (D (most0 : Int)).p A w v0) (H : cache_New most0 = some r) :
    Calls Try.prog 15 #[v0] w (Ret A w (Tup [D (r.1 : Kept), D (r.2 : Int)])) := by
  unfold cache_New at H
  refine enter1 hA Try.func15 rfl Try.ntmps15 rfl h0 ?_
  refine TC.seqS ?_
  refine TS.alloc (α := Kept) rfl fun b2_0 => ?_
  refine TS.s OpY.assign rfl ?_
  refine TS.nil ?_
  refine TE.then ?_
  refine TC.kp [0, 2] [b2_0] ?_
  refine TC.seq ?_
  refine TC.seqS ?_
  refine TS.s OpY.move rfl ?_
  refine TS.s OpY.lss rfl ?_
  refine TS.s OpY.move rfl ?_
  refine TS.g 6 rfl (fun hg => OpY.move) rfl ?_
  refine TS.g 6 rfl (fun hg => OpY.gtr) rfl ?_
  refine TS.s OpY.pickOr rfl ?_
  refine TS.nil ?_
  refine TE.then ?_
  refine TC.kp [0, 2, 9] [b2_0] ?_
  refine TC.cond (fun hc => ?_) (fun hc => ?_)
  · replace H := cT H hc
    refine TC.seqS ?_
    refine TS.s (OpY.buildAs (⟨0, []⟩ : Kept) rfl ⟨_, Try.underlying24, by kernel_rfl⟩ rfl rfl) rfl ?_
    refine TS.un (OpT.storeq (y := ((⟨0, []⟩ : Kept) : Kept)) Pl.one) ?_
    refine TS.s OpY.assign rfl ?_
    refine TS.nil ?_
    refine TE.then ?_
    refine TC.kp [2, 3] [b2_0] ?_
    obtain ⟨k_2, ek_2, H⟩ := bnd H
    refine TC.nmB b2_0 (nm_one ek_2) ?_
    refine TC.ret ?_
    refine TE.then_ret ?_
    obtain rfl := (Option.some.inj H)
    exact TE.retN rfl rfl (.cons Cv.le (.cons Cv.le .nil))
  · replace H := cF H hc
    refine TC.skip ?_
    refine TE.then ?_
    refine TC.kp [0, 2] [b2_0] ?_
    refine TC.seqS ?_
    refine TS.s OpY.move rfl ?_
    refine TS.s (OpY.buildAs (⟨most0, []⟩ : Kept) rfl ⟨_, Try.underlying24, by kernel_rfl⟩ rfl rfl) rfl ?_
    refine TS.un (OpT.storeq (y := ((⟨most0, []⟩ : Kept) : Kept)) Pl.one) ?_
    refine TS.s OpY.assign rfl ?_
    refine TS.nil ?_
    refine TE.then ?_
    refine TC.kp [2, 3] [b2_0] ?_
    obtain ⟨k_3, ek_3, H⟩ := bnd H
    refine TC.nmB b2_0 (nm_one ek_3) ?_
    refine TC.ret ?_
    obtain rfl := (Option.some.inj H)
    exact TE.retN rfl rfl (.cons Cv.le (.cons Cv.le .nil))
def cache_place_1 (x0 : Item) (cap1 : Int) : Option Bool :=
  some (decide (x0.Id = cap1))
/-- cache.place 1 -/
theorem cache_place_1_c {A : Nat → Prop} {x0 : Item} {cap1 : Int}  {r : Bool} (w : World) (v0 v1 : Value) (hA : ∀ k, w.heap.size ≤ k → A k)  (h0 : (D (x0 : Item)).p A w v0) (h1 : (PtrD (cap1 : Int)).p A w v1) (H : cache_place_1 x0 cap1 = some r) :
    Calls Try.prog 49 #[v0, v1] w (Ret A w (D (r : Bool))) := by
  unfold cache_place_1 at H
  refine enter2 hA Try.func49 rfl Try.ntmps49 rfl h0 h1 ?_
  refine TC.seqS ?_
  refine TS.box rfl fun b2_0 => ?_
  refine TS.s OpY.assign rfl ?_
  refine TS.nil ?_
  refine TE.then ?_
  refine TC.kp [1, 2] [b2_0] ?_
  refine TC.seqS ?_
  refine TS.s OpY.fieldAddr rfl ?_
  refine TS.s (OpD.ldq (Pl.fld (off := 0) (α := Item) (β := Int) Pl.one)) rfl ?_
  refine TS.s OpY.load rfl ?_
  refine TS.s OpY.eql rfl ?_
  refine TS.s OpY.assign rfl ?_
  refine TS.nil ?_
  refine TE.then ?_
  refine TC.kp [3] [] ?_
  refine TC.ret ?_
  obtain rfl := (Option.some.inj H)
  exact TE.ret1 rfl Cv.le
def slices_IndexFunc_api_Item_l1 (s0 : (List Item)) (f0 : (F1 Try.prog Item Bool)) (x_2 : Int) : Option (Int ⊕ (Unit ⊕ Int)) :=
  bif (decide (x_2 < (s0.length : Int))) then ((idx s0 x_2).bind fun x_4 => ((f0).f x_4).bind fun x_5 => bif x_5 then (some (.inr (.inr x_2))) else ((addI x_2 (1 : Int)).bind fun x_7 => some (.inl x_7))) else (some (.inr (.inl ())))
def slices_IndexFunc_api_Item (s0 : (List Item)) (f0 : (F1 Try.prog Item Bool)) : Option Int :=
  (loopO (fun s => slices_IndexFunc_api_Item_l1 s0 f0 s) (0 : Int)).bind fun o_1 => elS o_1 (fun _ => some (-1 : Int)) (fun q => some q)
/-- slices.IndexFunc   api.Item api.Item  -/
theorem slices_IndexFunc_api_Item_c {A : Nat → Prop} {s0 : (List Item)} {f0 : (F1 Try.prog Item Bool)}  {r : Int} (w : World) (v0 v1 : Value) (hA : ∀ k, w.heap.size ≤ k → A k)  (h0 : (D (s0 : (List Item))).p A w v0) (h1 : (D (f0 : (F1 Try.prog Item Bool))).p A w v1) (H : slices_IndexFunc_api_Item s0 f0 = some r) :
    Calls Try.prog 48 #[v0, v1] w (Ret A w (D (r : Int))) := by
  unfold slices_IndexFunc_api_Item at H
  refine enter2 hA Try.func48 rfl Try.ntmps48 rfl h0 h1 ?_
  refine TC.seqS ?_
  refine TS.s OpY.assign rfl ?_
  refine TS.nil ?_
  refine TE.then ?_
  refine TC.kp [0, 1] [] ?_
  refine TC.seq ?_
  refine TC.seqS ?_
  refine TS.s OpY.move rfl ?_
  refine TS.s OpD.len rfl ?_
  refine TS.s OpY.move rfl ?_
  refine TS.nil ?_
  refine TE.then ?_
  refine TC.kp [0, 1, 7, 8] [] ?_
  obtain ⟨o_1, H1, H⟩ := bnd H
  refine TC.cutP (fun s : Unit => o_1 = .inl s) (fun (_ : Unit) (_ : Unit) => Env.nil) (fun (_ : Unit) (_ : Unit) => []) ?_ ?_
  · skip
    refine TC.block ?_
    refine TC.loopP H1 (fun (x_2 : Int) (_ : Unit) => (Env.set (Env.set (Env.set (Env.set Env.nil 0 (D (s0 : (List Item)))) 1 (D (f0 : (F1 Try.prog Item Bool)))) 7 (D ((s0.length : Int) : Int))) 8 (D (x_2 : Int)))) (fun (x_2 : Int) (_ : Unit) => []) () (Env.cv (Env.cv (Env.cv (Env.cv (Env.le_nil _))))) (Less.nil _) ?_
    rintro x_2 ⟨⟩ x_3 H3 he3
    replace H3 : slices_IndexFunc_api_Item_l1 s0 f0 x_2 = some x_3 := H3
    unfold slices_IndexFunc_api_Item_l1 at H3
    refine TC.seqS ?_
    refine TS.s OpY.lss rfl ?_
    refine TS.nil ?_
    refine TE.then ?_
    refine TC.kp [0, 1, 7, 8, 9] [] ?_
    refine TC.seq ?_
    refine TC.cond (fun hc => ?_) (fun hc => ?_)
    · replace H3 := cT H3 hc
      refine TC.skip ?_
      refine TE.then ?_
      refine TC.kp [0, 1, 7, 8] [] ?_
      refine TC.seq ?_
      refine TC.block ?_
      refine TC.seqS ?_
      refine TS.s OpY.move rfl ?_
      refine TS.s OpY.assign rfl ?_
      refine TS.nil ?_
      refine TE.then ?_
      refine TC.kp [0, 1, 5, 7, 8] [] ?_
      refine TC.seqS ?_
      refine TS.s OpY.move rfl ?_
      refine TS.s OpY.move rfl ?_
      refine TS.s OpY.move rfl ?_
      obtain ⟨x_4, ex_4, H3⟩ := bnd H3
      refine TS.s (OpD.index ex_4) rfl ?_
      refine TS.s OpY.load rfl ?_
      obtain ⟨x_5, ex_5, H3⟩ := bnd H3
      refine TS.s (OpY.callV1 ex_5) rfl ?_
      refine TS.nil ?_
      refine TE.then ?_
      refine TC.kp [0, 1, 5, 7, 8, 16] [] ?_
      refine TC.cond (fun hc => ?_) (fun hc => ?_)
      · replace H3 := cT H3 hc
        refine TC.seqS ?_
        refine TS.s OpY.move rfl ?_
        refine TS.s OpY.assign rfl ?_
        refine TS.nil ?_
        refine TE.then ?_
        refine TC.kp [4] [] ?_
        refine TC.ret ?_
        refine TE.inBlock_ret ?_
        refine TE.then_ret ?_
        refine TE.then_ret ?_
        refine TE.inBlock_ret ?_
        refine TE.cut_ret ?_
        have R5 := elS_r (he3 _ (Option.some.inj H3).symm) H
        refine TE.then_ret ?_
        obtain rfl := (Option.some.inj R5)
        exact TE.ret1 rfl Cv.le
      · replace H3 := cF H3 hc
        refine TC.skip ?_
        refine TE.inBlock_normal ?_
        refine TE.then ?_
        refine TC.kp [0, 1, 7, 8] [] ?_
        refine TC.regionS ?_
        obtain ⟨x_7, ex_7, H3⟩ := bnd H3
        refine TS.s (OpD.add ex_7) rfl ?_
        refine TS.s OpY.move rfl ?_
        refine TS.nil ?_
        refine TE.kp [0, 1, 7, 8] [] ?_
        exact TE.backP x_7 () (Option.some.inj H3).symm (Env.cv (Env.cv (Env.cv (Env.cv (Env.le_nil _))))) (Less.nil _)
    · replace H3 := cF H3 hc
      refine TC.exit ?_
      refine TE.then_exit ?_
      refine TE.then_exit ?_
      refine TE.inBlock_here ?_
      exact TE.cutP () () (he3 _ (Option.some.inj H3).symm).symm (Env.le_nil _) (Less.nil _)
  rintro ⟨⟩ ⟨⟩ hp
  replace H := elS_l hp H
  refine TE.then ?_
  refine TC.kp [] [] ?_
  refine TC.seqS ?_
  refine TS.s OpY.assign rfl ?_
  refine TS.nil ?_
  refine TE.then ?_
  refine TC.kp [4] [] ?_
  refine TC.ret ?_
  obtain rfl := (Option.some.inj H)
  exact TE.ret1 rfl Cv.le
def cache_place (l0 : (List Item)) (id0 : Int) : Option Int :=
  (slices_IndexFunc_api_Item l0 (⟨fun x0 => cache_place_1 x0 id0⟩ : (F1 Try.prog Item Bool))).bind fun x_2 => some x_2
/-- cache.place -/
theorem cache_place_c {A : Nat → Prop} {l0 : (List Item)} {id0 : Int}  {r : Int} (w : World) (v0 v1 : Value) (hA : ∀ k, w.heap.size ≤ k → A k)  (h0 : (D (l0 : (List Item))).p A w v0) (h1 : (D (id0 : Int)).p A w v1) (H : cache_place l0 id0 = some r) :
    Calls Try.prog 34 #[v0, v1] w (Ret A w (D (r : Int))) := by
  unfold cache_place at H
  refine enter2 hA Try.func34 rfl Try.ntmps34 rfl h0 h1 ?_
  refine TC.seqS ?_
  refine TS.box rfl fun b3_0 => ?_
  refine TS.s OpY.assign rfl ?_
  refine TS.nil ?_
  refine TE.then ?_
  refine TC.kp [0, 3] [b3_0] ?_
  refine TC.seqS ?_
  refine TS.s OpY.move rfl ?_
  refine TS.pub b3_0 (PubE.set 3 (PubC.pq Pl.one) PubE.refl) ?_
  refine TS.s (OpY.mk1_1 fun w v0 v1 hA h0 h1 e => cache_place_1_c w v0 v1 hA h0 h1 e) rfl ?_
  obtain ⟨x_2, ex_2, H⟩ := bnd H
  refine TS.s (OpY.call2 fun w v0 v1 hA h0 h1 => slices_IndexFunc_api_Item_c w v0 v1 hA (toD h0) (toD h1) ex_2) rfl ?_
  refine TS.s OpY.assign rfl ?_
  refine TS.nil ?_
  refine TE.then ?_
  refine TC.kp [4] [] ?_
  refine TC.ret ?_
  obtain rfl := (Option.some.inj H)
  exact TE.ret1 rfl Cv.le
def cache_Right_l1 (k0 : Kept) (x_3 : Int) : Option (Int ⊕ (Unit ⊕ Bool)) :=
  bif (decide (x_3 < (k0.Items.length : Int))) then ((idx k0.Items x_3).bind fun x_5 => (gb (!(decide (x_5.Id < (0 : Int)))) (cache_place k0.Items x_5.Id)).bind fun x_7 => bif ((decide (x_5.Id < (0 : Int))) || (decide (x_7 ≠ x_3))) then (some (.inr (.inr false))) else ((addI x_3 (1 : Int)).bind fun x_9 => some (.inl x_9))) else (some (.inr (.inl ())))
def cache_Right (k0 : Kept) : Option Bool :=
  bif (((decide (k0.Most < (1 : Int))) || (decide (k0.Most > (64 : Int)))) || (decide ((k0.Items.length : Int) > k0.Most))) then (some false) else ((loopO (fun s => cache_Right_l1 k0 s) (0 : Int)).bind fun o_2 => elS o_2 (fun _ => some true) (fun q => some q))
/-- cache.Right -/
theorem cache_Right_c {A : Nat → Prop} {k0 : Kept}  {r : Bool} (w : World) (v0 : Value) (hA : ∀ k, w.heap.size ≤ k → A k)  (h0 : (D (k0 : Kept)).p A w v0) (H : cache_Right k0 = some r) :
    Calls Try.prog 16 #[v0] w (Ret A w (D (r : Bool))) := by
  unfold cache_Right at H
  refine enter1 hA Try.func16 rfl Try.ntmps16 rfl h0 ?_
  refine TC.seqS ?_
  refine TS.box rfl fun b1_0 => ?_
  refine TS.s OpY.assign rfl ?_
  refine TS.nil ?_
  refine TE.then ?_
  refine TC.kp [1] [b1_0] ?_
  refine TC.seq ?_
  refine TC.seqS ?_
  refine TS.s OpY.fieldAddr rfl ?_
  refine TS.s (OpD.ldq (Pl.fld (off := 0) (α := Kept) (β := Int) Pl.one)) rfl ?_
  refine TS.s OpY.lss rfl ?_
  refine TS.s OpY.move rfl ?_
  refine TS.g 8 rfl (fun hg => OpY.fieldAddr) rfl ?_
  refine TS.g 8 rfl (fun hg => (OpD.ldq (Pl.fld (off := 0) (α := Kept) (β := Int) Pl.one))) rfl ?_
  refine TS.g 8 rfl (fun hg => OpY.gtr) rfl ?_
  refine TS.s OpY.pickOr rfl ?_
  refine TS.s OpY.move rfl ?_
  refine TS.g 13 rfl (fun hg => OpY.fieldAddr) rfl ?_
  refine TS.g 13 rfl (fun hg => (OpD.ldq (Pl.fld (off := 1) (α := Kept) (β := (List Item)) Pl.one))) rfl ?_
  refine TS.g 13 rfl (fun hg => OpD.len) rfl ?_
  refine TS.g 13 rfl (fun hg => OpY.fieldAddr) rfl ?_
  refine TS.g 13 rfl (fun hg => (OpD.ldq (Pl.fld (off := 0) (α := Kept) (β := Int) Pl.one))) rfl ?_
  refine TS.g 13 rfl (fun hg => OpY.gtr) rfl ?_
  refine TS.s OpY.pickOr rfl ?_
  refine TS.nil ?_
  refine TE.then ?_
  refine TC.kp [1, 20] [b1_0] ?_
  refine TC.cond (fun hc => ?_) (fun hc => ?_)
  · replace H := cT H hc
    refine TC.seqS ?_
    refine TS.s OpY.assign rfl ?_
    refine TS.nil ?_
    refine TE.then ?_
    refine TC.kp [2] [] ?_
    refine TC.ret ?_
    refine TE.then_ret ?_
    obtain rfl := (Option.some.inj H)
    exact TE.ret1 rfl Cv.le
  · replace H := cF H hc
    refine TC.skip ?_
    refine TE.then ?_
    refine TC.kp [1] [b1_0] ?_
    refine TC.seq ?_
    refine TC.seqS ?_
    refine TS.s OpY.fieldAddr rfl ?_
    refine TS.s (OpD.ldq (Pl.fld (off := 1) (α := Kept) (β := (List Item)) Pl.one)) rfl ?_
    refine TS.s OpD.len rfl ?_
    refine TS.s OpY.move rfl ?_
    refine TS.nil ?_
    refine TE.then ?_
    refine TC.kp [1, 22, 23, 24] [b1_0] ?_
    obtain ⟨o_2, H2, H⟩ := bnd H
    refine TC.cutP (fun s : Unit => o_2 = .inl s) (fun (_ : Unit) (_ : Unit) => Env.nil) (fun (_ : Unit) (_ : Unit) => []) ?_ ?_
    · skip
      refine TC.block ?_
      refine TC.loopP H2 (fun (x_3 : Int) (_ : Unit) => (Env.set (Env.set (Env.set (Env.set Env.nil 1 (Pt b1_0 0)) 22 (D (k0.Items : (List Item)))) 23 (D ((k0.Items.length : Int) : Int))) 24 (D (x_3 : Int)))) (fun (x_3 : Int) (_ : Unit) => [⟨b1_0, True, (One (k0 : Kept))⟩]) () (Env.cv (Env.cv (Env.cv (Env.cv (Env.le_nil _))))) (Less.pk rfl (Less.nil _)) ?_
      rintro x_3 ⟨⟩ x_4 H4 he4
      replace H4 : cache_Right_l1 k0 x_3 = some x_4 := H4
      unfold cache_Right_l1 at H4
      refine TC.seqS ?_
      refine TS.s OpY.lss rfl ?_
      refine TS.nil ?_
      refine TE.then ?_
      refine TC.kp [1, 22, 23, 24, 25] [b1_0] ?_
      refine TC.seq ?_
      refine TC.cond (fun hc => ?_) (fun hc => ?_)
      · replace H4 := cT H4 hc
        refine TC.skip ?_
        refine TE.then ?_
        refine TC.kp [1, 22, 23, 24] [b1_0] ?_
        refine TC.seq ?_
        refine TC.block ?_
        refine TC.seqS ?_
        refine TS.s OpY.move rfl ?_
        obtain ⟨x_5, ex_5, H4⟩ := bnd H4
        refine TS.s (OpD.index ex_5) rfl ?_
        refine TS.s OpY.load rfl ?_
        refine TS.alloc (α := Item) rfl fun b4_5 => ?_
        refine TS.s OpY.assign rfl ?_
        refine TS.un (OpT.storeq (y := (x_5 : Item)) Pl.one) ?_
        refine TS.nil ?_
        refine TE.then ?_
        refine TC.kp [1, 3, 4, 22, 23, 24] [b1_0, b4_5] ?_
        refine TC.seqS ?_
        refine TS.s OpY.fieldAddr rfl ?_
        refine TS.s (OpD.ldq (Pl.fld (off := 0) (α := Item) (β := Int) Pl.one)) rfl ?_
        refine TS.s OpY.lss rfl ?_
        refine TS.s OpY.move rfl ?_
        refine TS.g 32 rfl (fun hg => OpY.fieldAddr) rfl ?_
        refine TS.g 32 rfl (fun hg => (OpD.ldq (Pl.fld (off := 1) (α := Kept) (β := (List Item)) Pl.one))) rfl ?_
        refine TS.g 32 rfl (fun hg => OpY.fieldAddr) rfl ?_
        refine TS.g 32 rfl (fun hg => (OpD.ldq (Pl.fld (off := 0) (α := Item) (β := Int) Pl.one))) rfl ?_
        obtain ⟨x_7, ex_7, H4⟩ := bnd H4
        refine TS.g 32 rfl (fun hg => (OpY.call2 fun w v0 v1 hA h0 h1 => cache_place_c w v0 v1 hA (toD h0) (toD h1) (gb_some ex_7 (nF hg.h)))) rfl ?_
        refine TS.g 32 rfl (fun hg => OpY.move) rfl ?_
        refine TS.g 32 rfl (fun hg => OpY.neq) rfl ?_
        refine TS.s OpY.pickOr rfl ?_
        refine TS.nil ?_
        refine TE.then ?_
        refine TC.kp [1, 22, 23, 24, 40] [b1_0] ?_
        refine TC.cond (fun hc => ?_) (fun hc => ?_)
        · replace H4 := cT H4 hc
          refine TC.seqS ?_
          refine TS.s OpY.assign rfl ?_
          refine TS.nil ?_
          refine TE.then ?_
          refine TC.kp [2] [] ?_
          refine TC.ret ?_
          refine TE.inBlock_ret ?_
          refine TE.then_ret ?_
          refine TE.then_ret ?_
          refine TE.inBlock_ret ?_
          refine TE.cut_ret ?_
          have R7 := elS_r (he4 _ (Option.some.inj H4).symm) H
          refine TE.then_ret ?_
          obtain rfl := (Option.some.inj R7)
          exact TE.ret1 rfl Cv.le
        · replace H4 := cF H4 hc
          refine TC.skip ?_
          refine TE.inBlock_normal ?_
          refine TE.then ?_
          refine TC.kp [1, 22, 23, 24] [b1_0] ?_
          refine TC.regionS ?_
          obtain ⟨x_9, ex_9, H4⟩ := bnd H4
          refine TS.s (OpD.add ex_9) rfl ?_
          refine TS.s OpY.move rfl ?_
          refine TS.nil ?_
          refine TE.kp [1, 22, 23, 24] [b1_0] ?_
          exact TE.backP x_9 () (Option.some.inj H4).symm (Env.cv (Env.cv (Env.cv (Env.cv (Env.le_nil _))))) (Less.pk rfl (Less.nil _))
      · replace H4 := cF H4 hc
        refine TC.exit ?_
        refine TE.then_exit ?_
        refine TE.then_exit ?_
        refine TE.inBlock_here ?_
        exact TE.cutP () () (he4 _ (Option.some.inj H4).symm).symm (Env.le_nil _) (Less.nil _)
    rintro ⟨⟩ ⟨⟩ hp
    replace H := elS_l hp H
    refine TE.then ?_
    refine TC.kp [] [] ?_
    refine TC.seqS ?_
    refine TS.s OpY.assign rfl ?_
    refine TS.nil ?_
    refine TE.then ?_
    refine TC.kp [2] [] ?_
    refine TC.ret ?_
    obtain rfl := (Option.some.inj H)
    exact TE.ret1 rfl Cv.le
def slices_Clone_api_Item (s0 : (List Item)) : Option (List Item) :=
  (room 32 ((0 + s0.length : Nat) : Int)).bind fun _ => some s0
/-- slices.Clone   api.Item api.Item  -/
theorem slices_Clone_api_Item_o {A : Nat → Prop} {s0 : (List Item)}  {r : (List Item)} (w : World) (v0 : Value) (hA : ∀ k, w.heap.size ≤ k → A k) (hO : OwnIn A []) (hap : Apart []) (hks : Pks (Pub A []) [] w) (h0 : (D (s0 : (List Item))).p (Pub A []) w v0) (H : slices_Clone_api_Item s0 = some r) :
    Calls Try.prog 47 #[v0] w (RetO A w [] (fun g : Nat × Prop × Nat => Sl g.1 g.2.1 0 (List.length r) g.2.2) fun g => [⟨g.1, g.2.1, Row (r : List Item) g.2.2⟩]) := by
  unfold slices_Clone_api_Item at H
  refine enterO1 hA hap hks Try.func47 rfl Try.ntmps47 rfl h0 ?_
  obtain ⟨u, eu, H⟩ := bnd H
  obtain rfl := Option.some.inj H
  refine TC.seqS ?_
  refine TS.s OpY.assign rfl ?_
  refine TS.nil ?_
  refine TE.then ?_
  refine TC.kp [0] [] ?_
  refine TC.seq ?_
  refine TC.seqS ?_
  refine TS.s OpY.move rfl ?_
  refine TS.s OpY.eql_slice rfl ?_
  refine TS.nil ?_
  refine TE.then ?_
  refine TC.condE (fun hc => ?_) (fun hc => ?_)
  · obtain rfl := hc rfl
    refine TC.seqS ?_
    refine TS.s OpY.assign rfl ?_
    refine TS.nil ?_
    refine TE.then ?_
    refine TC.kp [2] [] ?_
    refine TC.ret ?_
    refine TE.then_ret ?_
    exact TE.retO1 rfl ⟨0, False, 0⟩ NilS.sl0 (Less.nilRow (Less.nil _))
  · refine TC.skip ?_
    refine TE.then ?_
    refine TC.kp [0] [] ?_
    refine TC.seqS ?_
    refine TS.build [] rfl rfl (by decide) rfl fun b => ?_
    refine TS.s OpY.move rfl ?_
    refine TS.app (ys := s0) inferInstance eu rfl rfl rfl fun b1 p1 c1 => ?_
    refine TS.s OpY.assign rfl ?_
    refine TS.nil ?_
    refine TE.then ?_
    refine TC.kp [2] [b1] ?_
    refine TC.ret ?_
    exact TE.retO1 rfl ⟨b1, p1, c1⟩ (Sl_le (by simp)) (Less.pk rfl (Less.nil _))
theorem slices_Clone_api_Item_c {A : Nat → Prop} {s0 : (List Item)} {r : (List Item)} (w : World) (v0 : Value) (hA : ∀ k, w.heap.size ≤ k → A k) (h0 : (D (s0 : (List Item))).p A w v0) (H : slices_Clone_api_Item s0 = some r) :
    Calls Try.prog 47 #[v0] w (Ret A w (D r)) := (slices_Clone_api_Item_o w v0 hA ⟨fun k ⟨e, he, _⟩ => absurd he (by simp)⟩ List.Pairwise.nil (fun e he => absurd he (by simp)) (Ty.enter h0) H).mono fun e w' h => RetO.pub1 hA h
def bytes_Clone (b0 : (List UInt8)) : Option (List UInt8) :=
  (room 1 ((0 + b0.length : Nat) : Int)).bind fun _ => some b0
/-- bytes.Clone -/
theorem bytes_Clone_o {A : Nat → Prop} {b0 : (List UInt8)}  {r : (List UInt8)} (w : World) (v0 : Value) (hA : ∀ k, w.heap.size ≤ k → A k) (hO : OwnIn A []) (hap : Apart []) (hks : Pks (Pub A []) [] w) (h0 : (D (b0 : (List UInt8))).p (Pub A []) w v0) (H : bytes_Clone b0 = some r) :
    Calls Try.prog 36 #[v0] w (RetO A w [] (fun g : Nat × Prop × Nat => Sl g.1 g.2.1 0 (List.length r) g.2.2) fun g => [⟨g.1, g.2.1, Row (r : List UInt8) g.2.2⟩]) := by
  unfold bytes_Clone at H
  refine enterO1 hA hap hks Try.func36 rfl Try.ntmps36 rfl h0 ?_
  obtain ⟨u, eu, H⟩ := bnd H
  obtain rfl := Option.some.inj H
  refine TC.seqS ?_
  refine TS.s OpY.assign rfl ?_
  refine TS.nil ?_
  refine TE.then ?_
  refine TC.kp [0] [] ?_
  refine TC.seq ?_
  refine TC.seqS ?_
  refine TS.s OpY.move rfl ?_
  refine TS.s OpY.eql_slice rfl ?_
  refine TS.nil ?_
  refine TE.then ?_
  refine TC.condE (fun hc => ?_) (fun hc => ?_)
  · obtain rfl := hc rfl
    refine TC.seqS ?_
    refine TS.s OpY.assign rfl ?_
    refine TS.nil ?_
    refine TE.then ?_
    refine TC.kp [2] [] ?_
    refine TC.ret ?_
    refine TE.then_ret ?_
    exact TE.retO1 rfl ⟨0, False, 0⟩ NilS.sl0 (Less.nilRow (Less.nil _))
  · refine TC.skip ?_
    refine TE.then ?_
    refine TC.kp [0] [] ?_
    refine TC.seqS ?_
    refine TS.build [] rfl rfl (by decide) rfl fun b => ?_
    refine TS.s OpY.move rfl ?_
    refine TS.app (ys := b0) inferInstance eu rfl rfl rfl fun b1 p1 c1 => ?_
    refine TS.s OpY.assign rfl ?_
    refine TS.nil ?_
    refine TE.then ?_
    refine TC.kp [2] [b1] ?_
    refine TC.ret ?_
    exact TE.retO1 rfl ⟨b1, p1, c1⟩ (Sl_le (by simp)) (Less.pk rfl (Less.nil _))
theorem bytes_Clone_c {A : Nat → Prop} {b0 : (List UInt8)} {r : (List UInt8)} (w : World) (v0 : Value) (hA : ∀ k, w.heap.size ≤ k → A k) (h0 : (D (b0 : (List UInt8))).p A w v0) (H : bytes_Clone b0 = some r) :
    Calls Try.prog 36 #[v0] w (Ret A w (D r)) := (bytes_Clone_o w v0 hA ⟨fun k ⟨e, he, _⟩ => absurd he (by simp)⟩ List.Pairwise.nil (fun e he => absurd he (by simp)) (Ty.enter h0) H).mono fun e w' h => RetO.pub1 hA h
def cache_copied_l1 (x_3 : (List Item)) (x_7 : Int) (l_8 : (List Item)) : Option ((Int × (List Item)) ⊕ (List Item)) :=
  bif (decide (x_7 < (x_3.length : Int))) then ((idx l_8 x_7).bind fun x_10 => (bytes_Clone x_10.Body).bind fun x_11 => (idx l_8 x_7).bind fun x_12 => (some ((l_8.set (Int.toNat x_7) (⟨x_12.Id, x_11⟩ : Item)) : (List Item))).bind fun l_13 => (addI x_7 (1 : Int)).bind fun x_14 => some (.inl (x_14, l_13))) else (some (.inr l_8))
def cache_copied (k0 : Kept) : Option Kept :=
  (slices_Clone_api_Item k0.Items).bind fun x_3 => (loopO (fun s => cache_copied_l1 x_3 s.1 s.2) ((0 : Int), x_3)).bind fun l_5 => (some ((⟨k0.Most, []⟩ : Kept) : Kept)).bind fun k_15 => some (⟨k_15.Most, l_5⟩ : Kept)
/-- cache.copied -/
theorem cache_copied_o {A : Nat → Prop} {k0 : Kept}  {r : Kept} (w : World) (v0 : Value) (hA : ∀ k, w.heap.size ≤ k → A k) (hO : OwnIn A []) (hap : Apart []) (hks : Pks (Pub A []) [] w) (h0 : (D (k0 : Kept)).p (Pub A []) w v0) (H : cache_copied k0 = some r) :
    Calls Try.prog 33 #[v0] w (RetO A w [] (fun g : Nat × Prop × Nat => VC (Ct.mix (One ((⟨r.Most, []⟩ : Kept) : Kept)) 1 (Sl g.1 g.2.1 0 (List.length r.Items) g.2.2))) fun g => [⟨g.1, g.2.1, Row (r.Items : List Item) g.2.2⟩]) := by
  unfold cache_copied at H
  refine enterO1 hA hap hks Try.func33 rfl Try.ntmps33 rfl h0 ?_
  refine TC.seqS ?_
  refine TS.box rfl fun b1_0 => ?_
  refine TS.alloc (α := Kept) rfl fun b2_1 => ?_
  refine TS.nil ?_
  refine TE.then ?_
  refine TC.kp [1, 2] [b1_0, b2_1] ?_
  refine TC.seqS ?_
  refine TS.s OpY.fieldAddr rfl ?_
  refine TS.s (OpD.ldq (Pl.fld (off := 1) (α := Kept) (β := (List Item)) Pl.one)) rfl ?_
  obtain ⟨x_3, ex_3, H⟩ := bnd H
  refine TS.t (OpT.callO1 [] fun w v0 hA hO hap hks h0 => slices_Clone_api_Item_o w v0 hA hO hap hks (toD h0) ex_3) rfl fun ⟨b7_3, p7_3, c7_3⟩ => ?_
  dsimp only [List.cons_append, List.nil_append]
  refine TS.s OpY.assign rfl ?_
  refine TS.nil ?_
  refine TE.then ?_
  refine TC.kp [1, 2, 3] [b1_0, b2_1, b7_3] ?_
  refine TC.seq ?_
  refine TC.seqS ?_
  refine TS.s OpY.move rfl ?_
  refine TS.s (OpD.lenSv (n := x_3.length) rfl) rfl ?_
  refine TS.s OpY.move rfl ?_
  refine TS.nil ?_
  refine TE.then ?_
  refine TC.kp [1, 2, 3, 9, 10] [b1_0, b2_1, b7_3] ?_
  obtain ⟨o_6, H6, H⟩ := bnd H
  refine TC.cutP (fun s : (List Item) => o_6 = s) (fun (l_5 : (List Item)) (_ : Unit) => (Env.set (Env.set (Env.set Env.nil 1 (Pt b1_0 0)) 2 (Pt b2_1 0)) 3 (Sl b7_3 p7_3 0 l_5.length c7_3))) (fun (l_5 : (List Item)) (_ : Unit) => [⟨b7_3, p7_3, (Row (l_5 : List Item) c7_3)⟩, ⟨b1_0, True, (One (k0 : Kept))⟩, ⟨b2_1, True, (One (Dat.z : Kept))⟩]) ?_ ?_
  · skip
    refine TC.block ?_
    refine TC.loopP H6 (fun ⟨x_7, l_8⟩ (_ : Unit) => (Env.set (Env.set (Env.set (Env.set (Env.set Env.nil 1 (Pt b1_0 0)) 2 (Pt b2_1 0)) 3 (Sl b7_3 p7_3 0 l_8.length c7_3)) 9 (D ((x_3.length : Int) : Int))) 10 (D (x_7 : Int)))) (fun ⟨x_7, l_8⟩ (_ : Unit) => [⟨b7_3, p7_3, (Row (l_8 : List Item) c7_3)⟩, ⟨b1_0, True, (One (k0 : Kept))⟩, ⟨b2_1, True, (One (Dat.z : Kept))⟩]) () (Env.cv (Env.cv (Env.cvBy (Sl_le rfl) (Env.cv (Env.cv (Env.le_nil _)))))) (Less.pk rfl (Less.pk rfl (Less.pk rfl (Less.nil _)))) ?_
    rintro ⟨x_7, l_8⟩ ⟨⟩ x_9 H9 he9
    replace H9 : cache_copied_l1 x_3 x_7 l_8 = some x_9 := H9
    unfold cache_copied_l1 at H9
    refine TC.seqS ?_
    refine TS.s OpY.lss rfl ?_
    refine TS.nil ?_
    refine TE.then ?_
    refine TC.kp [1, 2, 3, 9, 10, 11] [b1_0, b2_1, b7_3] ?_
    refine TC.seq ?_
    refine TC.cond (fun hc => ?_) (fun hc => ?_)
    · replace H9 := cT H9 hc
      refine TC.skip ?_
      refine TE.then ?_
      refine TC.kp [1, 2, 3, 9, 10] [b1_0, b2_1, b7_3] ?_
      refine TC.seq ?_
      refine TC.block ?_
      refine TC.seqS ?_
      refine TS.s OpY.move rfl ?_
      refine TS.s OpY.assign rfl ?_
      refine TS.nil ?_
      refine TE.then ?_
      refine TC.kp [1, 2, 3, 4, 9, 10] [b1_0, b2_1, b7_3] ?_
      refine TC.regionS ?_
      refine TS.s OpY.move rfl ?_
      refine TS.s OpY.move rfl ?_
      refine TS.s OpY.move rfl ?_
      refine TS.s OpY.move rfl ?_
      obtain ⟨x_10, ex_10, H9⟩ := bnd H9
      refine TS.s (OpD.indexq (idx_in ex_10 rfl)) rfl ?_
      refine TS.s OpY.fieldAddr rfl ?_
      refine TS.s (OpD.ldq (Pl.fld (off := 1) (α := Item) (β := (List UInt8)) (Pl.rowz ex_10))) rfl ?_
      obtain ⟨x_11, ex_11, H9⟩ := bnd H9
      refine TS.s (OpY.call1 fun w v0 hA h0 => bytes_Clone_c w v0 hA (toD h0) ex_11) rfl ?_
      obtain ⟨x_12, ex_12, H9⟩ := bnd H9
      refine TS.s (OpD.indexq (idx_in ex_12 rfl)) rfl ?_
      refine TS.s OpY.fieldAddr rfl ?_
      refine TS.un (OpT.storeq (y := (x_11 : (List UInt8))) (Pl.fld (off := 1) (α := Item) (β := (List UInt8)) (Pl.rowz ex_12))) ?_
      refine TS.nil ?_
      refine TE.kp [1, 2, 3, 9, 10] [b1_0, b2_1, b7_3] ?_
      obtain ⟨l_13, el_13, H9⟩ := bnd H9
      refine TE.nmB b7_3 (nm_row el_13) ?_
      refine TE.see 3 _ (nm_sl2 el_13 (by simp)) ?_
      refine TE.inBlock_normal ?_
      refine TE.then ?_
      refine TC.kp [1, 2, 3, 9, 10] [b1_0, b2_1, b7_3] ?_
      refine TC.regionS ?_
      obtain ⟨x_14, ex_14, H9⟩ := bnd H9
      refine TS.s (OpD.add ex_14) rfl ?_
      refine TS.s OpY.move rfl ?_
      refine TS.nil ?_
      refine TE.kp [1, 2, 3, 9, 10] [b1_0, b2_1, b7_3] ?_
      exact TE.backP ⟨x_14, l_13⟩ () (Option.some.inj H9).symm (Env.cv (Env.cv (Env.cvBy (Sl_le rfl) (Env.cv (Env.cv (Env.le_nil _)))))) (Less.pk rfl (Less.pk rfl (Less.pk rfl (Less.nil _))))
    · replace H9 := cF H9 hc
      refine TC.exit ?_
      refine TE.then_exit ?_
      refine TE.then_exit ?_
      refine TE.inBlock_here ?_
      exact TE.cutP l_8 () (he9 _ (Option.some.inj H9).symm).symm (Env.cvBy (Sl_le rfl) (Env.cv (Env.cv (Env.le_nil _)))) (Less.pk rfl (Less.pk rfl (Less.pk rfl (Less.nil _))))
  rintro l_5 ⟨⟩ hp
  replace hp := hp.symm
  subst hp
  refine TE.then ?_
  refine TC.kp [1, 2, 3] [b1_0, b2_1, b7_3] ?_
  refine TC.seqS ?_
  refine TS.s OpY.fieldAddr rfl ?_
  refine TS.s (OpD.ldq (Pl.fld (off := 0) (α := Kept) (β := Int) Pl.one)) rfl ?_
  refine TS.s OpY.move rfl ?_
  refine TS.s (OpY.buildC (ps := _) rfl ⟨_, Try.underlying24, by kernel_rfl⟩ ((PartsC.d ((Pl.fld (off := 0) (α := Kept) (β := Int) Pl.one).st _) (PartsC.hd (CtH.new (by decide)) inferInstance)))) rfl ?_
  refine TS.un (OpT.storeC trivial rfl CtSc.h) ?_
  refine TS.nil ?_
  refine TE.then ?_
  refine TC.kp [2] [b2_1, b7_3] ?_
  obtain ⟨k_15, ek_15, H⟩ := bnd H
  refine TC.nmB b2_1 (nm_mix (nm_one ek_15)) ?_
  refine TC.ret ?_
  obtain rfl := (Option.some.inj H)
  exact TE.retO1 rfl ⟨b7_3, p7_3, c7_3⟩ (VC_le (mix_nil (α := Item) (by have h := ((Pl.fld (off := 1) (α := Kept) (β := (List Item)) (Pl.one (α := Kept) (i := Kept_dat) (x := k_15)))).st ([] : (List Item)); exact h) rfl)) (Less.pk rfl (Less.nil _))
def slices_Delete_api_Item (s0 : (List Item)) (i0 : Int) (j0 : Int) : Option (List Item) :=
  (cut s0.length i0 j0).bind fun _ => some (s0.take (Int.toNat i0) ++ s0.drop (Int.toNat j0))
/-- slices.Delete   api.Item api.Item  -/
theorem slices_Delete_api_Item_o {A : Nat → Prop} {s0 : (List Item)} {i0 : Int} {j0 : Int} {b0 c0 : Nat} {p0 : Prop} {r : (List Item)} (w : World) (v0 v1 v2 : Value) (hA : ∀ k, w.heap.size ≤ k → A k) (hO : OwnIn A [⟨b0, p0, Row (s0 : List Item) c0⟩]) (hap : Apart [⟨b0, p0, Row (s0 : List Item) c0⟩]) (hks : Pks (Pub A [⟨b0, p0, Row (s0 : List Item) c0⟩]) [⟨b0, p0, Row (s0 : List Item) c0⟩] w) (h0 : (Sl b0 p0 0 s0.length c0).p (Pub A [⟨b0, p0, Row (s0 : List Item) c0⟩]) w v0) (h1 : (D (i0 : Int)).p (Pub A [⟨b0, p0, Row (s0 : List Item) c0⟩]) w v1) (h2 : (D (j0 : Int)).p (Pub A [⟨b0, p0, Row (s0 : List Item) c0⟩]) w v2) (H : slices_Delete_api_Item s0 i0 j0 = some r) :
    Calls Try.prog 35 #[v0, v1, v2] w (RetO A w [⟨b0, p0, Row (s0 : List Item) c0⟩] (fun g : Nat × Prop × Nat => Sl g.1 g.2.1 0 (List.length r) g.2.2) fun g => [⟨g.1, g.2.1, Row (r : List Item) g.2.2⟩]) := by
  unfold slices_Delete_api_Item at H
  refine enterO3 hA hap hks Try.func35 rfl Try.ntmps35 rfl h0 h1 h2 ?_
  obtain ⟨u_1, eu_1, H⟩ := bnd H
  obtain rfl := Option.some.inj H
  have e0 := cut_some eu_1
  refine TC.seqS ?_
  refine TS.s OpY.assign rfl ?_
  refine TS.nil ?_
  refine TE.then ?_
  refine TC.kp [0, 1, 2] [b0] ?_
  refine TC.seqS ?_
  refine TS.s OpY.move rfl ?_
  refine TS.s OpY.move rfl ?_
  refine TS.s OpY.move rfl ?_
  refine TS.s OpY.move rfl ?_
  refine TS.s (OpD.lenSv (n := s0.length) rfl) rfl ?_
  refine TS.s (OpY.slice3Sv (u := ()) (v := ()) (cut_of (by omega) (by omega) (by simp; omega)) (cut_of (by omega) (by omega) (by omega))) rfl ?_
  refine TS.nil ?_
  refine TE.then ?_
  refine TC.kp [0, 1, 2] [b0] ?_
  refine TC.seq ?_
  refine TC.seqS ?_
  refine TS.s OpY.move rfl ?_
  refine TS.s OpY.move rfl ?_
  refine TS.s OpY.eql rfl ?_
  refine TS.nil ?_
  refine TE.then ?_
  refine TC.kp [0, 1, 2, 16] [b0] ?_
  refine TC.cond (fun hc => ?_) (fun hc => ?_)
  · obtain rfl : i0 = j0 := by simpa using hc
    refine TC.seqS ?_
    refine TS.s OpY.move rfl ?_
    refine TS.s OpY.assign rfl ?_
    refine TS.nil ?_
    refine TE.then ?_
    refine TC.kp [6] [b0] ?_
    refine TC.ret ?_
    refine TE.then_ret ?_
    rw [List.take_append_drop]
    exact TE.retO1 rfl ⟨b0, p0, c0⟩ (Sl_le rfl) (Less.pk rfl (Less.nil _))
  · have hne : i0 ≠ j0 := by simpa using hc
    have hp : p0 := by
      rcases h0 with ⟨h, -⟩ | ⟨-, h, -⟩
      · exact h
      · exfalso; omega
    have hz : (s0.drop (Int.toNat j0)).length = s0.length - Int.toNat j0 := List.length_drop ..
    refine TC.skip ?_
    refine TE.then ?_
    refine TC.kp [0, 1, 2] [b0] ?_
    refine TC.seqS ?_
    refine TS.s OpY.move rfl ?_
    refine TS.s (OpD.lenSv (n := s0.length) rfl) rfl ?_
    refine TS.s OpY.assign rfl ?_
    refine TS.nil ?_
    refine TE.then ?_
    refine TC.kp [0, 1, 2, 7] [b0] ?_
    refine TC.seqD [6, 7] [b0] mix (by kernel_rfl) (by kernel_rfl) ?_
    refine TR.s OpY.move rfl ?_
    refine TR.s OpY.move rfl ?_
    refine TR.s (OpY.sliceSlTo (by omega) (by omega)) rfl ?_
    refine TR.s OpY.move rfl ?_
    refine TR.s OpY.move rfl ?_
    refine TR.s (OpY.sliceSvFrom (by omega) (by omega)) rfl ?_
    refine TR.t (fun g => OpT.appIn (ys := s0.drop (Int.toNat j0)) (SrcOf.sv (PlS.rowTail (by omega)) (by rw [hz]; omega)) hp rfl (by omega)) rfl ?_
    refine TR.t (fun g => OpT.G rfl OpY.assign) rfl ?_
    refine TR.nil ?_
    rintro ⟨⟨_, _⟩, _⟩
    dsimp only [Fam.nextS, Fam.nextN, Fam.one, List.cons_append, List.nil_append]
    refine TC.kp [0, 7] [b0] ?_
    refine TC.seqS ?_
    refine TS.s OpY.move rfl ?_
    refine TS.s OpY.move rfl ?_
    refine TS.s (OpD.lenSv (n := Int.toNat i0 + (s0.drop (Int.toNat j0)).length) rfl) rfl ?_
    refine TS.s OpY.move rfl ?_
    have hsl : (splice s0 (Int.toNat i0) (s0.drop (Int.toNat j0))).length = s0.length := by simp [splice]; omega
    refine TS.s (OpY.sliceBeyond (xs := splice s0 (Int.toNat i0) (s0.drop (Int.toNat j0))) hp (by omega) (by omega) (by omega)) rfl ?_
    refine TS.un (OpT.clearBy (xs := ((splice s0 (Int.toNat i0) (s0.drop (Int.toNat j0))).drop (Int.toNat ((Int.toNat i0 + (s0.drop (Int.toNat j0)).length : Nat) : Int))).take ((s0.length : Int) - ((Int.toNat i0 + (s0.drop (Int.toNat j0)).length : Nat) : Int)).toNat) (PlS.rowz (by omega)) (by simp [hsl]; omega) (fun _ h => by simp [h, splice])) ?_
    refine TS.nil ?_
    refine TE.then ?_
    refine TC.kp [0] [b0] ?_
    refine TC.seqS ?_
    refine TS.s OpY.move rfl ?_
    refine TS.s OpY.assign rfl ?_
    refine TS.nil ?_
    refine TE.then ?_
    refine TC.kp [6] [b0] ?_
    refine TC.ret ?_
    have hk : Int.toNat i0 ≤ s0.length := by omega
    refine TE.retO1 rfl ⟨b0, p0, c0⟩ (Sl_le (by simp; omega)) (Less.pkTake (Int.toNat i0 + (s0.drop (Int.toNat j0)).length) (by simp [splice]; omega) ?_ (Less.nil _))
    exact del_take hk rfl
def cache_Keep (k0 : Kept) (x0 : Item) : Option (Kept × Int) :=
  (cache_Right k0).bind fun x_4 => (cache_copied k0).bind fun x_5 => (some ((⟨x_5.Most, []⟩ : Kept) : Kept)).bind fun k_7 => bif ((!x_4) || (decide (x0.Id < (0 : Int)))) then ((some ((⟨k_7.Most, x_5.Items⟩ : Kept) : Kept)).bind fun k_8 => some (k_8, (1 : Int))) else (((cache_place x_5.Items x0.Id).bind fun x_12 => bif (decide (x_12 ≥ (0 : Int))) then ((addI x_12 (1 : Int)).bind fun x_13 => (slices_Delete_api_Item x_5.Items x_12 x_13).bind fun x_14 => some x_14) else (bif (decide ((x_5.Items.length : Int) = k_7.Most)) then ((slices_Delete_api_Item x_5.Items (0 : Int) (1 : Int)).bind fun x_16 => some x_16) else (some x_5.Items))).bind fun l_10 => (bytes_Clone x0.Body).bind fun x_18 => (room 32 ((l_10.length + ([(⟨x0.Id, x_18⟩ : Item)] : List Item).length : Nat) : Int)).bind fun u_20 => (some ((l_10 ++ ([(⟨x0.Id, x_18⟩ : Item)] : List Item)) : (List Item))).bind fun l_21 => (some ((⟨k_7.Most, l_21⟩ : Kept) : Kept)).bind fun k_22 => some (k_22, (0 : Int)))
/-- cache.Keep -/
theorem cache_Keep_c {A : Nat → Prop} {k0 : Kept} {x0 : Item}  {r : (Kept × Int)} (w : World) (v0 v1 : Value) (hA : ∀ k, w.heap.size ≤ k → A k)  (h0 : (D (k0 : Kept)).p A w v0) (h1 : (D (x0 : Item)).p A w v1) (H : cache_Keep k0 x0 = some r) :
    Calls Try.prog 12 #[v0, v1] w (Ret A w (Tup [D (r.1 : Kept), D (r.2 : Int)])) := by
  unfold cache_Keep at H
  refine enter2 hA Try.func12 rfl Try.ntmps12 rfl h0 h1 ?_
  refine TC.seqS ?_
  refine TS.box rfl fun b2_0 => ?_
  refine TS.box rfl fun b3_1 => ?_
  refine TS.alloc (α := Kept) rfl fun b4_2 => ?_
  refine TS.s OpY.assign rfl ?_
  refine TS.nil ?_
  refine TE.then ?_
  refine TC.kp [2, 3, 4] [b2_0, b3_1, b4_2] ?_
  refine TC.seqS ?_
  refine TS.s (OpD.ldq Pl.one) rfl ?_
  obtain ⟨x_4, ex_4, H⟩ := bnd H
  refine TS.s (OpY.call1 fun w v0 hA h0 => cache_Right_c w v0 hA (toD h0) ex_4) rfl ?_
  refine TS.s OpY.assign rfl ?_
  refine TS.nil ?_
  refine TE.then ?_
  refine TC.kp [2, 3, 4, 6] [b2_0, b3_1, b4_2] ?_
  refine TC.seqS ?_
  refine TS.s (OpD.ldq Pl.one) rfl ?_
  obtain ⟨x_5, ex_5, H⟩ := bnd H
  refine TS.t (OpT.callO1 [] fun w v0 hA hO hap hks h0 => cache_copied_o w v0 hA hO hap hks (toD h0) ex_5) rfl fun ⟨b11_5, p11_5, c11_5⟩ => ?_
  dsimp only [List.cons_append, List.nil_append]
  refine TS.un (OpT.storeC trivial rfl CtSc.h) ?_
  refine TS.nil ?_
  refine TE.then ?_
  refine TC.kp [2, 3, 4, 6] [b2_0, b11_5, b3_1, b4_2] ?_
  obtain ⟨k_7, ek_7, H⟩ := bnd H
  refine TC.nmB b2_0 (nm_mix (nm_one ek_7)) ?_
  refine TC.seq ?_
  refine TC.seqS ?_
  refine TS.s OpY.move rfl ?_
  refine TS.s OpY.notB rfl ?_
  refine TS.s OpY.move rfl ?_
  refine TS.g 14 rfl (fun hg => OpY.fieldAddr) rfl ?_
  refine TS.g 14 rfl (fun hg => (OpD.ldq (Pl.fld (off := 0) (α := Item) (β := Int) Pl.one))) rfl ?_
  refine TS.g 14 rfl (fun hg => OpY.lss) rfl ?_
  refine TS.s OpY.pickOr rfl ?_
  refine TS.nil ?_
  refine TE.then ?_
  refine TC.kp [2, 3, 4, 18] [b2_0, b11_5, b3_1, b4_2] ?_
  refine TC.cond (fun hc => ?_) (fun hc => ?_)
  · replace H := cT H hc
    refine TC.seqS ?_
    refine TS.coll b2_0 b11_5 (o := 1) (((Pl.fld (off := 1) (α := Kept) (β := (List Item)) Pl.one)).st (x_5.Items : List Item)) (PubC.sv PlS.all rfl) ?_
    refine TS.s (OpD.ldq Pl.one) rfl ?_
    refine TS.un (OpT.storeq (y := ((⟨k_7.Most, x_5.Items⟩ : Kept) : Kept)) Pl.one) ?_
    refine TS.s OpY.assign rfl ?_
    refine TS.nil ?_
    refine TE.then ?_
    refine TC.kp [4, 5] [b4_2] ?_
    obtain ⟨k_8, ek_8, H⟩ := bnd H
    refine TC.nmB b4_2 (nm_one ek_8) ?_
    refine TC.ret ?_
    refine TE.then_ret ?_
    obtain rfl := (Option.some.inj H)
    exact TE.retN rfl rfl (.cons Cv.le (.cons Cv.le .nil))
  · replace H := cF H hc
    refine TC.skip ?_
    refine TE.then ?_
    refine TC.kp [2, 3, 4] [b2_0, b11_5, b3_1, b4_2] ?_
    refine TC.seq ?_
    obtain ⟨o_11, H11, H⟩ := bnd H
    refine TC.cutP (fun s : (List Item) => o_11 = s) (fun (l_10 : (List Item)) (⟨b_8, p_8, c_8⟩ : Nat × Prop × Nat) => (Env.set (Env.set (Env.set Env.nil 2 (Pt b2_0 0)) 3 (Pt b3_1 0)) 4 (Pt b4_2 0))) (fun (l_10 : (List Item)) (⟨b_8, p_8, c_8⟩ : Nat × Prop × Nat) => [⟨b_8, p_8, (Row (l_10 : List Item) c_8)⟩, ⟨b2_0, True, (Ct.mix (One (k_7 : Kept)) 1 (Sl b_8 p_8 0 l_10.length c_8))⟩, ⟨b3_1, True, (One (x0 : Item))⟩, ⟨b4_2, True, (One (Dat.z : Kept))⟩]) ?_ ?_
    · skip
      refine TC.seqS ?_
      refine TS.s OpY.fieldAddr rfl ?_
      refine TS.s (OpD.ldHq CeH.here) rfl ?_
      refine TS.s OpY.fieldAddr rfl ?_
      refine TS.s (OpD.ldq (Pl.fld (off := 0) (α := Item) (β := Int) Pl.one)) rfl ?_
      obtain ⟨x_12, ex_12, H11⟩ := bnd H11
      refine TS.s (OpY.callB2 [b11_5] (ArgB.sv PlS.all rfl (by simp)) ArgB.d fun w v0 v1 hA h0 h1 => cache_place_c w v0 v1 hA (toD h0) (toD h1) ex_12) rfl ?_
      refine TS.s OpY.assign rfl ?_
      refine TS.nil ?_
      refine TE.then ?_
      refine TC.kp [2, 3, 4, 7] [b2_0, b11_5, b3_1, b4_2] ?_
      refine TC.seqS ?_
      refine TS.s OpY.move rfl ?_
      refine TS.s OpY.geq rfl ?_
      refine TS.nil ?_
      refine TE.then ?_
      refine TC.kp [2, 3, 4, 7, 26] [b2_0, b11_5, b3_1, b4_2] ?_
      refine TC.cond (fun hc => ?_) (fun hc => ?_)
      · replace H11 := cT H11 hc
        refine TC.regionS ?_
        refine TS.s OpY.fieldAddr rfl ?_
        refine TS.s (OpD.ldHq CeH.here) rfl ?_
        refine TS.s OpY.move rfl ?_
        refine TS.s OpY.move rfl ?_
        obtain ⟨x_13, ex_13, H11⟩ := bnd H11
        refine TS.s (OpD.add ex_13) rfl ?_
        obtain ⟨x_14, ex_14, H11⟩ := bnd H11
        refine TS.t (OpT.callO3 [b11_5] fun w v0 v1 v2 hA hO hap hks h0 h1 h2 => slices_Delete_api_Item_o w v0 v1 v2 hA hO hap hks (slD rfl h0) (toD h1) (toD h2) ex_14) rfl fun ⟨b32_14, p32_14, c32_14⟩ => ?_
        dsimp only [List.cons_append, List.nil_append]
        refine TS.s OpY.fieldAddr rfl ?_
        refine TS.un (OpT.storeHq CtH.same) ?_
        refine TS.nil ?_
        refine TE.kp [2, 3, 4] [b2_0, b32_14, b3_1, b4_2] ?_
        exact TE.cutP x_14 ⟨b32_14, p32_14, c32_14⟩ (Option.some.inj H11).symm (Env.cv (Env.cv (Env.cv (Env.le_nil _)))) (Less.pk rfl (Less.pk rfl (Less.pk rfl (Less.pk rfl (Less.nil _)))))
      · replace H11 := cF H11 hc
        refine TC.seqS ?_
        refine TS.s OpY.fieldAddr rfl ?_
        refine TS.s (OpD.ldHq CeH.here) rfl ?_
        refine TS.s (OpD.lenSv (n := x_5.Items.length) rfl) rfl ?_
        refine TS.s OpY.fieldAddr rfl ?_
        refine TS.s (OpD.ldq (Pl.mix (Pl.fld (off := 0) (α := Kept) (β := Int) Pl.one) (by first | decide | omega))) rfl ?_
        refine TS.s OpY.eql rfl ?_
        refine TS.nil ?_
        refine TE.then ?_
        refine TC.kp [2, 3, 4, 39] [b2_0, b11_5, b3_1, b4_2] ?_
        refine TC.cond (fun hc => ?_) (fun hc => ?_)
        · replace H11 := cT H11 hc
          refine TC.regionS ?_
          refine TS.s OpY.fieldAddr rfl ?_
          refine TS.s (OpD.ldHq CeH.here) rfl ?_
          obtain ⟨x_16, ex_16, H11⟩ := bnd H11
          refine TS.t (OpT.callO3 [b11_5] fun w v0 v1 v2 hA hO hap hks h0 h1 h2 => slices_Delete_api_Item_o w v0 v1 v2 hA hO hap hks (slD rfl h0) (toD h1) (toD h2) ex_16) rfl fun ⟨b42_16, p42_16, c42_16⟩ => ?_
          dsimp only [List.cons_append, List.nil_append]
          refine TS.s OpY.fieldAddr rfl ?_
          refine TS.un (OpT.storeHq CtH.same) ?_
          refine TS.nil ?_
          refine TE.kp [2, 3, 4] [b2_0, b42_16, b3_1, b4_2] ?_
          exact TE.cutP x_16 ⟨b42_16, p42_16, c42_16⟩ (Option.some.inj H11).symm (Env.cv (Env.cv (Env.cv (Env.le_nil _)))) (Less.pk rfl (Less.pk rfl (Less.pk rfl (Less.pk rfl (Less.nil _)))))
        · replace H11 := cF H11 hc
          refine TC.skip ?_
          exact TE.cutP x_5.Items ⟨b11_5, p11_5, c11_5⟩ (Option.some.inj H11).symm (Env.cv (Env.cv (Env.cv (Env.le_nil _)))) (Less.pk rfl (Less.pk rfl (Less.pk rfl (Less.pk rfl (Less.nil _)))))
    rintro l_10 ⟨b_8, p_8, c_8⟩ hp
    replace hp := hp.symm
    subst hp
    refine TE.then ?_
    refine TC.kp [2, 3, 4] [b2_0, b_8, b3_1, b4_2] ?_
    refine TC.seqD [1, 9, 11] [b2_0, b_8] mix (by kernel_rfl) (by kernel_rfl) ?_
    refine TR.s OpY.fieldAddr rfl ?_
    refine TR.t (fun g => OpT.G rfl (OpD.ldHq CeH.here)) rfl ?_
    refine TR.s OpY.fieldAddr rfl ?_
    refine TR.s (OpD.ldq (Pl.fld (off := 0) (α := Item) (β := Int) Pl.one)) rfl ?_
    refine TR.s OpY.fieldAddr rfl ?_
    refine TR.s (OpD.ldq (Pl.fld (off := 1) (α := Item) (β := (List UInt8)) Pl.one)) rfl ?_
    obtain ⟨x_18, ex_18, H⟩ := bnd H
    refine TR.s (OpY.call1 fun w v0 hA h0 => bytes_Clone_c w v0 hA (toD h0) ex_18) rfl ?_
    refine TR.s (OpY.buildAs (⟨x0.Id, x_18⟩ : Item) rfl ⟨_, Try.underlying27, by kernel_rfl⟩ rfl rfl) rfl ?_
    refine TR.s (OpY.buildSlice [.tmp 51] rfl rfl (by decide)) rfl ?_
    obtain ⟨u_20, eu_20, H⟩ := bnd H
    refine TR.t (fun g => OpT.appR (ys := ([(⟨x0.Id, x_18⟩ : Item)] : List Item)) inferInstance eu_20 rfl rfl) rfl ?_
    refine TR.s OpY.fieldAddr rfl ?_
    refine TR.tn (fun g => (OpT.storeHq CtH.same)) rfl ?_
    refine TR.nil ?_
    rintro ⟨⟨⟨_, _⟩, ⟨b53_18, p53_18, c53_18⟩⟩, _⟩
    dsimp only [Fam.nextS, Fam.nextN, Fam.one, List.cons_append, List.nil_append]
    refine TC.kp [2, 4] [b2_0, b53_18, b4_2] ?_
    obtain ⟨l_21, el_21, H⟩ := bnd H
    refine TC.nmB b53_18 (nm_row el_21) ?_
    refine TC.nmB b2_0 (mix_n (nm_len el_21 rfl)) ?_
    refine TC.seqS ?_
    refine TS.coll b2_0 b53_18 (o := 1) (((Pl.fld (off := 1) (α := Kept) (β := (List Item)) Pl.one)).st (l_21 : List Item)) (PubC.sv PlS.all rfl) ?_
    refine TS.s (OpD.ldq Pl.one) rfl ?_
    refine TS.un (OpT.storeq (y := ((⟨k_7.Most, l_21⟩ : Kept) : Kept)) Pl.one) ?_
    refine TS.s OpY.assign rfl ?_
    refine TS.nil ?_
    refine TE.then ?_
    refine TC.kp [4, 5] [b4_2] ?_
    obtain ⟨k_22, ek_22, H⟩ := bnd H
    refine TC.nmB b4_2 (nm_one ek_22) ?_
    refine TC.ret ?_
    obtain rfl := (Option.some.inj H)
    exact TE.retN rfl rfl (.cons Cv.le (.cons Cv.le .nil))
def cache_Look (k0 : Kept) (id0 : Int) : Option (Kept × (List UInt8) × Bool) :=
  (cache_Right k0).bind fun x_3 => (cache_copied k0).bind fun x_4 => (some ((⟨x_4.Most, []⟩ : Kept) : Kept)).bind fun k_6 => (cache_place x_4.Items id0).bind fun x_7 => bif ((!x_3) || (decide (x_7 < (0 : Int)))) then ((some ((⟨k_6.Most, x_4.Items⟩ : Kept) : Kept)).bind fun k_8 => some (k_8, ([] : List UInt8), false)) else ((idx x_4.Items x_7).bind fun x_9 => (addI x_7 (1 : Int)).bind fun x_11 => (slices_Delete_api_Item x_4.Items x_7 x_11).bind fun x_12 => (room 32 ((x_12.length + ([x_9] : List Item).length : Nat) : Int)).bind fun u_15 => (some ((x_12 ++ ([x_9] : List Item)) : (List Item))).bind fun l_16 => (bytes_Clone x_9.Body).bind fun x_17 => some ((⟨k_6.Most, l_16⟩ : Kept), x_17, true))
/-- cache.Look -/
theorem cache_Look_c {A : Nat → Prop} {k0 : Kept} {id0 : Int}  {r : (Kept × (List UInt8) × Bool)} (w : World) (v0 v1 : Value) (hA : ∀ k, w.heap.size ≤ k → A k)  (h0 : (D (k0 : Kept)).p A w v0) (h1 : (D (id0 : Int)).p A w v1) (H : cache_Look k0 id0 = some r) :
    Calls Try.prog 11 #[v0, v1] w (Ret A w (Tup [D (r.1 : Kept), D (r.2.1 : (List UInt8)), D (r.2.2 : Bool)])) := by
  unfold cache_Look at H
  refine enter2 hA Try.func11 rfl Try.ntmps11 rfl h0 h1 ?_
  refine TC.seqS ?_
  refine TS.box rfl fun b2_0 => ?_
  refine TS.alloc (α := Kept) rfl fun b4_1 => ?_
  refine TS.s OpY.assign rfl ?_
  refine TS.s OpY.assign rfl ?_
  refine TS.nil ?_
  refine TE.then ?_
  refine TC.kp [1, 2, 4] [b2_0, b4_1] ?_
  refine TC.seqS ?_
  refine TS.s (OpD.ldq Pl.one) rfl ?_
  obtain ⟨x_3, ex_3, H⟩ := bnd H
  refine TS.s (OpY.call1 fun w v0 hA h0 => cache_Right_c w v0 hA (toD h0) ex_3) rfl ?_
  refine TS.s OpY.assign rfl ?_
  refine TS.nil ?_
  refine TE.then ?_
  refine TC.kp [1, 2, 4, 7] [b2_0, b4_1] ?_
  refine TC.seqS ?_
  refine TS.s (OpD.ldq Pl.one) rfl ?_
  obtain ⟨x_4, ex_4, H⟩ := bnd H
  refine TS.t (OpT.callO1 [] fun w v0 hA hO hap hks h0 => cache_copied_o w v0 hA hO hap hks (toD h0) ex_4) rfl fun ⟨b13_4, p13_4, c13_4⟩ => ?_
  dsimp only [List.cons_append, List.nil_append]
  refine TS.un (OpT.storeC trivial rfl CtSc.h) ?_
  refine TS.nil ?_
  refine TE.then ?_
  refine TC.kp [1, 2, 4, 7] [b2_0, b13_4, b4_1] ?_
  obtain ⟨k_6, ek_6, H⟩ := bnd H
  refine TC.nmB b2_0 (nm_mix (nm_one ek_6)) ?_
  refine TC.seqS ?_
  refine TS.s OpY.fieldAddr rfl ?_
  refine TS.s (OpD.ldHq CeH.here) rfl ?_
  refine TS.s OpY.move rfl ?_
  obtain ⟨x_7, ex_7, H⟩ := bnd H
  refine TS.s (OpY.callB2 [b13_4] (ArgB.sv PlS.all rfl (by simp)) ArgB.d fun w v0 v1 hA h0 h1 => cache_place_c w v0 v1 hA (toD h0) (toD h1) ex_7) rfl ?_
  refine TS.s OpY.assign rfl ?_
  refine TS.nil ?_
  refine TE.then ?_
  refine TC.kp [2, 4, 7, 8] [b2_0, b13_4, b4_1] ?_
  refine TC.seq ?_
  refine TC.seqS ?_
  refine TS.s OpY.move rfl ?_
  refine TS.s OpY.notB rfl ?_
  refine TS.s OpY.move rfl ?_
  refine TS.g 20 rfl (fun hg => OpY.move) rfl ?_
  refine TS.g 20 rfl (fun hg => OpY.lss) rfl ?_
  refine TS.s OpY.pickOr rfl ?_
  refine TS.nil ?_
  refine TE.then ?_
  refine TC.kp [2, 4, 8, 23] [b2_0, b13_4, b4_1] ?_
  refine TC.cond (fun hc => ?_) (fun hc => ?_)
  · replace H := cT H hc
    refine TC.seqS ?_
    refine TS.coll b2_0 b13_4 (o := 1) (((Pl.fld (off := 1) (α := Kept) (β := (List Item)) Pl.one)).st (x_4.Items : List Item)) (PubC.sv PlS.all rfl) ?_
    refine TS.s (OpD.ldq Pl.one) rfl ?_
    refine TS.un (OpT.storeq (y := ((⟨k_6.Most, x_4.Items⟩ : Kept) : Kept)) Pl.one) ?_
    refine TS.s OpY.assign rfl ?_
    refine TS.s OpY.assign rfl ?_
    refine TS.nil ?_
    refine TE.then ?_
    refine TC.kp [4, 5, 6] [b4_1] ?_
    obtain ⟨k_8, ek_8, H⟩ := bnd H
    refine TC.nmB b4_1 (nm_one ek_8) ?_
    refine TC.ret ?_
    refine TE.then_ret ?_
    obtain rfl := (Option.some.inj H)
    exact TE.retN rfl rfl (.cons Cv.le (.cons Cv.le (.cons Cv.le .nil)))
  · replace H := cF H hc
    refine TC.skip ?_
    refine TE.then ?_
    refine TC.kp [2, 4, 8] [b2_0, b13_4, b4_1] ?_
    refine TC.seqS ?_
    refine TS.s OpY.fieldAddr rfl ?_
    refine TS.s (OpD.ldHq CeH.here) rfl ?_
    refine TS.s OpY.move rfl ?_
    obtain ⟨x_9, ex_9, H⟩ := bnd H
    refine TS.s (OpD.indexq (idx_in ex_9 rfl)) rfl ?_
    refine TS.s (OpD.ldq (Pl.rowz ex_9)) rfl ?_
    refine TS.alloc (α := Item) rfl fun b9_9 => ?_
    refine TS.un (OpT.storeq (y := (x_9 : Item)) Pl.one) ?_
    refine TS.nil ?_
    refine TE.then ?_
    refine TC.kp [2, 4, 8, 9] [b2_0, b13_4, b4_1, b9_9] ?_
    refine TC.seqD [1, 5, 8, 10] [b2_0, b13_4] mix (by kernel_rfl) (by kernel_rfl) ?_
    refine TR.s OpY.fieldAddr rfl ?_
    refine TR.t (fun g => OpT.G rfl (OpD.ldHq CeH.here)) rfl ?_
    refine TR.s OpY.move rfl ?_
    refine TR.s OpY.move rfl ?_
    obtain ⟨x_11, ex_11, H⟩ := bnd H
    refine TR.s (OpD.add ex_11) rfl ?_
    obtain ⟨x_12, ex_12, H⟩ := bnd H
    refine TR.t (fun g => (OpT.callO3 [b13_4] fun w v0 v1 v2 hA hO hap hks h0 h1 h2 => slices_Delete_api_Item_o w v0 v1 v2 hA hO hap hks (slD rfl h0) (toD h1) (toD h2) ex_12)) rfl ?_
    refine TR.s (OpD.ldq Pl.one) rfl ?_
    refine TR.s (OpY.buildSlice [.tmp 36] rfl rfl (by decide)) rfl ?_
    obtain ⟨u_15, eu_15, H⟩ := bnd H
    refine TR.t (fun g => OpT.appR (ys := ([x_9] : List Item)) inferInstance eu_15 rfl rfl) rfl ?_
    refine TR.s OpY.fieldAddr rfl ?_
    refine TR.tn (fun g => (OpT.storeHq CtH.same)) rfl ?_
    refine TR.nil ?_
    rintro ⟨⟨⟨⟨_, _⟩, ⟨b35_12, p35_12, c35_12⟩⟩, ⟨b38_13, p38_13, c38_13⟩⟩, _⟩
    dsimp only [Fam.nextS, Fam.nextN, Fam.one, List.cons_append, List.nil_append]
    refine TC.kp [2, 4, 9] [b2_0, b38_13, b4_1, b9_9] ?_
    obtain ⟨l_16, el_16, H⟩ := bnd H
    refine TC.nmB b38_13 (nm_row el_16) ?_
    refine TC.nmB b2_0 (mix_n (nm_len el_16 rfl)) ?_
    refine TC.seqD [4] [b4_1] mix (by kernel_rfl) (by kernel_rfl) ?_
    refine TR.s (OpY.ldC trivial rfl rfl) rfl ?_
    refine TR.s OpY.fieldAddr rfl ?_
    refine TR.s (OpD.ldq (Pl.fld (off := 1) (α := Item) (β := (List UInt8)) Pl.one)) rfl ?_
    obtain ⟨x_17, ex_17, H⟩ := bnd H
    refine TR.s (OpY.call1 fun w v0 hA h0 => bytes_Clone_c w v0 hA (toD h0) ex_17) rfl ?_
    refine TR.tn (fun g => (OpT.storeC trivial rfl CtSc.h)) rfl ?_
    refine TR.s OpY.assign rfl ?_
    refine TR.s OpY.assign rfl ?_
    refine TR.nil ?_
    rintro ⟨_, _⟩
    dsimp only [Fam.nextS, Fam.nextN, Fam.one, List.cons_append, List.nil_append]
    refine TC.kp [4, 5, 6] [b4_1, b38_13] ?_
    refine TC.ret ?_
    refine TE.coll b4_1 b38_13 (o := 1) (((Pl.fld (off := 1) (α := Kept) (β := (List Item)) Pl.one)).st (l_16 : List Item)) (PubC.sv PlS.all rfl) ?_
    obtain rfl := (Option.some.inj H)
    exact TE.retN rfl rfl (.cons Cv.le (.cons Cv.le (.cons Cv.le .nil)))
def cache_Ids_l1 (k0 : Kept) (x_8 : Int) (l_9 : (List Int)) : Option ((Int × (List Int)) ⊕ (List Int)) :=
  bif (decide (x_8 < (k0.Items.length : Int))) then ((idx k0.Items x_8).bind fun x_11 => (idx l_9 x_8).bind fun x_13 => (some ((l_9.set (Int.toNat x_8) x_11.Id) : (List Int))).bind fun l_14 => (addI x_8 (1 : Int)).bind fun x_15 => some (.inl (x_15, l_14))) else (some (.inr l_9))
def cache_Ids (k0 : Kept) : Option (List Int) :=
  (cache_Right k0).bind fun x_2 => bif (!x_2) then (some ([] : List Int)) else ((room 8 (k0.Items.length : Int)).bind fun u_3 => (some ((List.replicate (Int.toNat (k0.Items.length : Int)) (Dat.z : Int)) : (List Int))).bind fun l_5 => (loopO (fun s => cache_Ids_l1 k0 s.1 s.2) ((0 : Int), l_5)).bind fun l_6 => some l_6)
/-- cache.Ids -/
theorem cache_Ids_c {A : Nat → Prop} {k0 : Kept}  {r : (List Int)} (w : World) (v0 : Value) (hA : ∀ k, w.heap.size ≤ k → A k)  (h0 : (D (k0 : Kept)).p A w v0) (H : cache_Ids k0 = some r) :
    Calls Try.prog 14 #[v0] w (Ret A w (D (r : (List Int)))) := by
  unfold cache_Ids at H
  refine enter1 hA Try.func14 rfl Try.ntmps14 rfl h0 ?_
  refine TC.seqS ?_
  refine TS.box rfl fun b1_0 => ?_
  refine TS.s OpY.assign rfl ?_
  refine TS.nil ?_
  refine TE.then ?_
  refine TC.kp [1] [b1_0] ?_
  refine TC.seq ?_
  refine TC.seqS ?_
  refine TS.s (OpD.ldq Pl.one) rfl ?_
  obtain ⟨x_2, ex_2, H⟩ := bnd H
  refine TS.s (OpY.call1 fun w v0 hA h0 => cache_Right_c w v0 hA (toD h0) ex_2) rfl ?_
  refine TS.s OpY.notB rfl ?_
  refine TS.nil ?_
  refine TE.then ?_
  refine TC.kp [1, 8] [b1_0] ?_
  refine TC.cond (fun hc => ?_) (fun hc => ?_)
  · replace H := cT H hc
    refine TC.seqS ?_
    refine TS.s OpY.assign rfl ?_
    refine TS.nil ?_
    refine TE.then ?_
    refine TC.kp [2] [] ?_
    refine TC.ret ?_
    refine TE.then_ret ?_
    obtain rfl := (Option.some.inj H)
    exact TE.ret1 rfl Cv.le
  · replace H := cF H hc
    refine TC.skip ?_
    refine TE.then ?_
    refine TC.kp [1] [b1_0] ?_
    refine TC.seqS ?_
    refine TS.s OpY.fieldAddr rfl ?_
    refine TS.s (OpD.ldq (Pl.fld (off := 1) (α := Kept) (β := (List Item)) Pl.one)) rfl ?_
    refine TS.s OpD.len rfl ?_
    obtain ⟨u_3, eu_3, H⟩ := bnd H
    refine TS.make eu_3 ⟨(room_some eu_3).1, Int.le_refl _⟩ rfl fun b12_3 => ?_
    refine TS.s OpY.assign rfl ?_
    refine TS.nil ?_
    refine TE.then ?_
    refine TC.kp [1, 3] [b1_0, b12_3] ?_
    obtain ⟨l_5, el_5, H⟩ := bnd H
    refine TC.nmB b12_3 (nm_row el_5) ?_
    refine TC.see 3 _ (nm_sl2 el_5 (by simp)) ?_
    refine TC.seq ?_
    refine TC.seqS ?_
    refine TS.s OpY.fieldAddr rfl ?_
    refine TS.s (OpD.ldq (Pl.fld (off := 1) (α := Kept) (β := (List Item)) Pl.one)) rfl ?_
    refine TS.s OpD.len rfl ?_
    refine TS.s OpY.move rfl ?_
    refine TS.nil ?_
    refine TE.then ?_
    refine TC.kp [3, 14, 15, 16] [b12_3] ?_
    obtain ⟨o_7, H7, H⟩ := bnd H
    refine TC.cutP (fun s : (List Int) => o_7 = s) (fun (l_6 : (List Int)) (_ : Unit) => (Env.set Env.nil 3 (Sl b12_3 True 0 l_6.length (Int.toNat (k0.Items.length : Int))))) (fun (l_6 : (List Int)) (_ : Unit) => [⟨b12_3, True, (Row (l_6 : List Int) (Int.toNat (k0.Items.length : Int)))⟩]) ?_ ?_
    · skip
      refine TC.block ?_
      refine TC.loopP H7 (fun ⟨x_8, l_9⟩ (_ : Unit) => (Env.set (Env.set (Env.set (Env.set Env.nil 3 (Sl b12_3 True 0 l_9.length (Int.toNat (k0.Items.length : Int)))) 14 (D (k0.Items : (List Item)))) 15 (D ((k0.Items.length : Int) : Int))) 16 (D (x_8 : Int)))) (fun ⟨x_8, l_9⟩ (_ : Unit) => [⟨b12_3, True, (Row (l_9 : List Int) (Int.toNat (k0.Items.length : Int)))⟩]) () (Env.cv (Env.cv (Env.cv (Env.cvBy (Sl_le rfl) (Env.le_nil _))))) (Less.pk rfl (Less.nil _)) ?_
      rintro ⟨x_8, l_9⟩ ⟨⟩ x_10 H10 he10
      replace H10 : cache_Ids_l1 k0 x_8 l_9 = some x_10 := H10
      unfold cache_Ids_l1 at H10
      refine TC.seqS ?_
      refine TS.s OpY.lss rfl ?_
      refine TS.nil ?_
      refine TE.then ?_
      refine TC.kp [3, 14, 15, 16, 17] [b12_3] ?_
      refine TC.seq ?_
      refine TC.cond (fun hc => ?_) (fun hc => ?_)
      · replace H10 := cT H10 hc
        refine TC.skip ?_
        refine TE.then ?_
        refine TC.kp [3, 14, 15, 16] [b12_3] ?_
        refine TC.seq ?_
        refine TC.block ?_
        refine TC.seqS ?_
        refine TS.s OpY.move rfl ?_
        obtain ⟨x_11, ex_11, H10⟩ := bnd H10
        refine TS.s (OpD.index ex_11) rfl ?_
        refine TS.s OpY.load rfl ?_
        refine TS.alloc (α := Item) rfl fun b5_11 => ?_
        refine TS.s OpY.assign rfl ?_
        refine TS.un (OpT.storeq (y := (x_11 : Item)) Pl.one) ?_
        refine TS.nil ?_
        refine TE.then ?_
        refine TC.kp [3, 4, 5, 14, 15, 16] [b12_3, b5_11] ?_
        refine TC.regionS ?_
        refine TS.s OpY.move rfl ?_
        refine TS.s OpY.move rfl ?_
        refine TS.s OpY.fieldAddr rfl ?_
        refine TS.s (OpD.ldq (Pl.fld (off := 0) (α := Item) (β := Int) Pl.one)) rfl ?_
        obtain ⟨x_13, ex_13, H10⟩ := bnd H10
        refine TS.s (OpD.indexq (idx_in ex_13 rfl)) rfl ?_
        refine TS.un (OpT.storeq (y := (x_11.Id : Int)) (Pl.rowz ex_13)) ?_
        refine TS.nil ?_
        refine TE.kp [3, 14, 15, 16] [b12_3] ?_
        obtain ⟨l_14, el_14, H10⟩ := bnd H10
        refine TE.nmB b12_3 (nm_row el_14) ?_
        refine TE.see 3 _ (nm_sl2 el_14 (by simp)) ?_
        refine TE.inBlock_normal ?_
        refine TE.then ?_
        refine TC.kp [3, 14, 15, 16] [b12_3] ?_
        refine TC.regionS ?_
        obtain ⟨x_15, ex_15, H10⟩ := bnd H10
        refine TS.s (OpD.add ex_15) rfl ?_
        refine TS.s OpY.move rfl ?_
        refine TS.nil ?_
        refine TE.kp [3, 14, 15, 16] [b12_3] ?_
        exact TE.backP ⟨x_15, l_14⟩ () (Option.some.inj H10).symm (Env.cv (Env.cv (Env.cv (Env.cvBy (Sl_le rfl) (Env.le_nil _))))) (Less.pk rfl (Less.nil _))
      · replace H10 := cF H10 hc
        refine TC.exit ?_
        refine TE.then_exit ?_
        refine TE.then_exit ?_
        refine TE.inBlock_here ?_
        exact TE.cutP l_9 () (he10 _ (Option.some.inj H10).symm).symm (Env.cvBy (Sl_le rfl) (Env.le_nil _)) (Less.pk rfl (Less.nil _))
    rintro l_6 ⟨⟩ hp
    replace hp := hp.symm
    subst hp
    refine TE.then ?_
    refine TC.kp [3] [b12_3] ?_
    refine TC.seqS ?_
    refine TS.s OpY.move rfl ?_
    refine TS.s OpY.assign rfl ?_
    refine TS.nil ?_
    refine TE.then ?_
    refine TC.kp [2] [b12_3] ?_
    refine TC.ret ?_
    refine TE.pub b12_3 (PubE.set 2 (PubC.sv PlS.all rfl) PubE.refl) ?_
    obtain rfl := (Option.some.inj H)
    exact TE.ret1 rfl Cv.le
def bywayref08_Ints_l1 (a0 : (List Int)) (b0 : (List Int)) (i_2 : Int) : Option (Int ⊕ (Unit ⊕ Bool)) :=
  bif (decide (i_2 < (a0.length : Int))) then ((idx a0 i_2).bind fun x_4 => (idx b0 i_2).bind fun x_5 => bif (decide (x_4 ≠ x_5)) then (some (.inr (.inr false))) else ((addI i_2 (1 : Int)).bind fun x_7 => some (.inl x_7))) else (some (.inr (.inl ())))
def bywayref08_Ints (a0 : (List Int)) (b0 : (List Int)) : Option Bool :=
  bif (decide ((a0.length : Int) ≠ (b0.length : Int))) then (some false) else ((loopO (fun s => bywayref08_Ints_l1 a0 b0 s) (0 : Int)).bind fun o_1 => elS o_1 (fun _ => some true) (fun q => some q))
/-- bywayref08.Ints -/
theorem bywayref08_Ints_c {A : Nat → Prop} {a0 : (List Int)} {b0 : (List Int)}  {r : Bool} (w : World) (v0 v1 : Value) (hA : ∀ k, w.heap.size ≤ k → A k)  (h0 : (D (a0 : (List Int))).p A w v0) (h1 : (D (b0 : (List Int))).p A w v1) (H : bywayref08_Ints a0 b0 = some r) :
    Calls Try.prog 21 #[v0, v1] w (Ret A w (D (r : Bool))) := by
  unfold bywayref08_Ints at H
  refine enter2 hA Try.func21 rfl Try.ntmps21 rfl h0 h1 ?_
  refine TC.seqS ?_
  refine TS.s OpY.assign rfl ?_
  refine TS.nil ?_
  refine TE.then ?_
  refine TC.kp [0, 1] [] ?_
  refine TC.seq ?_
  refine TC.seqS ?_
  refine TS.s OpY.move rfl ?_
  refine TS.s OpD.len rfl ?_
  refine TS.s OpY.move rfl ?_
  refine TS.s OpD.len rfl ?_
  refine TS.s OpY.neq rfl ?_
  refine TS.nil ?_
  refine TE.then ?_
  refine TC.kp [0, 1, 10] [] ?_
  refine TC.cond (fun hc => ?_) (fun hc => ?_)
  · replace H := cT H hc
    refine TC.seqS ?_
    refine TS.s OpY.assign rfl ?_
    refine TS.nil ?_
    refine TE.then ?_
    refine TC.kp [4] [] ?_
    refine TC.ret ?_
    refine TE.then_ret ?_
    obtain rfl := (Option.some.inj H)
    exact TE.ret1 rfl Cv.le
  · replace H := cF H hc
    refine TC.skip ?_
    refine TE.then ?_
    refine TC.kp [0, 1] [] ?_
    refine TC.seq ?_
    refine TC.seqS ?_
    refine TS.s OpY.assign rfl ?_
    refine TS.nil ?_
    refine TE.then ?_
    refine TC.kp [0, 1, 5] [] ?_
    obtain ⟨o_1, H1, H⟩ := bnd H
    refine TC.cutP (fun s : Unit => o_1 = .inl s) (fun (_ : Unit) (_ : Unit) => Env.nil) (fun (_ : Unit) (_ : Unit) => []) ?_ ?_
    · skip
      refine TC.block ?_
      refine TC.loopP H1 (fun (i_2 : Int) (_ : Unit) => (Env.set (Env.set (Env.set Env.nil 0 (D (a0 : (List Int)))) 1 (D (b0 : (List Int)))) 5 (D (i_2 : Int)))) (fun (i_2 : Int) (_ : Unit) => []) () (Env.cv (Env.cv (Env.cv (Env.le_nil _)))) (Less.nil _) ?_
      rintro i_2 ⟨⟩ x_3 H3 he3
      replace H3 : bywayref08_Ints_l1 a0 b0 i_2 = some x_3 := H3
      unfold bywayref08_Ints_l1 at H3
      refine TC.seq ?_
      refine TC.seqS ?_
      refine TS.s OpY.move rfl ?_
      refine TS.s OpY.move rfl ?_
      refine TS.s OpD.len rfl ?_
      refine TS.s OpY.lss rfl ?_
      refine TS.nil ?_
      refine TE.then ?_
      refine TC.kp [0, 1, 5, 14] [] ?_
      refine TC.cond (fun hc => ?_) (fun hc => ?_)
      · replace H3 := cT H3 hc
        refine TC.skip ?_
        refine TE.then ?_
        refine TC.kp [0, 1, 5] [] ?_
        refine TC.seq ?_
        refine TC.block ?_
        refine TC.seqD0 mix (by kernel_rfl) ?_
        refine TR.s OpY.move rfl ?_
        refine TR.s OpY.move rfl ?_
        obtain ⟨x_4, ex_4, H3⟩ := bnd H3
        refine TR.s (OpD.index ex_4) rfl ?_
        refine TR.s OpY.load rfl ?_
        refine TR.s OpY.move rfl ?_
        refine TR.s OpY.move rfl ?_
        obtain ⟨x_5, ex_5, H3⟩ := bnd H3
        refine TR.s (OpD.index ex_5) rfl ?_
        refine TR.s OpY.load rfl ?_
        refine TR.s OpY.neq rfl ?_
        refine TR.nil ?_
        refine TC.kp [0, 1, 5, 25] [] ?_
        refine TC.cond (fun hc => ?_) (fun hc => ?_)
        · replace H3 := cT H3 hc
          refine TC.seqS ?_
          refine TS.s OpY.assign rfl ?_
          refine TS.nil ?_
          refine TE.then ?_
          refine TC.kp [4] [] ?_
          refine TC.ret ?_
          refine TE.inBlock_ret ?_
          refine TE.then_ret ?_
          refine TE.then_ret ?_
          refine TE.inBlock_ret ?_
          refine TE.cut_ret ?_
          have R5 := elS_r (he3 _ (Option.some.inj H3).symm) H
          refine TE.then_ret ?_
          obtain rfl := (Option.some.inj R5)
          exact TE.ret1 rfl Cv.le
        · replace H3 := cF H3 hc
          refine TC.skip ?_
          refine TE.inBlock_normal ?_
          refine TE.then ?_
          refine TC.kp [0, 1, 5] [] ?_
          refine TC.regionS ?_
          refine TS.s OpY.move rfl ?_
          obtain ⟨x_7, ex_7, H3⟩ := bnd H3
          refine TS.s (OpD.add ex_7) rfl ?_
          refine TS.s OpY.assign rfl ?_
          refine TS.nil ?_
          refine TE.kp [0, 1, 5] [] ?_
          exact TE.backP x_7 () (Option.some.inj H3).symm (Env.cv (Env.cv (Env.cv (Env.le_nil _)))) (Less.nil _)
      · replace H3 := cF H3 hc
        refine TC.exit ?_
        refine TE.then_exit ?_
        refine TE.then_exit ?_
        refine TE.inBlock_here ?_
        exact TE.cutP () () (he3 _ (Option.some.inj H3).symm).symm (Env.le_nil _) (Less.nil _)
    rintro ⟨⟩ ⟨⟩ hp
    replace H := elS_l hp H
    refine TE.then ?_
    refine TC.kp [] [] ?_
    refine TC.seqS ?_
    refine TS.s OpY.assign rfl ?_
    refine TS.nil ?_
    refine TE.then ?_
    refine TC.kp [4] [] ?_
    refine TC.ret ?_
    obtain rfl := (Option.some.inj H)
    exact TE.ret1 rfl Cv.le
def cache_Forget (k0 : Kept) (id0 : Int) : Option Kept :=
  (cache_Right k0).bind fun x_3 => (cache_copied k0).bind fun x_4 => (some ((⟨x_4.Most, []⟩ : Kept) : Kept)).bind fun k_6 => ((cache_place x_4.Items id0).bind fun x_10 => bif (x_3 && (decide (x_10 ≥ (0 : Int)))) then ((addI x_10 (1 : Int)).bind fun x_11 => (slices_Delete_api_Item x_4.Items x_10 x_11).bind fun x_12 => some x_12) else (some x_4.Items)).bind fun l_8 => (some ((⟨k_6.Most, l_8⟩ : Kept) : Kept)).bind fun k_14 => some k_14
/-- cache.Forget -/
theorem cache_Forget_c {A : Nat → Prop} {k0 : Kept} {id0 : Int}  {r : Kept} (w : World) (v0 v1 : Value) (hA : ∀ k, w.heap.size ≤ k → A k)  (h0 : (D (k0 : Kept)).p A w v0) (h1 : (D (id0 : Int)).p A w v1) (H : cache_Forget k0 id0 = some r) :
    Calls Try.prog 13 #[v0, v1] w (Ret A w (D (r : Kept))) := by
  unfold cache_Forget at H
  refine enter2 hA Try.func13 rfl Try.ntmps13 rfl h0 h1 ?_
  refine TC.seqS ?_
  refine TS.box rfl fun b2_0 => ?_
  refine TS.alloc (α := Kept) rfl fun b4_1 => ?_
  refine TS.nil ?_
  refine TE.then ?_
  refine TC.kp [1, 2, 4] [b2_0, b4_1] ?_
  refine TC.seqS ?_
  refine TS.s (OpD.ldq Pl.one) rfl ?_
  obtain ⟨x_3, ex_3, H⟩ := bnd H
  refine TS.s (OpY.call1 fun w v0 hA h0 => cache_Right_c w v0 hA (toD h0) ex_3) rfl ?_
  refine TS.s OpY.assign rfl ?_
  refine TS.nil ?_
  refine TE.then ?_
  refine TC.kp [1, 2, 4, 5] [b2_0, b4_1] ?_
  refine TC.seqS ?_
  refine TS.s (OpD.ldq Pl.one) rfl ?_
  obtain ⟨x_4, ex_4, H⟩ := bnd H
  refine TS.t (OpT.callO1 [] fun w v0 hA hO hap hks h0 => cache_copied_o w v0 hA hO hap hks (toD h0) ex_4) rfl fun ⟨b10_4, p10_4, c10_4⟩ => ?_
  dsimp only [List.cons_append, List.nil_append]
  refine TS.un (OpT.storeC trivial rfl CtSc.h) ?_
  refine TS.nil ?_
  refine TE.then ?_
  refine TC.kp [1, 2, 4, 5] [b2_0, b10_4, b4_1] ?_
  obtain ⟨k_6, ek_6, H⟩ := bnd H
  refine TC.nmB b2_0 (nm_mix (nm_one ek_6)) ?_
  refine TC.seq ?_
  obtain ⟨o_9, H9, H⟩ := bnd H
  refine TC.cutP (fun s : (List Item) => o_9 = s) (fun (l_8 : (List Item)) (⟨b_6, p_6, c_6⟩ : Nat × Prop × Nat) => (Env.set (Env.set Env.nil 2 (Pt b2_0 0)) 4 (Pt b4_1 0))) (fun (l_8 : (List Item)) (⟨b_6, p_6, c_6⟩ : Nat × Prop × Nat) => [⟨b_6, p_6, (Row (l_8 : List Item) c_6)⟩, ⟨b2_0, True, (Ct.mix (One (k_6 : Kept)) 1 (Sl b_6 p_6 0 l_8.length c_6))⟩, ⟨b4_1, True, (One (Dat.z : Kept))⟩]) ?_ ?_
  · skip
    refine TC.seqS ?_
    refine TS.s OpY.fieldAddr rfl ?_
    refine TS.s (OpD.ldHq CeH.here) rfl ?_
    refine TS.s OpY.move rfl ?_
    obtain ⟨x_10, ex_10, H9⟩ := bnd H9
    refine TS.s (OpY.callB2 [b10_4] (ArgB.sv PlS.all rfl (by simp)) ArgB.d fun w v0 v1 hA h0 h1 => cache_place_c w v0 v1 hA (toD h0) (toD h1) ex_10) rfl ?_
    refine TS.s OpY.assign rfl ?_
    refine TS.nil ?_
    refine TE.then ?_
    refine TC.kp [2, 4, 5, 6] [b2_0, b10_4, b4_1] ?_
    refine TC.seqS ?_
    refine TS.s OpY.move rfl ?_
    refine TS.s OpY.move rfl ?_
    refine TS.g 16 rfl (fun hg => OpY.move) rfl ?_
    refine TS.g 16 rfl (fun hg => OpY.geq) rfl ?_
    refine TS.s OpY.pickAnd rfl ?_
    refine TS.nil ?_
    refine TE.then ?_
    refine TC.kp [2, 4, 6, 19] [b2_0, b10_4, b4_1] ?_
    refine TC.cond (fun hc => ?_) (fun hc => ?_)
    · replace H9 := cT H9 hc
      refine TC.regionS ?_
      refine TS.s OpY.fieldAddr rfl ?_
      refine TS.s (OpD.ldHq CeH.here) rfl ?_
      refine TS.s OpY.move rfl ?_
      refine TS.s OpY.move rfl ?_
      obtain ⟨x_11, ex_11, H9⟩ := bnd H9
      refine TS.s (OpD.add ex_11) rfl ?_
      obtain ⟨x_12, ex_12, H9⟩ := bnd H9
      refine TS.t (OpT.callO3 [b10_4] fun w v0 v1 v2 hA hO hap hks h0 h1 h2 => slices_Delete_api_Item_o w v0 v1 v2 hA hO hap hks (slD rfl h0) (toD h1) (toD h2) ex_12) rfl fun ⟨b25_12, p25_12, c25_12⟩ => ?_
      dsimp only [List.cons_append, List.nil_append]
      refine TS.s OpY.fieldAddr rfl ?_
      refine TS.un (OpT.storeHq CtH.same) ?_
      refine TS.nil ?_
      refine TE.kp [2, 4] [b2_0, b25_12, b4_1] ?_
      exact TE.cutP x_12 ⟨b25_12, p25_12, c25_12⟩ (Option.some.inj H9).symm (Env.cv (Env.cv (Env.le_nil _))) (Less.pk rfl (Less.pk rfl (Less.pk rfl (Less.nil _))))
    · replace H9 := cF H9 hc
      refine TC.skip ?_
      exact TE.cutP x_4.Items ⟨b10_4, p10_4, c10_4⟩ (Option.some.inj H9).symm (Env.cv (Env.cv (Env.le_nil _))) (Less.pk rfl (Less.pk rfl (Less.pk rfl (Less.nil _))))
  rintro l_8 ⟨b_6, p_6, c_6⟩ hp
  replace hp := hp.symm
  subst hp
  refine TE.then ?_
  refine TC.kp [2, 4] [b2_0, b_6, b4_1] ?_
  refine TC.seqS ?_
  refine TS.coll b2_0 b_6 (o := 1) (((Pl.fld (off := 1) (α := Kept) (β := (List Item)) Pl.one)).st (l_8 : List Item)) (PubC.sv PlS.all rfl) ?_
  refine TS.s (OpD.ldq Pl.one) rfl ?_
  refine TS.un (OpT.storeq (y := ((⟨k_6.Most, l_8⟩ : Kept) : Kept)) Pl.one) ?_
  refine TS.nil ?_
  refine TE.then ?_
  refine TC.kp [4] [b4_1] ?_
  obtain ⟨k_14, ek_14, H⟩ := bnd H
  refine TC.nmB b4_1 (nm_one ek_14) ?_
  refine TC.ret ?_
  obtain rfl := (Option.some.inj H)
  exact TE.ret1 rfl Cv.le
def bywaylaw13_awake : Option Bool :=
  (cache_New (2 : Int)).bind fun r_1 => (cache_Keep r_1.1 (⟨(1 : Int), ([(UInt8.ofNat 120)] : List UInt8)⟩ : Item)).bind fun r_4 => (cache_Keep r_4.1 (⟨(2 : Int), []⟩ : Item)).bind fun r_5 => (cache_Look r_5.1 (1 : Int)).bind fun r_6 => (cache_Keep r_6.1 (⟨(3 : Int), []⟩ : Item)).bind fun r_7 => (gb ((((((decide (r_1.2 = (0 : Int))) && (decide (r_4.2 = (0 : Int)))) && (decide (r_5.2 = (0 : Int)))) && (decide (r_7.2 = (0 : Int)))) && r_6.2.2) && (decide (r_6.2.1 = ([120] : List UInt8)))) (cache_Ids r_7.1)).bind fun x_8 => (gb ((((((decide (r_1.2 = (0 : Int))) && (decide (r_4.2 = (0 : Int)))) && (decide (r_5.2 = (0 : Int)))) && (decide (r_7.2 = (0 : Int)))) && r_6.2.2) && (decide (r_6.2.1 = ([120] : List UInt8)))) (bywayref08_Ints x_8 ([(1 : Int), (3 : Int)] : List Int))).bind fun x_9 => (gb (((((((decide (r_1.2 = (0 : Int))) && (decide (r_4.2 = (0 : Int)))) && (decide (r_5.2 = (0 : Int)))) && (decide (r_7.2 = (0 : Int)))) && r_6.2.2) && (decide (r_6.2.1 = ([120] : List UInt8)))) && x_9) (cache_Forget r_7.1 (1 : Int))).bind fun x_10 => (gb ((((((((decide (r_1.2 = (0 : Int))) && (decide (r_4.2 = (0 : Int)))) && (decide (r_5.2 = (0 : Int)))) && (decide (r_7.2 = (0 : Int)))) && r_6.2.2) && (decide (r_6.2.1 = ([120] : List UInt8)))) && x_9) && (decide ((x_10.Items.length : Int) = (1 : Int)))) (cache_Right r_7.1)).bind fun x_11 => some (((((((((decide (r_1.2 = (0 : Int))) && (decide (r_4.2 = (0 : Int)))) && (decide (r_5.2 = (0 : Int)))) && (decide (r_7.2 = (0 : Int)))) && r_6.2.2) && (decide (r_6.2.1 = ([120] : List UInt8)))) && x_9) && (decide ((x_10.Items.length : Int) = (1 : Int)))) && x_11)
/-- bywaylaw13.awake -/
theorem bywaylaw13_awake_c {A : Nat → Prop}   {r : Bool} (w : World)  (hA : ∀ k, w.heap.size ≤ k → A k)   (H : bywaylaw13_awake = some r) :
    Calls Try.prog 9 #[] w (Ret A w (D (r : Bool))) := by
  unfold bywaylaw13_awake at H
  refine enter0 hA Try.func9 rfl Try.ntmps9 rfl  ?_
  refine TC.seqS ?_
  refine TS.s OpY.assign rfl ?_
  refine TS.nil ?_
  refine TE.then ?_
  refine TC.kp [] [] ?_
  refine TC.seqS ?_
  obtain ⟨r_1, er_1, H⟩ := bnd H
  refine TS.s (OpY.call1 fun w v0 hA h0 => cache_New_c w v0 hA (toD h0) er_1) rfl ?_
  refine TS.s OpY.move rfl ?_
  refine TS.s (OpY.extract rfl) rfl ?_
  refine TS.s (OpY.extract rfl) rfl ?_
  refine TS.alloc (α := Kept) rfl fun b1_1 => ?_
  refine TS.un (OpT.storeq (y := (r_1.1 : Kept)) Pl.one) ?_
  refine TS.s OpY.assign rfl ?_
  refine TS.nil ?_
  refine TE.then ?_
  refine TC.kp [1, 2] [b1_1] ?_
  refine TC.seqS ?_
  refine TS.s (OpD.ldq Pl.one) rfl ?_
  refine TS.build [.const (.int .u8 120)] rfl rfl (by decide) rfl fun b14_2 => ?_
  refine TS.u OpT.convB rfl ?_
  refine TS.pub b14_2 (PubE.set 15 (PubC.sv PlS.all rfl) (PubE.set 14 (PubC.sv PlS.all rfl) PubE.refl)) ?_
  refine TS.s (OpY.buildAs (⟨(1 : Int), ([(UInt8.ofNat 120)] : List UInt8)⟩ : Item) rfl ⟨_, Try.underlying27, by kernel_rfl⟩ rfl rfl) rfl ?_
  obtain ⟨r_4, er_4, H⟩ := bnd H
  refine TS.s (OpY.call2 fun w v0 v1 hA h0 h1 => cache_Keep_c w v0 v1 hA (toD h0) (toD h1) er_4) rfl ?_
  refine TS.s OpY.move rfl ?_
  refine TS.s (OpY.extract rfl) rfl ?_
  refine TS.s (OpY.extract rfl) rfl ?_
  refine TS.un (OpT.storeq (y := (r_4.1 : Kept)) Pl.one) ?_
  refine TS.s OpY.assign rfl ?_
  refine TS.nil ?_
  refine TE.then ?_
  refine TC.kp [1, 2, 3] [b1_1] ?_
  refine TC.seqS ?_
  refine TS.s (OpD.ldq Pl.one) rfl ?_
  refine TS.s (OpY.buildAs (⟨(2 : Int), []⟩ : Item) rfl ⟨_, Try.underlying27, by kernel_rfl⟩ rfl rfl) rfl ?_
  obtain ⟨r_5, er_5, H⟩ := bnd H
  refine TS.s (OpY.call2 fun w v0 v1 hA h0 h1 => cache_Keep_c w v0 v1 hA (toD h0) (toD h1) er_5) rfl ?_
  refine TS.s OpY.move rfl ?_
  refine TS.s (OpY.extract rfl) rfl ?_
  refine TS.s (OpY.extract rfl) rfl ?_
  refine TS.un (OpT.storeq (y := (r_5.1 : Kept)) Pl.one) ?_
  refine TS.s OpY.assign rfl ?_
  refine TS.nil ?_
  refine TE.then ?_
  refine TC.kp [1, 2, 3, 4] [b1_1] ?_
  refine TC.seqS ?_
  refine TS.s (OpD.ldq Pl.one) rfl ?_
  obtain ⟨r_6, er_6, H⟩ := bnd H
  refine TS.s (OpY.call2 fun w v0 v1 hA h0 h1 => cache_Look_c w v0 v1 hA (toD h0) (toD h1) er_6) rfl ?_
  refine TS.s OpY.move rfl ?_
  refine TS.s (OpY.extract rfl) rfl ?_
  refine TS.s (OpY.extract rfl) rfl ?_
  refine TS.s (OpY.extract rfl) rfl ?_
  refine TS.un (OpT.storeq (y := (r_6.1 : Kept)) Pl.one) ?_
  refine TS.s OpY.assign rfl ?_
  refine TS.s OpY.assign rfl ?_
  refine TS.nil ?_
  refine TE.then ?_
  refine TC.kp [1, 2, 3, 4, 5, 6] [b1_1] ?_
  refine TC.seqS ?_
  refine TS.s (OpD.ldq Pl.one) rfl ?_
  refine TS.s (OpY.buildAs (⟨(3 : Int), []⟩ : Item) rfl ⟨_, Try.underlying27, by kernel_rfl⟩ rfl rfl) rfl ?_
  obtain ⟨r_7, er_7, H⟩ := bnd H
  refine TS.s (OpY.call2 fun w v0 v1 hA h0 h1 => cache_Keep_c w v0 v1 hA (toD h0) (toD h1) er_7) rfl ?_
  refine TS.s OpY.move rfl ?_
  refine TS.s (OpY.extract rfl) rfl ?_
  refine TS.s (OpY.extract rfl) rfl ?_
  refine TS.un (OpT.storeq (y := (r_7.1 : Kept)) Pl.one) ?_
  refine TS.s OpY.assign rfl ?_
  refine TS.nil ?_
  refine TE.then ?_
  refine TC.kp [1, 2, 3, 4, 5, 6, 7] [b1_1] ?_
  refine TC.seqS ?_
  refine TS.s OpY.move rfl ?_
  refine TS.s OpY.eql rfl ?_
  refine TS.s OpY.move rfl ?_
  refine TS.g 40 rfl (fun hg => OpY.move) rfl ?_
  refine TS.g 40 rfl (fun hg => OpY.eql) rfl ?_
  refine TS.s OpY.pickAnd rfl ?_
  refine TS.s OpY.move rfl ?_
  refine TS.g 44 rfl (fun hg => OpY.move) rfl ?_
  refine TS.g 44 rfl (fun hg => OpY.eql) rfl ?_
  refine TS.s OpY.pickAnd rfl ?_
  refine TS.s OpY.move rfl ?_
  refine TS.g 48 rfl (fun hg => OpY.move) rfl ?_
  refine TS.g 48 rfl (fun hg => OpY.eql) rfl ?_
  refine TS.s OpY.pickAnd rfl ?_
  refine TS.s OpY.move rfl ?_
  refine TS.g 52 rfl (fun hg => OpY.move) rfl ?_
  refine TS.s OpY.pickAnd rfl ?_
  refine TS.s OpY.move rfl ?_
  refine TS.g 55 rfl (fun hg => OpY.move) rfl ?_
  refine TS.g 55 rfl (fun hg => OpY.conv_slice_string) rfl ?_
  refine TS.g 55 rfl (fun hg => OpY.eql_string) rfl ?_
  refine TS.s OpY.pickAnd rfl ?_
  refine TS.s OpY.move rfl ?_
  refine TS.g 60 rfl (fun hg => (OpD.ldq Pl.one)) rfl ?_
  obtain ⟨x_8, ex_8, H⟩ := bnd H
  refine TS.g 60 rfl (fun hg => (OpY.call1 fun w v0 hA h0 => cache_Ids_c w v0 hA (toD h0) (gb_some ex_8 hg.h))) rfl ?_
  refine TS.g 60 rfl (fun hg => (OpY.buildSlice [.const (.int .i64 1), .const (.int .i64 3)] rfl rfl (by decide))) rfl ?_
  obtain ⟨x_9, ex_9, H⟩ := bnd H
  refine TS.g 60 rfl (fun hg => (OpY.call2 fun w v0 v1 hA h0 h1 => bywayref08_Ints_c w v0 v1 hA (toD h0) (toD h1) (gb_some ex_9 hg.h))) rfl ?_
  refine TS.s OpY.pickAnd rfl ?_
  refine TS.s OpY.move rfl ?_
  refine TS.g 66 rfl (fun hg => (OpD.ldq Pl.one)) rfl ?_
  obtain ⟨x_10, ex_10, H⟩ := bnd H
  refine TS.g 66 rfl (fun hg => (OpY.call2 fun w v0 v1 hA h0 h1 => cache_Forget_c w v0 v1 hA (toD h0) (toD h1) (gb_some ex_10 hg.h))) rfl ?_
  refine TS.g 66 rfl (fun hg => OpY.field) rfl ?_
  refine TS.g 66 rfl (fun hg => OpD.len) rfl ?_
  refine TS.g 66 rfl (fun hg => OpY.eql) rfl ?_
  refine TS.s OpY.pickAnd rfl ?_
  refine TS.s OpY.move rfl ?_
  refine TS.g 73 rfl (fun hg => (OpD.ldq Pl.one)) rfl ?_
  obtain ⟨x_11, ex_11, H⟩ := bnd H
  refine TS.g 73 rfl (fun hg => (OpY.call1 fun w v0 hA h0 => cache_Right_c w v0 hA (toD h0) (gb_some ex_11 hg.h))) rfl ?_
  refine TS.s OpY.pickAnd rfl ?_
  refine TS.s OpY.assign rfl ?_
  refine TS.nil ?_
  refine TE.then ?_
  refine TC.kp [0] [] ?_
  refine TC.ret ?_
  obtain rfl := (Option.some.inj H)
  exact TE.ret1 rfl Cv.le
def bywayref13_Right_l2 (k0 : Kept) (i_3 : Int) (n_8 : Int) : Option (Int ⊕ (Unit ⊕ Bool)) :=
  bif (decide (n_8 < i_3)) then ((idx k0.Items n_8).bind fun x_10 => (idx k0.Items i_3).bind fun x_11 => bif (decide (x_10.Id = x_11.Id)) then (some (.inr (.inr false))) else ((addI n_8 (1 : Int)).bind fun x_14 => some (.inl x_14))) else (some (.inr (.inl ())))
def bywayref13_Right_l1 (k0 : Kept) (i_3 : Int) : Option (Int ⊕ (Unit ⊕ Bool)) :=
  bif (decide (i_3 < (k0.Items.length : Int))) then ((idx k0.Items i_3).bind fun x_5 => bif (decide (x_5.Id < (0 : Int))) then (some (.inr (.inr false))) else ((loopO (fun s => bywayref13_Right_l2 k0 i_3 s) (0 : Int)).bind fun o_7 => elS o_7 (fun _ => (addI i_3 (1 : Int)).bind fun x_15 => some (.inl x_15)) (fun q => some (.inr (.inr q))))) else (some (.inr (.inl ())))
def bywayref13_Right (k0 : Kept) : Option Bool :=
  bif (((decide (k0.Most < (1 : Int))) || (decide (k0.Most > (64 : Int)))) || (decide ((k0.Items.length : Int) > k0.Most))) then (some false) else ((loopO (fun s => bywayref13_Right_l1 k0 s) (0 : Int)).bind fun o_2 => elS o_2 (fun _ => some true) (fun q => some q))
/-- bywayref13.Right -/
theorem bywayref13_Right_c {A : Nat → Prop} {k0 : Kept}  {r : Bool} (w : World) (v0 : Value) (hA : ∀ k, w.heap.size ≤ k → A k)  (h0 : (D (k0 : Kept)).p A w v0) (H : bywayref13_Right k0 = some r) :
    Calls Try.prog 10 #[v0] w (Ret A w (D (r : Bool))) := by
  unfold bywayref13_Right at H
  refine enter1 hA Try.func10 rfl Try.ntmps10 rfl h0 ?_
  refine TC.seqS ?_
  refine TS.box rfl fun b1_0 => ?_
  refine TS.s OpY.assign rfl ?_
  refine TS.nil ?_
  refine TE.then ?_
  refine TC.kp [1] [b1_0] ?_
  refine TC.seq ?_
  refine TC.seqS ?_
  refine TS.s OpY.fieldAddr rfl ?_
  refine TS.s (OpD.ldq (Pl.fld (off := 0) (α := Kept) (β := Int) Pl.one)) rfl ?_
  refine TS.s OpY.lss rfl ?_
  refine TS.s OpY.move rfl ?_
  refine TS.g 8 rfl (fun hg => OpY.fieldAddr) rfl ?_
  refine TS.g 8 rfl (fun hg => (OpD.ldq (Pl.fld (off := 0) (α := Kept) (β := Int) Pl.one))) rfl ?_
  refine TS.g 8 rfl (fun hg => OpY.gtr) rfl ?_
  refine TS.s OpY.pickOr rfl ?_
  refine TS.s OpY.move rfl ?_
  refine TS.g 13 rfl (fun hg => OpY.fieldAddr) rfl ?_
  refine TS.g 13 rfl (fun hg => (OpD.ldq (Pl.fld (off := 1) (α := Kept) (β := (List Item)) Pl.one))) rfl ?_
  refine TS.g 13 rfl (fun hg => OpD.len) rfl ?_
  refine TS.g 13 rfl (fun hg => OpY.fieldAddr) rfl ?_
  refine TS.g 13 rfl (fun hg => (OpD.ldq (Pl.fld (off := 0) (α := Kept) (β := Int) Pl.one))) rfl ?_
  refine TS.g 13 rfl (fun hg => OpY.gtr) rfl ?_
  refine TS.s OpY.pickOr rfl ?_
  refine TS.nil ?_
  refine TE.then ?_
  refine TC.kp [1, 20] [b1_0] ?_
  refine TC.cond (fun hc => ?_) (fun hc => ?_)
  · replace H := cT H hc
    refine TC.seqS ?_
    refine TS.s OpY.assign rfl ?_
    refine TS.nil ?_
    refine TE.then ?_
    refine TC.kp [2] [] ?_
    refine TC.ret ?_
    refine TE.then_ret ?_
    obtain rfl := (Option.some.inj H)
    exact TE.ret1 rfl Cv.le
  · replace H := cF H hc
    refine TC.skip ?_
    refine TE.then ?_
    refine TC.kp [1] [b1_0] ?_
    refine TC.seq ?_
    refine TC.seqS ?_
    refine TS.s OpY.assign rfl ?_
    refine TS.nil ?_
    refine TE.then ?_
    refine TC.kp [1, 3] [b1_0] ?_
    obtain ⟨o_2, H2, H⟩ := bnd H
    refine TC.cutP (fun s : Unit => o_2 = .inl s) (fun (_ : Unit) (_ : Unit) => Env.nil) (fun (_ : Unit) (_ : Unit) => []) ?_ ?_
    · skip
      refine TC.block ?_
      refine TC.loopP H2 (fun (i_3 : Int) (_ : Unit) => (Env.set (Env.set Env.nil 1 (Pt b1_0 0)) 3 (D (i_3 : Int)))) (fun (i_3 : Int) (_ : Unit) => [⟨b1_0, True, (One (k0 : Kept))⟩]) () (Env.cv (Env.cv (Env.le_nil _))) (Less.pk rfl (Less.nil _)) ?_
      rintro i_3 ⟨⟩ x_4 H4 he4
      replace H4 : bywayref13_Right_l1 k0 i_3 = some x_4 := H4
      unfold bywayref13_Right_l1 at H4
      refine TC.seq ?_
      refine TC.seqS ?_
      refine TS.s OpY.move rfl ?_
      refine TS.s OpY.fieldAddr rfl ?_
      refine TS.s (OpD.ldq (Pl.fld (off := 1) (α := Kept) (β := (List Item)) Pl.one)) rfl ?_
      refine TS.s OpD.len rfl ?_
      refine TS.s OpY.lss rfl ?_
      refine TS.nil ?_
      refine TE.then ?_
      refine TC.kp [1, 3, 25] [b1_0] ?_
      refine TC.cond (fun hc => ?_) (fun hc => ?_)
      · replace H4 := cT H4 hc
        refine TC.skip ?_
        refine TE.then ?_
        refine TC.kp [1, 3] [b1_0] ?_
        refine TC.seq ?_
        refine TC.block ?_
        refine TC.seq ?_
        refine TC.seqS ?_
        refine TS.s OpY.fieldAddr rfl ?_
        refine TS.s (OpD.ldq (Pl.fld (off := 1) (α := Kept) (β := (List Item)) Pl.one)) rfl ?_
        refine TS.s OpY.move rfl ?_
        obtain ⟨x_5, ex_5, H4⟩ := bnd H4
        refine TS.s (OpD.index ex_5) rfl ?_
        refine TS.s OpY.fieldAddr rfl ?_
        refine TS.s OpY.load rfl ?_
        refine TS.s OpY.lss rfl ?_
        refine TS.nil ?_
        refine TE.then ?_
        refine TC.kp [1, 3, 34] [b1_0] ?_
        refine TC.cond (fun hc => ?_) (fun hc => ?_)
        · replace H4 := cT H4 hc
          refine TC.seqS ?_
          refine TS.s OpY.assign rfl ?_
          refine TS.nil ?_
          refine TE.then ?_
          refine TC.kp [2] [] ?_
          refine TC.ret ?_
          refine TE.then_ret ?_
          refine TE.inBlock_ret ?_
          refine TE.then_ret ?_
          refine TE.then_ret ?_
          refine TE.inBlock_ret ?_
          refine TE.cut_ret ?_
          have R5 := elS_r (he4 _ (Option.some.inj H4).symm) H
          refine TE.then_ret ?_
          obtain rfl := (Option.some.inj R5)
          exact TE.ret1 rfl Cv.le
        · replace H4 := cF H4 hc
          refine TC.skip ?_
          refine TE.then ?_
          refine TC.kp [1, 3] [b1_0] ?_
          refine TC.seqS ?_
          refine TS.s OpY.assign rfl ?_
          refine TS.nil ?_
          refine TE.then ?_
          refine TC.kp [1, 3, 4] [b1_0] ?_
          obtain ⟨o_7, H7, H4⟩ := bnd H4
          refine TC.cutP (fun s : Unit => o_7 = .inl s) (fun (_ : Unit) (_ : Unit) => (Env.set (Env.set Env.nil 1 (Pt b1_0 0)) 3 (D (i_3 : Int)))) (fun (_ : Unit) (_ : Unit) => [⟨b1_0, True, (One (k0 : Kept))⟩]) ?_ ?_
          · skip
            refine TC.block ?_
            refine TC.loopP H7 (fun (n_8 : Int) (_ : Unit) => (Env.set (Env.set (Env.set Env.nil 1 (Pt b1_0 0)) 3 (D (i_3 : Int))) 4 (D (n_8 : Int)))) (fun (n_8 : Int) (_ : Unit) => [⟨b1_0, True, (One (k0 : Kept))⟩]) () (Env.cv (Env.cv (Env.cv (Env.le_nil _)))) (Less.pk rfl (Less.nil _)) ?_
            rintro n_8 ⟨⟩ x_9 H9 he9
            replace H9 : bywayref13_Right_l2 k0 i_3 n_8 = some x_9 := H9
            unfold bywayref13_Right_l2 at H9
            refine TC.seq ?_
            refine TC.seqS ?_
            refine TS.s OpY.move rfl ?_
            refine TS.s OpY.move rfl ?_
            refine TS.s OpY.lss rfl ?_
            refine TS.nil ?_
            refine TE.then ?_
            refine TC.kp [1, 3, 4, 37] [b1_0] ?_
            refine TC.cond (fun hc => ?_) (fun hc => ?_)
            · replace H9 := cT H9 hc
              refine TC.skip ?_
              refine TE.then ?_
              refine TC.kp [1, 3, 4] [b1_0] ?_
              refine TC.seq ?_
              refine TC.block ?_
              refine TC.seqD0 mix (by kernel_rfl) ?_
              refine TR.s OpY.fieldAddr rfl ?_
              refine TR.s (OpD.ldq (Pl.fld (off := 1) (α := Kept) (β := (List Item)) Pl.one)) rfl ?_
              refine TR.s OpY.move rfl ?_
              obtain ⟨x_10, ex_10, H9⟩ := bnd H9
              refine TR.s (OpD.index ex_10) rfl ?_
              refine TR.s OpY.fieldAddr rfl ?_
              refine TR.s OpY.load rfl ?_
              refine TR.s OpY.fieldAddr rfl ?_
              refine TR.s (OpD.ldq (Pl.fld (off := 1) (α := Kept) (β := (List Item)) Pl.one)) rfl ?_
              refine TR.s OpY.move rfl ?_
              obtain ⟨x_11, ex_11, H9⟩ := bnd H9
              refine TR.s (OpD.index ex_11) rfl ?_
              refine TR.s OpY.fieldAddr rfl ?_
              refine TR.s OpY.load rfl ?_
              refine TR.s OpY.eql rfl ?_
              refine TR.nil ?_
              refine TC.kp [1, 3, 4, 52] [b1_0] ?_
              refine TC.cond (fun hc => ?_) (fun hc => ?_)
              · replace H9 := cT H9 hc
                refine TC.seqS ?_
                refine TS.s OpY.assign rfl ?_
                refine TS.nil ?_
                refine TE.then ?_
                refine TC.kp [2] [] ?_
                refine TC.ret ?_
                refine TE.inBlock_ret ?_
                refine TE.then_ret ?_
                refine TE.then_ret ?_
                refine TE.inBlock_ret ?_
                refine TE.cut_ret ?_
                have R11 := elS_r (he9 _ (Option.some.inj H9).symm) H4
                refine TE.inBlock_ret ?_
                refine TE.then_ret ?_
                refine TE.then_ret ?_
                refine TE.inBlock_ret ?_
                refine TE.cut_ret ?_
                have R12 := elS_r (he4 _ (Option.some.inj R11).symm) H
                refine TE.then_ret ?_
                obtain rfl := (Option.some.inj R12)
                exact TE.ret1 rfl Cv.le
              · replace H9 := cF H9 hc
                refine TC.skip ?_
                refine TE.inBlock_normal ?_
                refine TE.then ?_
                refine TC.kp [1, 3, 4] [b1_0] ?_
                refine TC.regionS ?_
                refine TS.s OpY.move rfl ?_
                obtain ⟨x_14, ex_14, H9⟩ := bnd H9
                refine TS.s (OpD.add ex_14) rfl ?_
                refine TS.s OpY.assign rfl ?_
                refine TS.nil ?_
                refine TE.kp [1, 3, 4] [b1_0] ?_
                exact TE.backP x_14 () (Option.some.inj H9).symm (Env.cv (Env.cv (Env.cv (Env.le_nil _)))) (Less.pk rfl (Less.nil _))
            · replace H9 := cF H9 hc
              refine TC.exit ?_
              refine TE.then_exit ?_
              refine TE.then_exit ?_
              refine TE.inBlock_here ?_
              exact TE.cutP () () (he9 _ (Option.some.inj H9).symm).symm (Env.cv (Env.cv (Env.le_nil _))) (Less.pk rfl (Less.nil _))
          rintro ⟨⟩ ⟨⟩ hp
          replace H4 := elS_l hp H4
          refine TE.inBlock_normal ?_
          refine TE.then ?_
          refine TC.kp [1, 3] [b1_0] ?_
          refine TC.regionS ?_
          refine TS.s OpY.move rfl ?_
          obtain ⟨x_15, ex_15, H4⟩ := bnd H4
          refine TS.s (OpD.add ex_15) rfl ?_
          refine TS.s OpY.assign rfl ?_
          refine TS.nil ?_
          refine TE.kp [1, 3] [b1_0] ?_
          exact TE.backP x_15 () (Option.some.inj H4).symm (Env.cv (Env.cv (Env.le_nil _))) (Less.pk rfl (Less.nil _))
      · replace H4 := cF H4 hc
        refine TC.exit ?_
        refine TE.then_exit ?_
        refine TE.then_exit ?_
        refine TE.inBlock_here ?_
        exact TE.cutP () () (he4 _ (Option.some.inj H4).symm).symm (Env.le_nil _) (Less.nil _)
    rintro ⟨⟩ ⟨⟩ hp
    replace H := elS_l hp H
    refine TE.then ?_
    refine TC.kp [] [] ?_
    refine TC.seqS ?_
    refine TS.s OpY.assign rfl ?_
    refine TS.nil ?_
    refine TE.then ?_
    refine TC.kp [2] [] ?_
    refine TC.ret ?_
    obtain rfl := (Option.some.inj H)
    exact TE.ret1 rfl Cv.le
def bywayref13_Same_l1 (a0 : Kept) (b0 : Kept) (i_4 : Int) : Option (Int ⊕ (Unit ⊕ Bool)) :=
  bif (decide (i_4 < (a0.Items.length : Int))) then ((idx a0.Items i_4).bind fun x_6 => (idx b0.Items i_4).bind fun x_7 => (gb (!(decide (x_6.Id ≠ x_7.Id))) (idx a0.Items i_4)).bind fun x_8 => (gb (!(decide (x_6.Id ≠ x_7.Id))) (idx b0.Items i_4)).bind fun x_9 => bif ((decide (x_6.Id ≠ x_7.Id)) || (decide (x_8.Body ≠ x_9.Body))) then (some (.inr (.inr false))) else ((addI i_4 (1 : Int)).bind fun x_11 => some (.inl x_11))) else (some (.inr (.inl ())))
def bywayref13_Same (a0 : Kept) (b0 : Kept) : Option Bool :=
  bif ((decide (a0.Most ≠ b0.Most)) || (decide ((a0.Items.length : Int) ≠ (b0.Items.length : Int)))) then (some false) else ((loopO (fun s => bywayref13_Same_l1 a0 b0 s) (0 : Int)).bind fun o_3 => elS o_3 (fun _ => some true) (fun q => some q))
/-- bywayref13.Same -/
theorem bywayref13_Same_c {A : Nat → Prop} {a0 : Kept} {b0 : Kept}  {r : Bool} (w : World) (v0 v1 : Value) (hA : ∀ k, w.heap.size ≤ k → A k)  (h0 : (D (a0 : Kept)).p A w v0) (h1 : (D (b0 : Kept)).p A w v1) (H : bywayref13_Same a0 b0 = some r) :
    Calls Try.prog 17 #[v0, v1] w (Ret A w (D (r : Bool))) := by
  unfold bywayref13_Same at H
  refine enter2 hA Try.func17 rfl Try.ntmps17 rfl h0 h1 ?_
  refine TC.seqS ?_
  refine TS.box rfl fun b2_0 => ?_
  refine TS.box rfl fun b3_1 => ?_
  refine TS.s OpY.assign rfl ?_
  refine TS.nil ?_
  refine TE.then ?_
  refine TC.kp [2, 3] [b2_0, b3_1] ?_
  refine TC.seq ?_
  refine TC.seqS ?_
  refine TS.s OpY.fieldAddr rfl ?_
  refine TS.s (OpD.ldq (Pl.fld (off := 0) (α := Kept) (β := Int) Pl.one)) rfl ?_
  refine TS.s OpY.fieldAddr rfl ?_
  refine TS.s (OpD.ldq (Pl.fld (off := 0) (α := Kept) (β := Int) Pl.one)) rfl ?_
  refine TS.s OpY.neq rfl ?_
  refine TS.s OpY.move rfl ?_
  refine TS.g 11 rfl (fun hg => OpY.fieldAddr) rfl ?_
  refine TS.g 11 rfl (fun hg => (OpD.ldq (Pl.fld (off := 1) (α := Kept) (β := (List Item)) Pl.one))) rfl ?_
  refine TS.g 11 rfl (fun hg => OpD.len) rfl ?_
  refine TS.g 11 rfl (fun hg => OpY.fieldAddr) rfl ?_
  refine TS.g 11 rfl (fun hg => (OpD.ldq (Pl.fld (off := 1) (α := Kept) (β := (List Item)) Pl.one))) rfl ?_
  refine TS.g 11 rfl (fun hg => OpD.len) rfl ?_
  refine TS.g 11 rfl (fun hg => OpY.neq) rfl ?_
  refine TS.s OpY.pickOr rfl ?_
  refine TS.nil ?_
  refine TE.then ?_
  refine TC.kp [2, 3, 19] [b2_0, b3_1] ?_
  refine TC.cond (fun hc => ?_) (fun hc => ?_)
  · replace H := cT H hc
    refine TC.seqS ?_
    refine TS.s OpY.assign rfl ?_
    refine TS.nil ?_
    refine TE.then ?_
    refine TC.kp [4] [] ?_
    refine TC.ret ?_
    refine TE.then_ret ?_
    obtain rfl := (Option.some.inj H)
    exact TE.ret1 rfl Cv.le
  · replace H := cF H hc
    refine TC.skip ?_
    refine TE.then ?_
    refine TC.kp [2, 3] [b2_0, b3_1] ?_
    refine TC.seq ?_
    refine TC.seqS ?_
    refine TS.s OpY.assign rfl ?_
    refine TS.nil ?_
    refine TE.then ?_
    refine TC.kp [2, 3, 5] [b2_0, b3_1] ?_
    obtain ⟨o_3, H3, H⟩ := bnd H
    refine TC.cutP (fun s : Unit => o_3 = .inl s) (fun (_ : Unit) (_ : Unit) => Env.nil) (fun (_ : Unit) (_ : Unit) => []) ?_ ?_
    · skip
      refine TC.block ?_
      refine TC.loopP H3 (fun (i_4 : Int) (_ : Unit) => (Env.set (Env.set (Env.set Env.nil 2 (Pt b2_0 0)) 3 (Pt b3_1 0)) 5 (D (i_4 : Int)))) (fun (i_4 : Int) (_ : Unit) => [⟨b2_0, True, (One (a0 : Kept))⟩, ⟨b3_1, True, (One (b0 : Kept))⟩]) () (Env.cv (Env.cv (Env.cv (Env.le_nil _)))) (Less.pk rfl (Less.pk rfl (Less.nil _))) ?_
      rintro i_4 ⟨⟩ x_5 H5 he5
      replace H5 : bywayref13_Same_l1 a0 b0 i_4 = some x_5 := H5
      unfold bywayref13_Same_l1 at H5
      refine TC.seq ?_
      refine TC.seqS ?_
      refine TS.s OpY.move rfl ?_
      refine TS.s OpY.fieldAddr rfl ?_
      refine TS.s (OpD.ldq (Pl.fld (off := 1) (α := Kept) (β := (List Item)) Pl.one)) rfl ?_
      refine TS.s OpD.len rfl ?_
      refine TS.s OpY.lss rfl ?_
      refine TS.nil ?_
      refine TE.then ?_
      refine TC.kp [2, 3, 5, 24] [b2_0, b3_1] ?_
      refine TC.cond (fun hc => ?_) (fun hc => ?_)
      · replace H5 := cT H5 hc
        refine TC.skip ?_
        refine TE.then ?_
        refine TC.kp [2, 3, 5] [b2_0, b3_1] ?_
        refine TC.seq ?_
        refine TC.block ?_
        refine TC.seqD0 mix (by kernel_rfl) ?_
        refine TR.s OpY.fieldAddr rfl ?_
        refine TR.s (OpD.ldq (Pl.fld (off := 1) (α := Kept) (β := (List Item)) Pl.one)) rfl ?_
        refine TR.s OpY.move rfl ?_
        obtain ⟨x_6, ex_6, H5⟩ := bnd H5
        refine TR.s (OpD.index ex_6) rfl ?_
        refine TR.s OpY.fieldAddr rfl ?_
        refine TR.s OpY.load rfl ?_
        refine TR.s OpY.fieldAddr rfl ?_
        refine TR.s (OpD.ldq (Pl.fld (off := 1) (α := Kept) (β := (List Item)) Pl.one)) rfl ?_
        refine TR.s OpY.move rfl ?_
        obtain ⟨x_7, ex_7, H5⟩ := bnd H5
        refine TR.s (OpD.index ex_7) rfl ?_
        refine TR.s OpY.fieldAddr rfl ?_
        refine TR.s OpY.load rfl ?_
        refine TR.s OpY.neq rfl ?_
        refine TR.s OpY.move rfl ?_
        refine TR.g 40 rfl (fun hg => OpY.fieldAddr) rfl ?_
        refine TR.g 40 rfl (fun hg => (OpD.ldq (Pl.fld (off := 1) (α := Kept) (β := (List Item)) Pl.one))) rfl ?_
        refine TR.g 40 rfl (fun hg => OpY.move) rfl ?_
        obtain ⟨x_8, ex_8, H5⟩ := bnd H5
        refine TR.g 40 rfl (fun hg => (OpD.index (gb_some ex_8 (nF hg.h)))) rfl ?_
        refine TR.g 40 rfl (fun hg => OpY.fieldAddr) rfl ?_
        refine TR.g 40 rfl (fun hg => OpY.load) rfl ?_
        refine TR.g 40 rfl (fun hg => OpY.conv_slice_string) rfl ?_
        refine TR.g 40 rfl (fun hg => OpY.fieldAddr) rfl ?_
        refine TR.g 40 rfl (fun hg => (OpD.ldq (Pl.fld (off := 1) (α := Kept) (β := (List Item)) Pl.one))) rfl ?_
        refine TR.g 40 rfl (fun hg => OpY.move) rfl ?_
        obtain ⟨x_9, ex_9, H5⟩ := bnd H5
        refine TR.g 40 rfl (fun hg => (OpD.index (gb_some ex_9 (nF hg.h)))) rfl ?_
        refine TR.g 40 rfl (fun hg => OpY.fieldAddr) rfl ?_
        refine TR.g 40 rfl (fun hg => OpY.load) rfl ?_
        refine TR.g 40 rfl (fun hg => OpY.conv_slice_string) rfl ?_
        refine TR.g 40 rfl (fun hg => OpY.neq_string) rfl ?_
        refine TR.s OpY.pickOr rfl ?_
        refine TR.nil ?_
        refine TC.kp [2, 3, 5, 56] [b2_0, b3_1] ?_
        refine TC.cond (fun hc => ?_) (fun hc => ?_)
        · replace H5 := cT H5 hc
          refine TC.seqS ?_
          refine TS.s OpY.assign rfl ?_
          refine TS.nil ?_
          refine TE.then ?_
          refine TC.kp [4] [] ?_
          refine TC.ret ?_
          refine TE.inBlock_ret ?_
          refine TE.then_ret ?_
          refine TE.then_ret ?_
          refine TE.inBlock_ret ?_
          refine TE.cut_ret ?_
          have R9 := elS_r (he5 _ (Option.some.inj H5).symm) H
          refine TE.then_ret ?_
          obtain rfl := (Option.some.inj R9)
          exact TE.ret1 rfl Cv.le
        · replace H5 := cF H5 hc
          refine TC.skip ?_
          refine TE.inBlock_normal ?_
          refine TE.then ?_
          refine TC.kp [2, 3, 5] [b2_0, b3_1] ?_
          refine TC.regionS ?_
          refine TS.s OpY.move rfl ?_
          obtain ⟨x_11, ex_11, H5⟩ := bnd H5
          refine TS.s (OpD.add ex_11) rfl ?_
          refine TS.s OpY.assign rfl ?_
          refine TS.nil ?_
          refine TE.kp [2, 3, 5] [b2_0, b3_1] ?_
          exact TE.backP x_11 () (Option.some.inj H5).symm (Env.cv (Env.cv (Env.cv (Env.le_nil _)))) (Less.pk rfl (Less.pk rfl (Less.nil _)))
      · replace H5 := cF H5 hc
        refine TC.exit ?_
        refine TE.then_exit ?_
        refine TE.then_exit ?_
        refine TE.inBlock_here ?_
        exact TE.cutP () () (he5 _ (Option.some.inj H5).symm).symm (Env.le_nil _) (Less.nil _)
    rintro ⟨⟩ ⟨⟩ hp
    replace H := elS_l hp H
    refine TE.then ?_
    refine TC.kp [] [] ?_
    refine TC.seqS ?_
    refine TS.s OpY.assign rfl ?_
    refine TS.nil ?_
    refine TE.then ?_
    refine TC.kp [4] [] ?_
    refine TC.ret ?_
    obtain rfl := (Option.some.inj H)
    exact TE.ret1 rfl Cv.le
def bywayref13_Without_l1 (k0 : Kept) (id0 : Int) (i_6 : Int) (l_8 : (List Item)) : Option ((Int × (List Item)) ⊕ (List Item)) :=
  bif (decide (i_6 < (k0.Items.length : Int))) then (((idx k0.Items i_6).bind fun x_13 => bif (decide (x_13.Id ≠ id0)) then ((idx k0.Items i_6).bind fun x_14 => (room 32 ((l_8.length + ([x_14] : List Item).length : Nat) : Int)).bind fun u_16 => (some ((l_8 ++ ([x_14] : List Item)) : (List Item))).bind fun l_17 => some l_17) else (some l_8)).bind fun l_11 => (addI i_6 (1 : Int)).bind fun x_18 => some (.inl (x_18, l_11))) else (some (.inr l_8))
def bywayref13_Without (k0 : Kept) (id0 : Int) : Option Kept :=
  (loopO (fun s => bywayref13_Without_l1 k0 id0 s.1 s.2) ((0 : Int), [])).bind fun l_4 => (some ((⟨k0.Most, l_4⟩ : Kept) : Kept)).bind fun k_19 => some k_19
/-- bywayref13.Without -/
theorem bywayref13_Without_c {A : Nat → Prop} {k0 : Kept} {id0 : Int}  {r : Kept} (w : World) (v0 v1 : Value) (hA : ∀ k, w.heap.size ≤ k → A k)  (h0 : (D (k0 : Kept)).p A w v0) (h1 : (D (id0 : Int)).p A w v1) (H : bywayref13_Without k0 id0 = some r) :
    Calls Try.prog 19 #[v0, v1] w (Ret A w (D (r : Kept))) := by
  unfold bywayref13_Without at H
  refine enter2 hA Try.func19 rfl Try.ntmps19 rfl h0 h1 ?_
  refine TC.seqS ?_
  refine TS.box rfl fun b2_0 => ?_
  refine TS.alloc (α := Kept) rfl fun b4_1 => ?_
  refine TS.nil ?_
  refine TE.then ?_
  refine TC.kp [1, 2, 4] [b2_0, b4_1] ?_
  refine TC.seqS ?_
  refine TS.s OpY.assign rfl ?_
  refine TS.nil ?_
  refine TE.then ?_
  refine TC.kp [1, 2, 4, 5] [b2_0, b4_1] ?_
  refine TC.seq ?_
  refine TC.seqS ?_
  refine TS.s OpY.assign rfl ?_
  refine TS.nil ?_
  refine TE.then ?_
  refine TC.kp [1, 2, 4, 5, 6] [b2_0, b4_1] ?_
  obtain ⟨o_5, H5, H⟩ := bnd H
  refine TC.cutP (fun s : (List Item) => o_5 = s) (fun (l_4 : (List Item)) (⟨b_2, p_2, c_2⟩ : Nat × Prop × Nat) => (Env.set (Env.set (Env.set Env.nil 2 (Pt b2_0 0)) 4 (Pt b4_1 0)) 5 (Sl b_2 p_2 0 l_4.length c_2))) (fun (l_4 : (List Item)) (⟨b_2, p_2, c_2⟩ : Nat × Prop × Nat) => [⟨b_2, p_2, (Row (l_4 : List Item) c_2)⟩, ⟨b2_0, True, (One (k0 : Kept))⟩, ⟨b4_1, True, (One (Dat.z : Kept))⟩]) ?_ ?_
  · skip
    refine TC.block ?_
    refine TC.loopP H5 (fun ⟨i_6, l_8⟩ (⟨b_6, p_6, c_6⟩ : Nat × Prop × Nat) => (Env.set (Env.set (Env.set (Env.set (Env.set Env.nil 1 (D (id0 : Int))) 2 (Pt b2_0 0)) 4 (Pt b4_1 0)) 5 (Sl b_6 p_6 0 l_8.length c_6)) 6 (D (i_6 : Int)))) (fun ⟨i_6, l_8⟩ (⟨b_6, p_6, c_6⟩ : Nat × Prop × Nat) => [⟨b_6, p_6, (Row (l_8 : List Item) c_6)⟩, ⟨b2_0, True, (One (k0 : Kept))⟩, ⟨b4_1, True, (One (Dat.z : Kept))⟩]) ⟨0, False, 0⟩ (Env.cv (Env.cvBy NilS.sl0 (Env.cv (Env.cv (Env.cv (Env.le_nil _)))))) (Less.nilRow (Less.pk rfl (Less.pk rfl (Less.nil _)))) ?_
    rintro ⟨i_6, l_8⟩ ⟨b_6, p_6, c_6⟩ x_9 H9 he9
    replace H9 : bywayref13_Without_l1 k0 id0 i_6 l_8 = some x_9 := H9
    unfold bywayref13_Without_l1 at H9
    refine TC.seq ?_
    refine TC.seqS ?_
    refine TS.s OpY.move rfl ?_
    refine TS.s OpY.fieldAddr rfl ?_
    refine TS.s (OpD.ldq (Pl.fld (off := 1) (α := Kept) (β := (List Item)) Pl.one)) rfl ?_
    refine TS.s OpD.len rfl ?_
    refine TS.s OpY.lss rfl ?_
    refine TS.nil ?_
    refine TE.then ?_
    refine TC.kp [1, 2, 4, 5, 6, 11] [b2_0, b4_1, b_6] ?_
    refine TC.cond (fun hc => ?_) (fun hc => ?_)
    · replace H9 := cT H9 hc
      refine TC.skip ?_
      refine TE.then ?_
      refine TC.kp [1, 2, 4, 5, 6] [b2_0, b4_1, b_6] ?_
      refine TC.seq ?_
      obtain ⟨o_12, H12, H9⟩ := bnd H9
      refine TC.cutP (fun s : (List Item) => o_12 = s) (fun (l_11 : (List Item)) (⟨b_9, p_9, c_9⟩ : Nat × Prop × Nat) => (Env.set (Env.set (Env.set (Env.set (Env.set Env.nil 1 (D (id0 : Int))) 2 (Pt b2_0 0)) 4 (Pt b4_1 0)) 5 (Sl b_9 p_9 0 l_11.length c_9)) 6 (D (i_6 : Int)))) (fun (l_11 : (List Item)) (⟨b_9, p_9, c_9⟩ : Nat × Prop × Nat) => [⟨b_9, p_9, (Row (l_11 : List Item) c_9)⟩, ⟨b2_0, True, (One (k0 : Kept))⟩, ⟨b4_1, True, (One (Dat.z : Kept))⟩]) ?_ ?_
      · skip
        refine TC.block ?_
        refine TC.seqS ?_
        refine TS.s OpY.fieldAddr rfl ?_
        refine TS.s (OpD.ldq (Pl.fld (off := 1) (α := Kept) (β := (List Item)) Pl.one)) rfl ?_
        refine TS.s OpY.move rfl ?_
        obtain ⟨x_13, ex_13, H12⟩ := bnd H12
        refine TS.s (OpD.index ex_13) rfl ?_
        refine TS.s OpY.fieldAddr rfl ?_
        refine TS.s OpY.load rfl ?_
        refine TS.s OpY.move rfl ?_
        refine TS.s OpY.neq rfl ?_
        refine TS.nil ?_
        refine TE.then ?_
        refine TC.kp [1, 2, 4, 5, 6, 21] [b2_0, b4_1, b_6] ?_
        refine TC.cond (fun hc => ?_) (fun hc => ?_)
        · replace H12 := cT H12 hc
          refine TC.regionS ?_
          refine TS.s OpY.move rfl ?_
          refine TS.s OpY.fieldAddr rfl ?_
          refine TS.s (OpD.ldq (Pl.fld (off := 1) (α := Kept) (β := (List Item)) Pl.one)) rfl ?_
          refine TS.s OpY.move rfl ?_
          obtain ⟨x_14, ex_14, H12⟩ := bnd H12
          refine TS.s (OpD.index ex_14) rfl ?_
          refine TS.s OpY.load rfl ?_
          refine TS.s (OpY.buildSlice [.tmp 27] rfl rfl (by decide)) rfl ?_
          obtain ⟨u_16, eu_16, H12⟩ := bnd H12
          refine TS.app (ys := ([x_14] : List Item)) inferInstance eu_16 rfl rfl rfl fun b29_14 p29_14 c29_14 => ?_
          refine TS.s OpY.assign rfl ?_
          refine TS.nil ?_
          refine TE.kp [1, 2, 4, 5, 6] [b2_0, b4_1, b29_14] ?_
          obtain ⟨l_17, el_17, H12⟩ := bnd H12
          refine TE.nmB b29_14 (nm_row el_17) ?_
          refine TE.see 5 _ (nm_sl2 el_17 rfl) ?_
          refine TE.inBlock_normal ?_
          exact TE.cutP l_17 ⟨b29_14, p29_14, c29_14⟩ (Option.some.inj H12).symm (Env.cv (Env.cvBy (Sl_le rfl) (Env.cv (Env.cv (Env.cv (Env.le_nil _)))))) (Less.pk rfl (Less.pk rfl (Less.pk rfl (Less.nil _))))
        · replace H12 := cF H12 hc
          refine TC.skip ?_
          refine TE.inBlock_normal ?_
          exact TE.cutP l_8 ⟨b_6, p_6, c_6⟩ (Option.some.inj H12).symm (Env.cv (Env.cvBy (Sl_le rfl) (Env.cv (Env.cv (Env.cv (Env.le_nil _)))))) (Less.pk rfl (Less.pk rfl (Less.pk rfl (Less.nil _))))
      rintro l_11 ⟨b_9, p_9, c_9⟩ hp
      replace hp := hp.symm
      subst hp
      refine TE.then ?_
      refine TC.kp [1, 2, 4, 5, 6] [b2_0, b4_1, b_9] ?_
      refine TC.regionS ?_
      refine TS.s OpY.move rfl ?_
      obtain ⟨x_18, ex_18, H9⟩ := bnd H9
      refine TS.s (OpD.add ex_18) rfl ?_
      refine TS.s OpY.assign rfl ?_
      refine TS.nil ?_
      refine TE.kp [1, 2, 4, 5, 6] [b2_0, b4_1, b_9] ?_
      exact TE.backP ⟨x_18, l_11⟩ ⟨b_9, p_9, c_9⟩ (Option.some.inj H9).symm (Env.cv (Env.cvBy (Sl_le rfl) (Env.cv (Env.cv (Env.cv (Env.le_nil _)))))) (Less.pk rfl (Less.pk rfl (Less.pk rfl (Less.nil _))))
    · replace H9 := cF H9 hc
      refine TC.exit ?_
      refine TE.then_exit ?_
      refine TE.then_exit ?_
      refine TE.inBlock_here ?_
      exact TE.cutP l_8 ⟨b_6, p_6, c_6⟩ (he9 _ (Option.some.inj H9).symm).symm (Env.cvBy (Sl_le rfl) (Env.cv (Env.cv (Env.le_nil _)))) (Less.pk rfl (Less.pk rfl (Less.pk rfl (Less.nil _))))
  rintro l_4 ⟨b_2, p_2, c_2⟩ hp
  replace hp := hp.symm
  subst hp
  refine TE.then ?_
  refine TC.kp [2, 4, 5] [b2_0, b4_1, b_2] ?_
  refine TC.seqS ?_
  refine TS.s OpY.move rfl ?_
  refine TS.s OpY.fieldAddr rfl ?_
  refine TS.un (OpT.storeHq (CtH.new (by decide))) ?_
  refine TS.nil ?_
  refine TE.then ?_
  refine TC.kp [2, 4] [b2_0, b_2, b4_1] ?_
  refine TC.seqS ?_
  refine TS.coll b2_0 b_2 (o := 1) (((Pl.fld (off := 1) (α := Kept) (β := (List Item)) Pl.one)).st (l_4 : List Item)) (PubC.sv PlS.all rfl) ?_
  refine TS.s (OpD.ldq Pl.one) rfl ?_
  refine TS.un (OpT.storeq (y := ((⟨k0.Most, l_4⟩ : Kept) : Kept)) Pl.one) ?_
  refine TS.nil ?_
  refine TE.then ?_
  refine TC.kp [4] [b4_1] ?_
  obtain ⟨k_19, ek_19, H⟩ := bnd H
  refine TC.nmB b4_1 (nm_one ek_19) ?_
  refine TC.ret ?_
  obtain rfl := (Option.some.inj H)
  exact TE.ret1 rfl Cv.le
def bywayref13_Look_l1 (k0 : Kept) (id0 : Int) (i_4 : Int) : Option (Int ⊕ (Unit ⊕ (Kept × (List UInt8) × Bool))) :=
  bif (decide (i_4 < (k0.Items.length : Int))) then ((idx k0.Items i_4).bind fun x_6 => bif (decide (x_6.Id = id0)) then ((idx k0.Items i_4).bind fun x_7 => (bywayref13_Without k0 id0).bind fun x_9 => (room 32 ((([] : List Item).length + x_9.Items.length : Nat) : Int)).bind fun u_13 => (room 32 (((([] : List Item) ++ x_9.Items).length + ([x_7] : List Item).length : Nat) : Int)).bind fun u_15 => (some (((([] : List Item) ++ x_9.Items) ++ ([x_7] : List Item)) : (List Item))).bind fun l_16 => some (.inr (.inr ((⟨x_9.Most, l_16⟩ : Kept), x_7.Body, true)))) else ((addI i_4 (1 : Int)).bind fun x_18 => some (.inl x_18))) else (some (.inr (.inl ())))
def bywayref13_Look (k0 : Kept) (id0 : Int) : Option (Kept × (List UInt8) × Bool) :=
  (loopO (fun s => bywayref13_Look_l1 k0 id0 s) (0 : Int)).bind fun o_3 => elS o_3 (fun _ => some (k0, ([] : List UInt8), false)) (fun q => some q)
/-- bywayref13.Look -/
theorem bywayref13_Look_c {A : Nat → Prop} {k0 : Kept} {id0 : Int}  {r : (Kept × (List UInt8) × Bool)} (w : World) (v0 v1 : Value) (hA : ∀ k, w.heap.size ≤ k → A k)  (h0 : (D (k0 : Kept)).p A w v0) (h1 : (D (id0 : Int)).p A w v1) (H : bywayref13_Look k0 id0 = some r) :
    Calls Try.prog 18 #[v0, v1] w (Ret A w (Tup [D (r.1 : Kept), D (r.2.1 : (List UInt8)), D (r.2.2 : Bool)])) := by
  unfold bywayref13_Look at H
  refine enter2 hA Try.func18 rfl Try.ntmps18 rfl h0 h1 ?_
  refine TC.seqS ?_
  refine TS.box rfl fun b2_0 => ?_
  refine TS.alloc (α := Kept) rfl fun b4_1 => ?_
  refine TS.s OpY.assign rfl ?_
  refine TS.s OpY.assign rfl ?_
  refine TS.nil ?_
  refine TE.then ?_
  refine TC.kp [1, 2, 4] [b2_0, b4_1] ?_
  refine TC.seq ?_
  refine TC.seqS ?_
  refine TS.s OpY.assign rfl ?_
  refine TS.nil ?_
  refine TE.then ?_
  refine TC.kp [1, 2, 4, 7] [b2_0, b4_1] ?_
  obtain ⟨o_3, H3, H⟩ := bnd H
  refine TC.cutP (fun s : Unit => o_3 = .inl s) (fun (_ : Unit) (_ : Unit) => (Env.set (Env.set Env.nil 2 (Pt b2_0 0)) 4 (Pt b4_1 0))) (fun (_ : Unit) (_ : Unit) => [⟨b2_0, True, (One (k0 : Kept))⟩, ⟨b4_1, True, (One (Dat.z : Kept))⟩]) ?_ ?_
  · skip
    refine TC.block ?_
    refine TC.loopP H3 (fun (i_4 : Int) (_ : Unit) => (Env.set (Env.set (Env.set (Env.set Env.nil 1 (D (id0 : Int))) 2 (Pt b2_0 0)) 4 (Pt b4_1 0)) 7 (D (i_4 : Int)))) (fun (i_4 : Int) (_ : Unit) => [⟨b2_0, True, (One (k0 : Kept))⟩, ⟨b4_1, True, (One (Dat.z : Kept))⟩]) () (Env.cv (Env.cv (Env.cv (Env.cv (Env.le_nil _))))) (Less.pk rfl (Less.pk rfl (Less.nil _))) ?_
    rintro i_4 ⟨⟩ x_5 H5 he5
    replace H5 : bywayref13_Look_l1 k0 id0 i_4 = some x_5 := H5
    unfold bywayref13_Look_l1 at H5
    refine TC.seq ?_
    refine TC.seqS ?_
    refine TS.s OpY.move rfl ?_
    refine TS.s OpY.fieldAddr rfl ?_
    refine TS.s (OpD.ldq (Pl.fld (off := 1) (α := Kept) (β := (List Item)) Pl.one)) rfl ?_
    refine TS.s OpD.len rfl ?_
    refine TS.s OpY.lss rfl ?_
    refine TS.nil ?_
    refine TE.then ?_
    refine TC.kp [1, 2, 4, 7, 14] [b2_0, b4_1] ?_
    refine TC.cond (fun hc => ?_) (fun hc => ?_)
    · replace H5 := cT H5 hc
      refine TC.skip ?_
      refine TE.then ?_
      refine TC.kp [1, 2, 4, 7] [b2_0, b4_1] ?_
      refine TC.seq ?_
      refine TC.block ?_
      refine TC.seqS ?_
      refine TS.s OpY.fieldAddr rfl ?_
      refine TS.s (OpD.ldq (Pl.fld (off := 1) (α := Kept) (β := (List Item)) Pl.one)) rfl ?_
      refine TS.s OpY.move rfl ?_
      obtain ⟨x_6, ex_6, H5⟩ := bnd H5
      refine TS.s (OpD.index ex_6) rfl ?_
      refine TS.s OpY.fieldAddr rfl ?_
      refine TS.s OpY.load rfl ?_
      refine TS.s OpY.move rfl ?_
      refine TS.s OpY.eql rfl ?_
      refine TS.nil ?_
      refine TE.then ?_
      refine TC.kp [1, 2, 4, 7, 24] [b2_0, b4_1] ?_
      refine TC.cond (fun hc => ?_) (fun hc => ?_)
      · replace H5 := cT H5 hc
        refine TC.seqS ?_
        refine TS.s OpY.fieldAddr rfl ?_
        refine TS.s (OpD.ldq (Pl.fld (off := 1) (α := Kept) (β := (List Item)) Pl.one)) rfl ?_
        refine TS.s OpY.move rfl ?_
        obtain ⟨x_7, ex_7, H5⟩ := bnd H5
        refine TS.s (OpD.index ex_7) rfl ?_
        refine TS.s OpY.load rfl ?_
        refine TS.alloc (α := Item) rfl fun b8_7 => ?_
        refine TS.un (OpT.storeq (y := (x_7 : Item)) Pl.one) ?_
        refine TS.nil ?_
        refine TE.then ?_
        refine TC.kp [1, 2, 4, 8] [b2_0, b4_1, b8_7] ?_
        refine TC.seqS ?_
        refine TS.s (OpD.ldq Pl.one) rfl ?_
        refine TS.s OpY.move rfl ?_
        obtain ⟨x_9, ex_9, H5⟩ := bnd H5
        refine TS.s (OpY.call2 fun w v0 v1 hA h0 h1 => bywayref13_Without_c w v0 v1 hA (toD h0) (toD h1) ex_9) rfl ?_
        refine TS.alloc (α := Kept) rfl fun b9_9 => ?_
        refine TS.un (OpT.storeq (y := (x_9 : Kept)) Pl.one) ?_
        refine TS.nil ?_
        refine TE.then ?_
        refine TC.kp [4, 8, 9] [b4_1, b8_7, b9_9] ?_
        refine TC.seqPh 8 [0, 3, 6] [8] [] mix (by kernel_rfl) (by kernel_rfl) rfl (by kernel_rfl) (by kernel_rfl) (by kernel_rfl) ?_
        refine TR.t (fun g => OpT.buildSlice [] rfl rfl (by decide)) rfl ?_
        refine TR.s OpY.fieldAddr rfl ?_
        refine TR.s (OpD.ldq (Pl.fld (off := 1) (α := Kept) (β := (List Item)) Pl.one)) rfl ?_
        obtain ⟨u_13, eu_13, H5⟩ := bnd H5
        refine TR.t (fun g => OpT.appR (ys := x_9.Items) inferInstance eu_13 rfl rfl) rfl ?_
        refine TR.s (OpD.ldq Pl.one) rfl ?_
        refine TR.s (OpY.buildSlice [.tmp 37] rfl rfl (by decide)) rfl ?_
        obtain ⟨u_15, eu_15, H5⟩ := bnd H5
        refine TR.t (fun g => OpT.appR (ys := ([x_7] : List Item)) inferInstance eu_15 rfl rfl) rfl ?_
        refine TR.s OpY.fieldAddr rfl ?_
        refine TR.nil ?_
        rintro ⟨⟨⟨_, ⟨b33_10, _⟩⟩, ⟨b36_11, p36_11, c36_11⟩⟩, ⟨b39_13, p39_13, c39_13⟩⟩
        dsimp only [Fam.nextS, Fam.nextN, Fam.one, List.cons_append, List.nil_append]
        refine PH.next [b9_9] ?_
        refine TR.tn (fun g => (OpT.storeHq (CtH.new (by decide)))) rfl ?_
        refine TR.nil ?_
        rintro ⟨_, _⟩
        dsimp only [Fam.nextS, Fam.nextN, Fam.one, List.cons_append, List.nil_append]
        refine TC.kp [4, 8, 9] [b4_1, b8_7, b9_9, b39_13] ?_
        obtain ⟨l_16, el_16, H5⟩ := bnd H5
        refine TC.nmB b39_13 (nm_row el_16) ?_
        refine TC.nmB b9_9 (mix_n (nm_len el_16 rfl)) ?_
        refine TC.seqD [3] [b4_1] mix (by kernel_rfl) (by kernel_rfl) ?_
        refine TR.s (OpY.ldC trivial rfl rfl) rfl ?_
        refine TR.s OpY.fieldAddr rfl ?_
        refine TR.s (OpD.ldq (Pl.fld (off := 1) (α := Item) (β := (List UInt8)) Pl.one)) rfl ?_
        refine TR.tn (fun g => (OpT.storeC trivial rfl CtSc.h)) rfl ?_
        refine TR.s OpY.assign rfl ?_
        refine TR.s OpY.assign rfl ?_
        refine TR.nil ?_
        rintro ⟨_, _⟩
        dsimp only [Fam.nextS, Fam.nextN, Fam.one, List.cons_append, List.nil_append]
        refine TC.kp [4, 5, 6] [b4_1, b39_13] ?_
        refine TC.ret ?_
        refine TE.inBlock_ret ?_
        refine TE.then_ret ?_
        refine TE.then_ret ?_
        refine TE.inBlock_ret ?_
        refine TE.cut_ret ?_
        have R16 := elS_r (he5 _ (Option.some.inj H5).symm) H
        refine TE.then_ret ?_
        refine TE.coll b4_1 b39_13 (o := 1) (((Pl.fld (off := 1) (α := Kept) (β := (List Item)) Pl.one)).st (l_16 : List Item)) (PubC.sv PlS.all rfl) ?_
        obtain rfl := (Option.some.inj R16)
        exact TE.retN rfl rfl (.cons Cv.le (.cons Cv.le (.cons Cv.le .nil)))
      · replace H5 := cF H5 hc
        refine TC.skip ?_
        refine TE.inBlock_normal ?_
        refine TE.then ?_
        refine TC.kp [1, 2, 4, 7] [b2_0, b4_1] ?_
        refine TC.regionS ?_
        refine TS.s OpY.move rfl ?_
        obtain ⟨x_18, ex_18, H5⟩ := bnd H5
        refine TS.s (OpD.add ex_18) rfl ?_
        refine TS.s OpY.assign rfl ?_
        refine TS.nil ?_
        refine TE.kp [1, 2, 4, 7] [b2_0, b4_1] ?_
        exact TE.backP x_18 () (Option.some.inj H5).symm (Env.cv (Env.cv (Env.cv (Env.cv (Env.le_nil _))))) (Less.pk rfl (Less.pk rfl (Less.nil _)))
    · replace H5 := cF H5 hc
      refine TC.exit ?_
      refine TE.then_exit ?_
      refine TE.then_exit ?_
      refine TE.inBlock_here ?_
      exact TE.cutP () () (he5 _ (Option.some.inj H5).symm).symm (Env.cv (Env.cv (Env.le_nil _))) (Less.pk rfl (Less.pk rfl (Less.nil _)))
  rintro ⟨⟩ ⟨⟩ hp
  replace H := elS_l hp H
  refine TE.then ?_
  refine TC.kp [2, 4] [b2_0, b4_1] ?_
  refine TC.seqS ?_
  refine TS.s (OpD.ldq Pl.one) rfl ?_
  refine TS.un (OpT.storeq (y := (k0 : Kept)) Pl.one) ?_
  refine TS.s OpY.assign rfl ?_
  refine TS.s OpY.assign rfl ?_
  refine TS.nil ?_
  refine TE.then ?_
  refine TC.kp [4, 5, 6] [b4_1] ?_
  refine TC.ret ?_
  obtain rfl := (Option.some.inj H)
  exact TE.retN rfl rfl (.cons Cv.le (.cons Cv.le (.cons Cv.le .nil)))
def bywayref13_Keep (k0 : Kept) (x0 : Item) : Option Kept :=
  (bywayref13_Without k0 x0.Id).bind fun x_4 => (bif (decide ((x_4.Items.length : Int) = k0.Most)) then ((cut x_4.Items.length (1 : Int) x_4.Items.length).bind fun u_8 => (some ((⟨x_4.Most, (x_4.Items.drop (Int.toNat (1 : Int)))⟩ : Kept) : Kept)).bind fun l_9 => some l_9) else (some x_4)).bind fun l_6 => (room 32 ((([] : List Item).length + l_6.Items.length : Nat) : Int)).bind fun u_12 => (room 32 (((([] : List Item) ++ l_6.Items).length + ([x0] : List Item).length : Nat) : Int)).bind fun u_14 => (some (((([] : List Item) ++ l_6.Items) ++ ([x0] : List Item)) : (List Item))).bind fun l_15 => (some ((⟨l_6.Most, l_15⟩ : Kept) : Kept)).bind fun k_16 => some k_16
/-- bywayref13.Keep -/
theorem bywayref13_Keep_c {A : Nat → Prop} {k0 : Kept} {x0 : Item}  {r : Kept} (w : World) (v0 v1 : Value) (hA : ∀ k, w.heap.size ≤ k → A k)  (h0 : (D (k0 : Kept)).p A w v0) (h1 : (D (x0 : Item)).p A w v1) (H : bywayref13_Keep k0 x0 = some r) :
    Calls Try.prog 20 #[v0, v1] w (Ret A w (D (r : Kept))) := by
  unfold bywayref13_Keep at H
  refine enter2 hA Try.func20 rfl Try.ntmps20 rfl h0 h1 ?_
  refine TC.seqS ?_
  refine TS.box rfl fun b2_0 => ?_
  refine TS.box rfl fun b3_1 => ?_
  refine TS.alloc (α := Kept) rfl fun b4_2 => ?_
  refine TS.nil ?_
  refine TE.then ?_
  refine TC.kp [2, 3, 4] [b2_0, b3_1, b4_2] ?_
  refine TC.seqS ?_
  refine TS.s (OpD.ldq Pl.one) rfl ?_
  refine TS.s OpY.fieldAddr rfl ?_
  refine TS.s (OpD.ldq (Pl.fld (off := 0) (α := Item) (β := Int) Pl.one)) rfl ?_
  obtain ⟨x_4, ex_4, H⟩ := bnd H
  refine TS.s (OpY.call2 fun w v0 v1 hA h0 h1 => bywayref13_Without_c w v0 v1 hA (toD h0) (toD h1) ex_4) rfl ?_
  refine TS.alloc (α := Kept) rfl fun b5_4 => ?_
  refine TS.un (OpT.storeq (y := (x_4 : Kept)) Pl.one) ?_
  refine TS.nil ?_
  refine TE.then ?_
  refine TC.kp [2, 3, 4, 5] [b2_0, b3_1, b4_2, b5_4] ?_
  refine TC.seq ?_
  obtain ⟨o_7, H7, H⟩ := bnd H
  refine TC.cutP (fun s : Kept => o_7 = s) (fun (l_6 : Kept) (_ : Unit) => (Env.set (Env.set (Env.set Env.nil 3 (Pt b3_1 0)) 4 (Pt b4_2 0)) 5 (Pt b5_4 0))) (fun (l_6 : Kept) (_ : Unit) => [⟨b3_1, True, (One (x0 : Item))⟩, ⟨b4_2, True, (One (Dat.z : Kept))⟩, ⟨b5_4, True, (One (l_6 : Kept))⟩]) ?_ ?_
  · skip
    refine TC.seqS ?_
    refine TS.s OpY.fieldAddr rfl ?_
    refine TS.s (OpD.ldq (Pl.fld (off := 1) (α := Kept) (β := (List Item)) Pl.one)) rfl ?_
    refine TS.s OpD.len rfl ?_
    refine TS.s OpY.fieldAddr rfl ?_
    refine TS.s (OpD.ldq (Pl.fld (off := 0) (α := Kept) (β := Int) Pl.one)) rfl ?_
    refine TS.s OpY.eql rfl ?_
    refine TS.nil ?_
    refine TE.then ?_
    refine TC.kp [3, 4, 5, 15] [b3_1, b4_2, b5_4] ?_
    refine TC.cond (fun hc => ?_) (fun hc => ?_)
    · replace H7 := cT H7 hc
      refine TC.regionS ?_
      refine TS.s OpY.fieldAddr rfl ?_
      refine TS.s (OpD.ldq (Pl.fld (off := 1) (α := Kept) (β := (List Item)) Pl.one)) rfl ?_
      obtain ⟨u_8, eu_8, H7⟩ := bnd H7
      refine TS.s (OpD.sliceFrom eu_8) rfl ?_
      refine TS.s OpY.fieldAddr rfl ?_
      refine TS.un (OpT.storeq (y := ((x_4.Items.drop (Int.toNat (1 : Int))) : (List Item))) (Pl.fld (off := 1) (α := Kept) (β := (List Item)) Pl.one)) ?_
      refine TS.nil ?_
      refine TE.kp [3, 4, 5] [b3_1, b4_2, b5_4] ?_
      obtain ⟨l_9, el_9, H7⟩ := bnd H7
      refine TE.nmB b5_4 (nm_one el_9) ?_
      exact TE.cutP l_9 () (Option.some.inj H7).symm (Env.cv (Env.cv (Env.cv (Env.le_nil _)))) (Less.pk rfl (Less.pk rfl (Less.pk rfl (Less.nil _))))
    · replace H7 := cF H7 hc
      refine TC.skip ?_
      exact TE.cutP x_4 () (Option.some.inj H7).symm (Env.cv (Env.cv (Env.cv (Env.le_nil _)))) (Less.pk rfl (Less.pk rfl (Less.pk rfl (Less.nil _))))
  rintro l_6 ⟨⟩ hp
  replace hp := hp.symm
  subst hp
  refine TE.then ?_
  refine TC.kp [3, 4, 5] [b3_1, b4_2, b5_4] ?_
  refine TC.seqPh 8 [0, 3, 6] [8] [] mix (by kernel_rfl) (by kernel_rfl) rfl (by kernel_rfl) (by kernel_rfl) (by kernel_rfl) ?_
  refine TR.t (fun g => OpT.buildSlice [] rfl rfl (by decide)) rfl ?_
  refine TR.s OpY.fieldAddr rfl ?_
  refine TR.s (OpD.ldq (Pl.fld (off := 1) (α := Kept) (β := (List Item)) Pl.one)) rfl ?_
  obtain ⟨u_12, eu_12, H⟩ := bnd H
  refine TR.t (fun g => OpT.appR (ys := l_6.Items) inferInstance eu_12 rfl rfl) rfl ?_
  refine TR.s (OpD.ldq Pl.one) rfl ?_
  refine TR.s (OpY.buildSlice [.tmp 24] rfl rfl (by decide)) rfl ?_
  obtain ⟨u_14, eu_14, H⟩ := bnd H
  refine TR.t (fun g => OpT.appR (ys := ([x0] : List Item)) inferInstance eu_14 rfl rfl) rfl ?_
  refine TR.s OpY.fieldAddr rfl ?_
  refine TR.nil ?_
  rintro ⟨⟨⟨_, ⟨b20_9, _⟩⟩, ⟨b23_10, p23_10, c23_10⟩⟩, ⟨b26_12, p26_12, c26_12⟩⟩
  dsimp only [Fam.nextS, Fam.nextN, Fam.one, List.cons_append, List.nil_append]
  refine PH.next [b5_4] ?_
  refine TR.tn (fun g => (OpT.storeHq (CtH.new (by decide)))) rfl ?_
  refine TR.nil ?_
  rintro ⟨_, _⟩
  dsimp only [Fam.nextS, Fam.nextN, Fam.one, List.cons_append, List.nil_append]
  refine TC.kp [4, 5] [b4_2, b5_4, b26_12] ?_
  obtain ⟨l_15, el_15, H⟩ := bnd H
  refine TC.nmB b26_12 (nm_row el_15) ?_
  refine TC.nmB b5_4 (mix_n (nm_len el_15 rfl)) ?_
  refine TC.seqS ?_
  refine TS.coll b5_4 b26_12 (o := 1) (((Pl.fld (off := 1) (α := Kept) (β := (List Item)) Pl.one)).st (l_15 : List Item)) (PubC.sv PlS.all rfl) ?_
  refine TS.s (OpD.ldq Pl.one) rfl ?_
  refine TS.un (OpT.storeq (y := ((⟨l_6.Most, l_15⟩ : Kept) : Kept)) Pl.one) ?_
  refine TS.nil ?_
  refine TE.then ?_
  refine TC.kp [4] [b4_2] ?_
  obtain ⟨k_16, ek_16, H⟩ := bnd H
  refine TC.nmB b4_2 (nm_one ek_16) ?_
  refine TC.ret ?_
  obtain rfl := (Option.some.inj H)
  exact TE.ret1 rfl Cv.le
def bywaylaw13_CacheRight_l1 (k0 : Kept) (x_11 : (List Int)) (i_24 : Int) : Option (Int ⊕ (Unit ⊕ Bool)) :=
  bif (decide (i_24 < (x_11.length : Int))) then ((idx x_11 i_24).bind fun x_26 => (idx k0.Items i_24).bind fun x_27 => bif (decide (x_26 ≠ x_27.Id)) then (some (.inr (.inr false))) else ((addI i_24 (1 : Int)).bind fun x_29 => some (.inl x_29))) else (some (.inr (.inl ())))
def bywaylaw13_CacheRight (k0 : Kept) (id0 : Int) (most0 : Int) (x0 : Item) : Option Bool :=
  (bywaylaw13_awake).bind fun x_3 => bif (!x_3) then (some false) else (bif ((decide ((k0.Items.length : Int) > (80 : Int))) || (decide ((x0.Body.length : Int) > (50 : Int)))) then (some true) else ((bywayref13_Right k0).bind fun x_4 => (cache_Look k0 id0).bind fun r_5 => (cache_Keep k0 x0).bind fun r_7 => (cache_Forget k0 id0).bind fun x_9 => (cache_Ids k0).bind fun x_11 => (cache_New most0).bind fun r_12 => (cache_Right k0).bind fun x_14 => bif ((((decide (x_14 ≠ x_4)) || (decide ((decide (r_12.2 = (0 : Int))) ≠ ((decide (most0 ≥ (1 : Int))) && (decide (most0 ≤ (64 : Int))))))) || ((decide (r_12.2 = (0 : Int))) && (decide (r_12.1.Most ≠ most0)))) || (decide ((r_12.1.Items.length : Int) ≠ (0 : Int)))) then (some false) else (bif (!x_4) then ((bywayref13_Same r_5.1 k0).bind fun x_15 => (gb ((x_15 && (decide ((r_5.2.1.length : Int) = (0 : Int)))) && (!r_5.2.2)) (bywayref13_Same r_7.1 k0)).bind fun x_16 => (gb ((((x_15 && (decide ((r_5.2.1.length : Int) = (0 : Int)))) && (!r_5.2.2)) && x_16) && (decide (r_7.2 = (1 : Int)))) (bywayref13_Same x_9 k0)).bind fun x_17 => some ((((((x_15 && (decide ((r_5.2.1.length : Int) = (0 : Int)))) && (!r_5.2.2)) && x_16) && (decide (r_7.2 = (1 : Int)))) && x_17) && (decide ((x_11.length : Int) = (0 : Int))))) else ((bywayref13_Look k0 id0).bind fun r_18 => (bywayref13_Same r_5.1 r_18.1).bind fun x_20 => (gb (!(((!x_20) || (decide (r_5.2.1 ≠ r_18.2.1))) || (decide (r_5.2.2 ≠ r_18.2.2)))) (bywayref13_Without k0 id0)).bind fun x_21 => (gb (!(((!x_20) || (decide (r_5.2.1 ≠ r_18.2.1))) || (decide (r_5.2.2 ≠ r_18.2.2)))) (bywayref13_Same x_9 x_21)).bind fun x_22 => bif (((((!x_20) || (decide (r_5.2.1 ≠ r_18.2.1))) || (decide (r_5.2.2 ≠ r_18.2.2))) || (!x_22)) || (decide ((x_11.length : Int) ≠ (k0.Items.length : Int)))) then (some false) else ((loopO (fun s => bywaylaw13_CacheRight_l1 k0 x_11 s) (0 : Int)).bind fun o_23 => elS o_23 (fun _ => bif (decide (x0.Id < (0 : Int))) then ((gb (decide (r_7.2 = (1 : Int))) (bywayref13_Same r_7.1 k0)).bind fun x_30 => some ((decide (r_7.2 = (1 : Int))) && x_30)) else ((gb (decide (r_7.2 = (0 : Int))) (bywayref13_Keep k0 x0)).bind fun x_31 => (gb (decide (r_7.2 = (0 : Int))) (bywayref13_Same r_7.1 x_31)).bind fun x_32 => some ((decide (r_7.2 = (0 : Int))) && x_32))) (fun q => some q))))))
/-- bywaylaw13.CacheRight -/
theorem bywaylaw13_CacheRight_c {A : Nat → Prop} {k0 : Kept} {id0 : Int} {most0 : Int} {x0 : Item}  {r : Bool} (w : World) (v0 v1 v2 v3 : Value) (hA : ∀ k, w.heap.size ≤ k → A k)  (h0 : (D (k0 : Kept)).p A w v0) (h1 : (D (id0 : Int)).p A w v1) (h2 : (D (most0 : Int)).p A w v2) (h3 : (D (x0 : Item)).p A w v3) (H : bywaylaw13_CacheRight k0 id0 most0 x0 = some r) :
    Calls Try.prog 3 #[v0, v1, v2, v3] w (Ret A w (D (r : Bool))) := by
  unfold bywaylaw13_CacheRight at H
  refine enter4 hA Try.func3 rfl Try.ntmps3 rfl h0 h1 h2 h3 ?_
  refine TC.seqS ?_
  refine TS.box rfl fun b4_0 => ?_
  refine TS.box rfl fun b7_1 => ?_
  refine TS.s OpY.assign rfl ?_
  refine TS.nil ?_
  refine TE.then ?_
  refine TC.kp [1, 2, 4, 7] [b4_0, b7_1] ?_
  refine TC.seq ?_
  refine TC.seqS ?_
  obtain ⟨x_3, ex_3, H⟩ := bnd H
  refine TS.s (OpY.call0 fun w hA => bywaylaw13_awake_c w hA ex_3) rfl ?_
  refine TS.s OpY.notB rfl ?_
  refine TS.nil ?_
  refine TE.then ?_
  refine TC.kp [1, 2, 4, 7, 24] [b4_0, b7_1] ?_
  refine TC.cond (fun hc => ?_) (fun hc => ?_)
  · replace H := cT H hc
    refine TC.seqS ?_
    refine TS.s OpY.assign rfl ?_
    refine TS.nil ?_
    refine TE.then ?_
    refine TC.kp [8] [] ?_
    refine TC.ret ?_
    refine TE.then_ret ?_
    obtain rfl := (Option.some.inj H)
    exact TE.ret1 rfl Cv.le
  · replace H := cF H hc
    refine TC.skip ?_
    refine TE.then ?_
    refine TC.kp [1, 2, 4, 7] [b4_0, b7_1] ?_
    refine TC.seq ?_
    refine TC.seqS ?_
    refine TS.s OpY.fieldAddr rfl ?_
    refine TS.s (OpD.ldq (Pl.fld (off := 1) (α := Kept) (β := (List Item)) Pl.one)) rfl ?_
    refine TS.s OpD.len rfl ?_
    refine TS.s OpY.gtr rfl ?_
    refine TS.s OpY.move rfl ?_
    refine TS.g 29 rfl (fun hg => OpY.fieldAddr) rfl ?_
    refine TS.g 29 rfl (fun hg => (OpD.ldq (Pl.fld (off := 1) (α := Item) (β := (List UInt8)) Pl.one))) rfl ?_
    refine TS.g 29 rfl (fun hg => OpD.len) rfl ?_
    refine TS.g 29 rfl (fun hg => OpY.gtr) rfl ?_
    refine TS.s OpY.pickOr rfl ?_
    refine TS.nil ?_
    refine TE.then ?_
    refine TC.kp [1, 2, 4, 7, 34] [b4_0, b7_1] ?_
    refine TC.cond (fun hc => ?_) (fun hc => ?_)
    · replace H := cT H hc
      refine TC.seqS ?_
      refine TS.s OpY.assign rfl ?_
      refine TS.nil ?_
      refine TE.then ?_
      refine TC.kp [8] [] ?_
      refine TC.ret ?_
      refine TE.then_ret ?_
      obtain rfl := (Option.some.inj H)
      exact TE.ret1 rfl Cv.le
    · replace H := cF H hc
      refine TC.skip ?_
      refine TE.then ?_
      refine TC.kp [1, 2, 4, 7] [b4_0, b7_1] ?_
      refine TC.seqS ?_
      refine TS.s (OpD.ldq Pl.one) rfl ?_
      obtain ⟨x_4, ex_4, H⟩ := bnd H
      refine TS.s (OpY.call1 fun w v0 hA h0 => bywayref13_Right_c w v0 hA (toD h0) ex_4) rfl ?_
      refine TS.s OpY.assign rfl ?_
      refine TS.nil ?_
      refine TE.then ?_
      refine TC.kp [1, 2, 4, 7, 9] [b4_0, b7_1] ?_
      refine TC.seqS ?_
      refine TS.s (OpD.ldq Pl.one) rfl ?_
      refine TS.s OpY.move rfl ?_
      obtain ⟨r_5, er_5, H⟩ := bnd H
      refine TS.s (OpY.call2 fun w v0 v1 hA h0 h1 => cache_Look_c w v0 v1 hA (toD h0) (toD h1) er_5) rfl ?_
      refine TS.s OpY.move rfl ?_
      refine TS.s (OpY.extract rfl) rfl ?_
      refine TS.s (OpY.extract rfl) rfl ?_
      refine TS.s (OpY.extract rfl) rfl ?_
      refine TS.alloc (α := Kept) rfl fun b10_5 => ?_
      refine TS.un (OpT.storeq (y := (r_5.1 : Kept)) Pl.one) ?_
      refine TS.s OpY.assign rfl ?_
      refine TS.s OpY.assign rfl ?_
      refine TS.nil ?_
      refine TE.then ?_
      refine TC.kp [1, 2, 4, 7, 9, 10, 11, 12] [b4_0, b7_1, b10_5] ?_
      refine TC.seqS ?_
      refine TS.s (OpD.ldq Pl.one) rfl ?_
      refine TS.s (OpD.ldq Pl.one) rfl ?_
      obtain ⟨r_7, er_7, H⟩ := bnd H
      refine TS.s (OpY.call2 fun w v0 v1 hA h0 h1 => cache_Keep_c w v0 v1 hA (toD h0) (toD h1) er_7) rfl ?_
      refine TS.s OpY.move rfl ?_
      refine TS.s (OpY.extract rfl) rfl ?_
      refine TS.s (OpY.extract rfl) rfl ?_
      refine TS.alloc (α := Kept) rfl fun b13_7 => ?_
      refine TS.un (OpT.storeq (y := (r_7.1 : Kept)) Pl.one) ?_
      refine TS.s OpY.assign rfl ?_
      refine TS.nil ?_
      refine TE.then ?_
      refine TC.kp [1, 2, 4, 7, 9, 10, 11, 12, 13, 14] [b4_0, b7_1, b10_5, b13_7] ?_
      refine TC.seqS ?_
      refine TS.s (OpD.ldq Pl.one) rfl ?_
      refine TS.s OpY.move rfl ?_
      obtain ⟨x_9, ex_9, H⟩ := bnd H
      refine TS.s (OpY.call2 fun w v0 v1 hA h0 h1 => cache_Forget_c w v0 v1 hA (toD h0) (toD h1) ex_9) rfl ?_
      refine TS.alloc (α := Kept) rfl fun b15_9 => ?_
      refine TS.un (OpT.storeq (y := (x_9 : Kept)) Pl.one) ?_
      refine TS.nil ?_
      refine TE.then ?_
      refine TC.kp [1, 2, 4, 7, 9, 10, 11, 12, 13, 14, 15] [b4_0, b7_1, b10_5, b13_7, b15_9] ?_
      refine TC.seqS ?_
      refine TS.s (OpD.ldq Pl.one) rfl ?_
      obtain ⟨x_11, ex_11, H⟩ := bnd H
      refine TS.s (OpY.call1 fun w v0 hA h0 => cache_Ids_c w v0 hA (toD h0) ex_11) rfl ?_
      refine TS.s OpY.assign rfl ?_
      refine TS.nil ?_
      refine TE.then ?_
      refine TC.kp [1, 2, 4, 7, 9, 10, 11, 12, 13, 14, 15, 16] [b4_0, b7_1, b10_5, b13_7, b15_9] ?_
      refine TC.seqS ?_
      refine TS.s OpY.move rfl ?_
      obtain ⟨r_12, er_12, H⟩ := bnd H
      refine TS.s (OpY.call1 fun w v0 hA h0 => cache_New_c w v0 hA (toD h0) er_12) rfl ?_
      refine TS.s OpY.move rfl ?_
      refine TS.s (OpY.extract rfl) rfl ?_
      refine TS.s (OpY.extract rfl) rfl ?_
      refine TS.alloc (α := Kept) rfl fun b17_12 => ?_
      refine TS.un (OpT.storeq (y := (r_12.1 : Kept)) Pl.one) ?_
      refine TS.s OpY.assign rfl ?_
      refine TS.nil ?_
      refine TE.then ?_
      refine TC.kp [1, 2, 4, 7, 9, 10, 11, 12, 13, 14, 15, 16, 17, 18] [b4_0, b7_1, b10_5, b13_7, b15_9, b17_12] ?_
      refine TC.seq ?_
      refine TC.seqS ?_
      refine TS.s (OpD.ldq Pl.one) rfl ?_
      obtain ⟨x_14, ex_14, H⟩ := bnd H
      refine TS.s (OpY.call1 fun w v0 hA h0 => cache_Right_c w v0 hA (toD h0) ex_14) rfl ?_
      refine TS.s OpY.move rfl ?_
      refine TS.s (OpY.neq_bool Try.underlying4) rfl ?_
      refine TS.s OpY.move rfl ?_
      refine TS.g 64 rfl (fun hg => OpY.move) rfl ?_
      refine TS.g 64 rfl (fun hg => OpY.eql) rfl ?_
      refine TS.g 64 rfl (fun hg => OpY.move) rfl ?_
      refine TS.g 64 rfl (fun hg => OpY.geq) rfl ?_
      refine TS.g 64 rfl (fun hg => OpY.move) rfl ?_
      refine TS.gg 69 rfl (fun hp hg => OpY.move) rfl ?_
      refine TS.gg 69 rfl (fun hp hg => OpY.leq) rfl ?_
      refine TS.g 64 rfl (fun hg => OpY.pickAnd) rfl ?_
      refine TS.g 64 rfl (fun hg => (OpY.neq_bool Try.underlying4)) rfl ?_
      refine TS.s OpY.pickOr rfl ?_
      refine TS.s OpY.move rfl ?_
      refine TS.g 75 rfl (fun hg => OpY.move) rfl ?_
      refine TS.g 75 rfl (fun hg => OpY.eql) rfl ?_
      refine TS.g 75 rfl (fun hg => OpY.move) rfl ?_
      refine TS.gg 78 rfl (fun hp hg => OpY.fieldAddr) rfl ?_
      refine TS.gg 78 rfl (fun hp hg => (OpD.ldq (Pl.fld (off := 0) (α := Kept) (β := Int) Pl.one))) rfl ?_
      refine TS.gg 78 rfl (fun hp hg => OpY.move) rfl ?_
      refine TS.gg 78 rfl (fun hp hg => OpY.neq) rfl ?_
      refine TS.g 75 rfl (fun hg => OpY.pickAnd) rfl ?_
      refine TS.s OpY.pickOr rfl ?_
      refine TS.s OpY.move rfl ?_
      refine TS.g 85 rfl (fun hg => OpY.fieldAddr) rfl ?_
      refine TS.g 85 rfl (fun hg => (OpD.ldq (Pl.fld (off := 1) (α := Kept) (β := (List Item)) Pl.one))) rfl ?_
      refine TS.g 85 rfl (fun hg => OpD.len) rfl ?_
      refine TS.g 85 rfl (fun hg => OpY.neq) rfl ?_
      refine TS.s OpY.pickOr rfl ?_
      refine TS.nil ?_
      refine TE.then ?_
      refine TC.kp [1, 4, 7, 9, 10, 11, 12, 13, 14, 15, 16, 90] [b4_0, b7_1, b10_5, b13_7, b15_9] ?_
      refine TC.cond (fun hc => ?_) (fun hc => ?_)
      · replace H := cT H hc
        refine TC.seqS ?_
        refine TS.s OpY.assign rfl ?_
        refine TS.nil ?_
        refine TE.then ?_
        refine TC.kp [8] [] ?_
        refine TC.ret ?_
        refine TE.then_ret ?_
        obtain rfl := (Option.some.inj H)
        exact TE.ret1 rfl Cv.le
      · replace H := cF H hc
        refine TC.skip ?_
        refine TE.then ?_
        refine TC.kp [1, 4, 7, 9, 10, 11, 12, 13, 14, 15, 16] [b4_0, b7_1, b10_5, b13_7, b15_9] ?_
        refine TC.seq ?_
        refine TC.seqS ?_
        refine TS.s OpY.move rfl ?_
        refine TS.s OpY.notB rfl ?_
        refine TS.nil ?_
        refine TE.then ?_
        refine TC.kp [1, 4, 7, 10, 11, 12, 13, 14, 15, 16, 92] [b4_0, b7_1, b10_5, b13_7, b15_9] ?_
        refine TC.cond (fun hc => ?_) (fun hc => ?_)
        · replace H := cT H hc
          refine TC.seqS ?_
          refine TS.s (OpD.ldq Pl.one) rfl ?_
          refine TS.s (OpD.ldq Pl.one) rfl ?_
          obtain ⟨x_15, ex_15, H⟩ := bnd H
          refine TS.s (OpY.call2 fun w v0 v1 hA h0 h1 => bywayref13_Same_c w v0 v1 hA (toD h0) (toD h1) ex_15) rfl ?_
          refine TS.s OpY.move rfl ?_
          refine TS.g 96 rfl (fun hg => OpY.move) rfl ?_
          refine TS.g 96 rfl (fun hg => OpD.len) rfl ?_
          refine TS.g 96 rfl (fun hg => OpY.eql) rfl ?_
          refine TS.s OpY.pickAnd rfl ?_
          refine TS.s OpY.move rfl ?_
          refine TS.g 101 rfl (fun hg => OpY.move) rfl ?_
          refine TS.g 101 rfl (fun hg => OpY.notB) rfl ?_
          refine TS.s OpY.pickAnd rfl ?_
          refine TS.s OpY.move rfl ?_
          refine TS.g 105 rfl (fun hg => (OpD.ldq Pl.one)) rfl ?_
          refine TS.g 105 rfl (fun hg => (OpD.ldq Pl.one)) rfl ?_
          obtain ⟨x_16, ex_16, H⟩ := bnd H
          refine TS.g 105 rfl (fun hg => (OpY.call2 fun w v0 v1 hA h0 h1 => bywayref13_Same_c w v0 v1 hA (toD h0) (toD h1) (gb_some ex_16 hg.h))) rfl ?_
          refine TS.s OpY.pickAnd rfl ?_
          refine TS.s OpY.move rfl ?_
          refine TS.g 110 rfl (fun hg => OpY.move) rfl ?_
          refine TS.g 110 rfl (fun hg => OpY.eql) rfl ?_
          refine TS.s OpY.pickAnd rfl ?_
          refine TS.s OpY.move rfl ?_
          refine TS.g 114 rfl (fun hg => (OpD.ldq Pl.one)) rfl ?_
          refine TS.g 114 rfl (fun hg => (OpD.ldq Pl.one)) rfl ?_
          obtain ⟨x_17, ex_17, H⟩ := bnd H
          refine TS.g 114 rfl (fun hg => (OpY.call2 fun w v0 v1 hA h0 h1 => bywayref13_Same_c w v0 v1 hA (toD h0) (toD h1) (gb_some ex_17 hg.h))) rfl ?_
          refine TS.s OpY.pickAnd rfl ?_
          refine TS.s OpY.move rfl ?_
          refine TS.g 119 rfl (fun hg => OpY.move) rfl ?_
          refine TS.g 119 rfl (fun hg => OpD.len) rfl ?_
          refine TS.g 119 rfl (fun hg => OpY.eql) rfl ?_
          refine TS.s OpY.pickAnd rfl ?_
          refine TS.s OpY.assign rfl ?_
          refine TS.nil ?_
          refine TE.then ?_
          refine TC.kp [8] [] ?_
          refine TC.ret ?_
          refine TE.then_ret ?_
          obtain rfl := (Option.some.inj H)
          exact TE.ret1 rfl Cv.le
        · replace H := cF H hc
          refine TC.skip ?_
          refine TE.then ?_
          refine TC.kp [1, 4, 7, 10, 11, 12, 13, 14, 15, 16] [b4_0, b7_1, b10_5, b13_7, b15_9] ?_
          refine TC.seqS ?_
          refine TS.s (OpD.ldq Pl.one) rfl ?_
          refine TS.s OpY.move rfl ?_
          obtain ⟨r_18, er_18, H⟩ := bnd H
          refine TS.s (OpY.call2 fun w v0 v1 hA h0 h1 => bywayref13_Look_c w v0 v1 hA (toD h0) (toD h1) er_18) rfl ?_
          refine TS.s OpY.move rfl ?_
          refine TS.s (OpY.extract rfl) rfl ?_
          refine TS.s (OpY.extract rfl) rfl ?_
          refine TS.s (OpY.extract rfl) rfl ?_
          refine TS.alloc (α := Kept) rfl fun b19_18 => ?_
          refine TS.un (OpT.storeq (y := (r_18.1 : Kept)) Pl.one) ?_
          refine TS.s OpY.assign rfl ?_
          refine TS.s OpY.assign rfl ?_
          refine TS.nil ?_
          refine TE.then ?_
          refine TC.kp [1, 4, 7, 10, 11, 12, 13, 14, 15, 16, 19, 20, 21] [b4_0, b7_1, b10_5, b13_7, b15_9, b19_18] ?_
          refine TC.seq ?_
          refine TC.seqD0 mix (by kernel_rfl) ?_
          refine TR.s (OpD.ldq Pl.one) rfl ?_
          refine TR.s (OpD.ldq Pl.one) rfl ?_
          obtain ⟨x_20, ex_20, H⟩ := bnd H
          refine TR.s (OpY.call2 fun w v0 v1 hA h0 h1 => bywayref13_Same_c w v0 v1 hA (toD h0) (toD h1) ex_20) rfl ?_
          refine TR.s OpY.notB rfl ?_
          refine TR.s OpY.move rfl ?_
          refine TR.g 135 rfl (fun hg => OpY.move) rfl ?_
          refine TR.g 135 rfl (fun hg => OpY.conv_slice_string) rfl ?_
          refine TR.g 135 rfl (fun hg => OpY.move) rfl ?_
          refine TR.g 135 rfl (fun hg => OpY.conv_slice_string) rfl ?_
          refine TR.g 135 rfl (fun hg => OpY.neq_string) rfl ?_
          refine TR.s OpY.pickOr rfl ?_
          refine TR.s OpY.move rfl ?_
          refine TR.g 142 rfl (fun hg => OpY.move) rfl ?_
          refine TR.g 142 rfl (fun hg => OpY.move) rfl ?_
          refine TR.g 142 rfl (fun hg => (OpY.neq_bool Try.underlying4)) rfl ?_
          refine TR.s OpY.pickOr rfl ?_
          refine TR.s OpY.move rfl ?_
          refine TR.g 147 rfl (fun hg => (OpD.ldq Pl.one)) rfl ?_
          refine TR.g 147 rfl (fun hg => (OpD.ldq Pl.one)) rfl ?_
          refine TR.g 147 rfl (fun hg => OpY.move) rfl ?_
          obtain ⟨x_21, ex_21, H⟩ := bnd H
          refine TR.g 147 rfl (fun hg => (OpY.call2 fun w v0 v1 hA h0 h1 => bywayref13_Without_c w v0 v1 hA (toD h0) (toD h1) (gb_some ex_21 (nF hg.h)))) rfl ?_
          obtain ⟨x_22, ex_22, H⟩ := bnd H
          refine TR.g 147 rfl (fun hg => (OpY.call2 fun w v0 v1 hA h0 h1 => bywayref13_Same_c w v0 v1 hA (toD h0) (toD h1) (gb_some ex_22 (nF hg.h)))) rfl ?_
          refine TR.g 147 rfl (fun hg => OpY.notB) rfl ?_
          refine TR.s OpY.pickOr rfl ?_
          refine TR.s OpY.move rfl ?_
          refine TR.g 155 rfl (fun hg => OpY.move) rfl ?_
          refine TR.g 155 rfl (fun hg => OpD.len) rfl ?_
          refine TR.g 155 rfl (fun hg => OpY.fieldAddr) rfl ?_
          refine TR.g 155 rfl (fun hg => (OpD.ldq (Pl.fld (off := 1) (α := Kept) (β := (List Item)) Pl.one))) rfl ?_
          refine TR.g 155 rfl (fun hg => OpD.len) rfl ?_
          refine TR.g 155 rfl (fun hg => OpY.neq) rfl ?_
          refine TR.s OpY.pickOr rfl ?_
          refine TR.nil ?_
          refine TC.kp [4, 7, 13, 14, 16, 162] [b4_0, b7_1, b13_7] ?_
          refine TC.cond (fun hc => ?_) (fun hc => ?_)
          · replace H := cT H hc
            refine TC.seqS ?_
            refine TS.s OpY.assign rfl ?_
            refine TS.nil ?_
            refine TE.then ?_
            refine TC.kp [8] [] ?_
            refine TC.ret ?_
            refine TE.then_ret ?_
            obtain rfl := (Option.some.inj H)
            exact TE.ret1 rfl Cv.le
          · replace H := cF H hc
            refine TC.skip ?_
            refine TE.then ?_
            refine TC.kp [4, 7, 13, 14, 16] [b4_0, b7_1, b13_7] ?_
            refine TC.seq ?_
            refine TC.seqS ?_
            refine TS.s OpY.assign rfl ?_
            refine TS.nil ?_
            refine TE.then ?_
            refine TC.kp [4, 7, 13, 14, 16, 22] [b4_0, b7_1, b13_7] ?_
            obtain ⟨o_23, H23, H⟩ := bnd H
            refine TC.cutP (fun s : Unit => o_23 = .inl s) (fun (_ : Unit) (_ : Unit) => (Env.set (Env.set (Env.set (Env.set Env.nil 4 (Pt b4_0 0)) 7 (Pt b7_1 0)) 13 (Pt b13_7 0)) 14 (D (r_7.2 : Int)))) (fun (_ : Unit) (_ : Unit) => [⟨b4_0, True, (One (k0 : Kept))⟩, ⟨b7_1, True, (One (x0 : Item))⟩, ⟨b13_7, True, (One (r_7.1 : Kept))⟩]) ?_ ?_
            · skip
              refine TC.block ?_
              refine TC.loopP H23 (fun (i_24 : Int) (_ : Unit) => (Env.set (Env.set (Env.set (Env.set (Env.set (Env.set Env.nil 4 (Pt b4_0 0)) 7 (Pt b7_1 0)) 13 (Pt b13_7 0)) 14 (D (r_7.2 : Int))) 16 (D (x_11 : (List Int)))) 22 (D (i_24 : Int)))) (fun (i_24 : Int) (_ : Unit) => [⟨b4_0, True, (One (k0 : Kept))⟩, ⟨b7_1, True, (One (x0 : Item))⟩, ⟨b13_7, True, (One (r_7.1 : Kept))⟩]) () (Env.cv (Env.cv (Env.cv (Env.cv (Env.cv (Env.cv (Env.le_nil _))))))) (Less.pk rfl (Less.pk rfl (Less.pk rfl (Less.nil _)))) ?_
              rintro i_24 ⟨⟩ x_25 H25 he25
              replace H25 : bywaylaw13_CacheRight_l1 k0 x_11 i_24 = some x_25 := H25
              unfold bywaylaw13_CacheRight_l1 at H25
              refine TC.seq ?_
              refine TC.seqS ?_
              refine TS.s OpY.move rfl ?_
              refine TS.s OpY.move rfl ?_
              refine TS.s OpD.len rfl ?_
              refine TS.s OpY.lss rfl ?_
              refine TS.nil ?_
              refine TE.then ?_
              refine TC.kp [4, 7, 13, 14, 16, 22, 166] [b4_0, b7_1, b13_7] ?_
              refine TC.cond (fun hc => ?_) (fun hc => ?_)
              · replace H25 := cT H25 hc
                refine TC.skip ?_
                refine TE.then ?_
                refine TC.kp [4, 7, 13, 14, 16, 22] [b4_0, b7_1, b13_7] ?_
                refine TC.seq ?_
                refine TC.block ?_
                refine TC.seqD0 mix (by kernel_rfl) ?_
                refine TR.s OpY.move rfl ?_
                refine TR.s OpY.move rfl ?_
                obtain ⟨x_26, ex_26, H25⟩ := bnd H25
                refine TR.s (OpD.index ex_26) rfl ?_
                refine TR.s OpY.load rfl ?_
                refine TR.s OpY.fieldAddr rfl ?_
                refine TR.s (OpD.ldq (Pl.fld (off := 1) (α := Kept) (β := (List Item)) Pl.one)) rfl ?_
                refine TR.s OpY.move rfl ?_
                obtain ⟨x_27, ex_27, H25⟩ := bnd H25
                refine TR.s (OpD.index ex_27) rfl ?_
                refine TR.s OpY.fieldAddr rfl ?_
                refine TR.s OpY.load rfl ?_
                refine TR.s OpY.neq rfl ?_
                refine TR.nil ?_
                refine TC.kp [4, 7, 13, 14, 16, 22, 179] [b4_0, b7_1, b13_7] ?_
                refine TC.cond (fun hc => ?_) (fun hc => ?_)
                · replace H25 := cT H25 hc
                  refine TC.seqS ?_
                  refine TS.s OpY.assign rfl ?_
                  refine TS.nil ?_
                  refine TE.then ?_
                  refine TC.kp [8] [] ?_
                  refine TC.ret ?_
                  refine TE.inBlock_ret ?_
                  refine TE.then_ret ?_
                  refine TE.then_ret ?_
                  refine TE.inBlock_ret ?_
                  refine TE.cut_ret ?_
                  have R27 := elS_r (he25 _ (Option.some.inj H25).symm) H
                  refine TE.then_ret ?_
                  obtain rfl := (Option.some.inj R27)
                  exact TE.ret1 rfl Cv.le
                · replace H25 := cF H25 hc
                  refine TC.skip ?_
                  refine TE.inBlock_normal ?_
                  refine TE.then ?_
                  refine TC.kp [4, 7, 13, 14, 16, 22] [b4_0, b7_1, b13_7] ?_
                  refine TC.regionS ?_
                  refine TS.s OpY.move rfl ?_
                  obtain ⟨x_29, ex_29, H25⟩ := bnd H25
                  refine TS.s (OpD.add ex_29) rfl ?_
                  refine TS.s OpY.assign rfl ?_
                  refine TS.nil ?_
                  refine TE.kp [4, 7, 13, 14, 16, 22] [b4_0, b7_1, b13_7] ?_
                  exact TE.backP x_29 () (Option.some.inj H25).symm (Env.cv (Env.cv (Env.cv (Env.cv (Env.cv (Env.cv (Env.le_nil _))))))) (Less.pk rfl (Less.pk rfl (Less.pk rfl (Less.nil _))))
              · replace H25 := cF H25 hc
                refine TC.exit ?_
                refine TE.then_exit ?_
                refine TE.then_exit ?_
                refine TE.inBlock_here ?_
                exact TE.cutP () () (he25 _ (Option.some.inj H25).symm).symm (Env.cv (Env.cv (Env.cv (Env.cv (Env.le_nil _))))) (Less.pk rfl (Less.pk rfl (Less.pk rfl (Less.nil _))))
            rintro ⟨⟩ ⟨⟩ hp
            replace H := elS_l hp H
            refine TE.then ?_
            refine TC.kp [4, 7, 13, 14] [b4_0, b7_1, b13_7] ?_
            refine TC.seq ?_
            refine TC.seqS ?_
            refine TS.s OpY.fieldAddr rfl ?_
            refine TS.s (OpD.ldq (Pl.fld (off := 0) (α := Item) (β := Int) Pl.one)) rfl ?_
            refine TS.s OpY.lss rfl ?_
            refine TS.nil ?_
            refine TE.then ?_
            refine TC.kp [4, 7, 13, 14, 182] [b4_0, b7_1, b13_7] ?_
            refine TC.cond (fun hc => ?_) (fun hc => ?_)
            · replace H := cT H hc
              refine TC.seqS ?_
              refine TS.s OpY.move rfl ?_
              refine TS.s OpY.eql rfl ?_
              refine TS.s OpY.move rfl ?_
              refine TS.g 185 rfl (fun hg => (OpD.ldq Pl.one)) rfl ?_
              refine TS.g 185 rfl (fun hg => (OpD.ldq Pl.one)) rfl ?_
              obtain ⟨x_30, ex_30, H⟩ := bnd H
              refine TS.g 185 rfl (fun hg => (OpY.call2 fun w v0 v1 hA h0 h1 => bywayref13_Same_c w v0 v1 hA (toD h0) (toD h1) (gb_some ex_30 hg.h))) rfl ?_
              refine TS.s OpY.pickAnd rfl ?_
              refine TS.s OpY.assign rfl ?_
              refine TS.nil ?_
              refine TE.then ?_
              refine TC.kp [8] [] ?_
              refine TC.ret ?_
              refine TE.then_ret ?_
              obtain rfl := (Option.some.inj H)
              exact TE.ret1 rfl Cv.le
            · replace H := cF H hc
              refine TC.skip ?_
              refine TE.then ?_
              refine TC.kp [4, 7, 13, 14] [b4_0, b7_1, b13_7] ?_
              refine TC.seqD0 mix (by kernel_rfl) ?_
              refine TR.s OpY.move rfl ?_
              refine TR.s OpY.eql rfl ?_
              refine TR.s OpY.move rfl ?_
              refine TR.g 192 rfl (fun hg => (OpD.ldq Pl.one)) rfl ?_
              refine TR.g 192 rfl (fun hg => (OpD.ldq Pl.one)) rfl ?_
              refine TR.g 192 rfl (fun hg => (OpD.ldq Pl.one)) rfl ?_
              obtain ⟨x_31, ex_31, H⟩ := bnd H
              refine TR.g 192 rfl (fun hg => (OpY.call2 fun w v0 v1 hA h0 h1 => bywayref13_Keep_c w v0 v1 hA (toD h0) (toD h1) (gb_some ex_31 hg.h))) rfl ?_
              obtain ⟨x_32, ex_32, H⟩ := bnd H
              refine TR.g 192 rfl (fun hg => (OpY.call2 fun w v0 v1 hA h0 h1 => bywayref13_Same_c w v0 v1 hA (toD h0) (toD h1) (gb_some ex_32 hg.h))) rfl ?_
              refine TR.s OpY.pickAnd rfl ?_
              refine TR.s OpY.assign rfl ?_
              refine TR.nil ?_
              refine TC.kp [8] [] ?_
              refine TC.ret ?_
              obtain rfl := (Option.some.inj H)
              exact TE.ret1 rfl Cv.le
def bywaylaw13_CacheModel_l2 (used_11 : (Vec Int 256)) (many_22 : Int) (oldest_23 : Int) (n_24 : Int) : Option ((Int × Int × Int) ⊕ (Int × Int)) :=
  bif (decide (n_24 < (256 : Int))) then (((idx used_11.l n_24).bind fun x_29 => bif (decide (x_29 > (0 : Int))) then ((addI many_22 (1 : Int)).bind fun x_30 => (gb (!(decide (oldest_23 < (0 : Int)))) (idx used_11.l n_24)).bind fun x_31 => (gb (!(decide (oldest_23 < (0 : Int)))) (idx used_11.l oldest_23)).bind fun x_32 => bif ((decide (oldest_23 < (0 : Int))) || (decide (x_31 < x_32))) then (some (x_30, n_24)) else (some (x_30, oldest_23))) else (some (many_22, oldest_23))).bind fun o_28 => el2 o_28 (fun many_26 oldest_27 => (addI n_24 (1 : Int)).bind fun x_33 => some (.inl (many_26, oldest_27, x_33)))) else (some (.inr (many_22, oldest_23)))
def bywaylaw13_CacheModel_l3 (used_16 : (Vec Int 256)) (many_67 : Int) (n_68 : Int) : Option ((Int × Int) ⊕ Int) :=
  bif (decide (n_68 < (256 : Int))) then (((idx used_16.l n_68).bind fun x_72 => bif (decide (x_72 > (0 : Int))) then ((addI many_67 (1 : Int)).bind fun x_73 => some x_73) else (some many_67)).bind fun many_70 => (addI n_68 (1 : Int)).bind fun x_74 => some (.inl (many_70, x_74))) else (some (.inr many_67))
def bywaylaw13_CacheModel_l1 (l0 : (List bywaylaw13_Do)) (x_2 : Int) (i_8 : Int) (k_9 : Kept) (vals_10 : (Vec UInt8 256)) (used_11 : (Vec Int 256)) : Option ((Int × Kept × (Vec UInt8 256) × (Vec Int 256)) ⊕ (Unit ⊕ Bool)) :=
  bif ((decide (i_8 < (l0.length : Int))) && (decide (i_8 < (150 : Int)))) then ((idx l0 i_8).bind fun x_13 => ((idx l0 i_8).bind fun x_18 => bif (decide ((x_18.Kind % (UInt8.ofNat 3)) = (UInt8.ofNat 0))) then ((loopO (fun s => bywaylaw13_CacheModel_l2 used_11 s.1 s.2.1 s.2.2) ((0 : Int), (-1 : Int), (0 : Int))).bind fun o_21 => el2 o_21 (fun many_19 oldest_20 => ((idx used_11.l (x_13.Id.toNat : Int)).bind fun x_36 => bif ((decide (x_36 = (0 : Int))) && (decide (many_19 = x_2))) then ((idx used_11.l oldest_20).bind fun x_37 => (some ((Vec.set used_11 (Int.toNat oldest_20) (0 : Int)) : (Vec Int 256))).bind fun used_38 => some used_38) else (some used_11)).bind fun used_34 => (idx l0 i_8).bind fun x_39 => (cache_Keep k_9 (⟨(x_13.Id.toNat : Int), ([x_39.Val] : List UInt8)⟩ : Item)).bind fun r_40 => bif (decide (r_40.2 ≠ (0 : Int))) then (some (.inr false)) else ((idx l0 i_8).bind fun x_44 => (addI i_8 (1 : Int)).bind fun x_45 => (idx vals_10.l (x_13.Id.toNat : Int)).bind fun x_46 => (idx used_34.l (x_13.Id.toNat : Int)).bind fun x_47 => (some ((Vec.set vals_10 (Int.toNat (x_13.Id.toNat : Int)) x_44.Val) : (Vec UInt8 256))).bind fun vals_48 => (some ((Vec.set used_34 (Int.toNat (x_13.Id.toNat : Int)) x_45) : (Vec Int 256))).bind fun used_49 => some (.inl (r_40.1, vals_48, used_49))))) else (bif (decide ((x_18.Kind % (UInt8.ofNat 3)) = (UInt8.ofNat 1))) then ((cache_Look k_9 (x_13.Id.toNat : Int)).bind fun r_50 => (idx used_11.l (x_13.Id.toNat : Int)).bind fun x_52 => (gb (((!(decide (r_50.2.2 ≠ (decide (x_52 > (0 : Int)))))) && r_50.2.2) && (!(decide ((r_50.2.1.length : Int) ≠ (1 : Int))))) (idx r_50.2.1 (0 : Int))).bind fun x_53 => (gb (((!(decide (r_50.2.2 ≠ (decide (x_52 > (0 : Int)))))) && r_50.2.2) && (!(decide ((r_50.2.1.length : Int) ≠ (1 : Int))))) (idx vals_10.l (x_13.Id.toNat : Int))).bind fun x_54 => bif ((decide (r_50.2.2 ≠ (decide (x_52 > (0 : Int))))) || (r_50.2.2 && ((decide ((r_50.2.1.length : Int) ≠ (1 : Int))) || (decide (x_53 ≠ x_54))))) then (some (.inr false)) else ((bif r_50.2.2 then ((addI i_8 (1 : Int)).bind fun x_59 => (idx used_11.l (x_13.Id.toNat : Int)).bind fun x_60 => (some ((Vec.set used_11 (Int.toNat (x_13.Id.toNat : Int)) x_59) : (Vec Int 256))).bind fun used_61 => some used_61) else (some used_11)).bind fun used_57 => some (.inl (r_50.1, vals_10, used_57)))) else ((cache_Forget k_9 (x_13.Id.toNat : Int)).bind fun x_62 => (idx used_11.l (x_13.Id.toNat : Int)).bind fun x_63 => (some ((Vec.set used_11 (Int.toNat (x_13.Id.toNat : Int)) (0 : Int)) : (Vec Int 256))).bind fun used_64 => some (.inl (x_62, vals_10, used_64))))).bind fun o_17 => elS o_17 (fun s => el3 s (fun k_14 vals_15 used_16 => (loopO (fun s => bywaylaw13_CacheModel_l3 used_16 s.1 s.2) ((0 : Int), (0 : Int))).bind fun many_65 => (cache_Ids k_14).bind fun x_75 => (gb (!(decide ((x_75.length : Int) ≠ many_65))) (cache_Right k_14)).bind fun x_76 => bif ((decide ((x_75.length : Int) ≠ many_65)) || (!x_76)) then (some (.inr (.inr false))) else ((addI i_8 (1 : Int)).bind fun x_78 => some (.inl (x_78, k_14, vals_15, used_16))))) (fun q => some (.inr (.inr q)))) else (some (.inr (.inl ())))
def bywaylaw13_CacheModel (most0 : UInt8) (l0 : (List bywaylaw13_Do)) : Option Bool :=
  (bywaylaw13_awake).bind fun x_1 => bif (!x_1) then (some false) else ((addI ((most0 % (UInt8.ofNat 20)).toNat : Int) (1 : Int)).bind fun x_2 => (cache_New x_2).bind fun r_3 => bif (decide (r_3.2 ≠ (0 : Int))) then (some false) else ((loopO (fun s => bywaylaw13_CacheModel_l1 l0 x_2 s.1 s.2.1 s.2.2.1 s.2.2.2) ((0 : Int), r_3.1, Dat.z, Dat.z)).bind fun o_7 => elS o_7 (fun _ => some true) (fun q => some q)))
/-- bywaylaw13.CacheModel -/
theorem bywaylaw13_CacheModel_c {A : Nat → Prop} {most0 : UInt8} {l0 : (List bywaylaw13_Do)}  {r : Bool} (w : World) (v0 v1 : Value) (hA : ∀ k, w.heap.size ≤ k → A k)  (h0 : (D (most0 : UInt8)).p A w v0) (h1 : (D (l0 : (List bywaylaw13_Do))).p A w v1) (H : bywaylaw13_CacheModel most0 l0 = some r) :
    Calls Try.prog 4 #[v0, v1] w (Ret A w (D (r : Bool))) := by
  unfold bywaylaw13_CacheModel at H
  refine enter2 hA Try.func4 rfl Try.ntmps4 rfl h0 h1 ?_
  refine TC.seqS ?_
  refine TS.s OpY.assign rfl ?_
  refine TS.nil ?_
  refine TE.then ?_
  refine TC.kp [0, 1] [] ?_
  refine TC.seq ?_
  refine TC.seqS ?_
  obtain ⟨x_1, ex_1, H⟩ := bnd H
  refine TS.s (OpY.call0 fun w hA => bywaylaw13_awake_c w hA ex_1) rfl ?_
  refine TS.s OpY.notB rfl ?_
  refine TS.nil ?_
  refine TE.then ?_
  refine TC.kp [0, 1, 23] [] ?_
  refine TC.cond (fun hc => ?_) (fun hc => ?_)
  · replace H := cT H hc
    refine TC.seqS ?_
    refine TS.s OpY.assign rfl ?_
    refine TS.nil ?_
    refine TE.then ?_
    refine TC.kp [4] [] ?_
    refine TC.ret ?_
    refine TE.then_ret ?_
    obtain rfl := (Option.some.inj H)
    exact TE.ret1 rfl Cv.le
  · replace H := cF H hc
    refine TC.skip ?_
    refine TE.then ?_
    refine TC.kp [0, 1] [] ?_
    refine TC.seqS ?_
    refine TS.s OpY.move rfl ?_
    refine TS.s (OpY.rem8 (by decide)) rfl ?_
    refine TS.s OpD.conv8_i rfl ?_
    obtain ⟨x_2, ex_2, H⟩ := bnd H
    refine TS.s (OpD.add ex_2) rfl ?_
    refine TS.s OpY.assign rfl ?_
    refine TS.nil ?_
    refine TE.then ?_
    refine TC.kp [1, 5] [] ?_
    refine TC.seqS ?_
    refine TS.s OpY.move rfl ?_
    obtain ⟨r_3, er_3, H⟩ := bnd H
    refine TS.s (OpY.call1 fun w v0 hA h0 => cache_New_c w v0 hA (toD h0) er_3) rfl ?_
    refine TS.s OpY.move rfl ?_
    refine TS.s (OpY.extract rfl) rfl ?_
    refine TS.s (OpY.extract rfl) rfl ?_
    refine TS.alloc (α := Kept) rfl fun b6_3 => ?_
    refine TS.un (OpT.storeq (y := (r_3.1 : Kept)) Pl.one) ?_
    refine TS.s OpY.assign rfl ?_
    refine TS.nil ?_
    refine TE.then ?_
    refine TC.kp [1, 5, 6, 7] [b6_3] ?_
    refine TC.seq ?_
    refine TC.seqS ?_
    refine TS.s OpY.move rfl ?_
    refine TS.s OpY.neq rfl ?_
    refine TS.nil ?_
    refine TE.then ?_
    refine TC.kp [1, 5, 6, 34] [b6_3] ?_
    refine TC.cond (fun hc => ?_) (fun hc => ?_)
    · replace H := cT H hc
      refine TC.seqS ?_
      refine TS.s OpY.assign rfl ?_
      refine TS.nil ?_
      refine TE.then ?_
      refine TC.kp [4] [] ?_
      refine TC.ret ?_
      refine TE.then_ret ?_
      obtain rfl := (Option.some.inj H)
      exact TE.ret1 rfl Cv.le
    · replace H := cF H hc
      refine TC.skip ?_
      refine TE.then ?_
      refine TC.kp [1, 5, 6] [b6_3] ?_
      refine TC.seqS ?_
      refine TS.alloc (α := (Vec UInt8 256)) rfl fun b8_4 => ?_
      refine TS.nil ?_
      refine TE.then ?_
      refine TC.kp [1, 5, 6, 8] [b6_3, b8_4] ?_
      refine TC.seqS ?_
      refine TS.alloc (α := (Vec Int 256)) rfl fun b9_5 => ?_
      refine TS.nil ?_
      refine TE.then ?_
      refine TC.kp [1, 5, 6, 8, 9] [b6_3, b8_4, b9_5] ?_
      refine TC.seq ?_
      refine TC.seqS ?_
      refine TS.s OpY.assign rfl ?_
      refine TS.nil ?_
      refine TE.then ?_
      refine TC.kp [1, 5, 6, 8, 9, 10] [b6_3, b8_4, b9_5] ?_
      obtain ⟨o_7, H7, H⟩ := bnd H
      refine TC.cutP (fun s : Unit => o_7 = .inl s) (fun (_ : Unit) (_ : Unit) => Env.nil) (fun (_ : Unit) (_ : Unit) => []) ?_ ?_
      · skip
        refine TC.block ?_
        refine TC.loopP H7 (fun ⟨i_8, k_9, vals_10, used_11⟩ (_ : Unit) => (Env.set (Env.set (Env.set (Env.set (Env.set (Env.set Env.nil 1 (D (l0 : (List bywaylaw13_Do)))) 5 (D (x_2 : Int))) 6 (Pt b6_3 0)) 8 (Pt b8_4 0)) 9 (Pt b9_5 0)) 10 (D (i_8 : Int)))) (fun ⟨i_8, k_9, vals_10, used_11⟩ (_ : Unit) => [⟨b6_3, True, (One (k_9 : Kept))⟩, ⟨b8_4, True, (One (vals_10 : (Vec UInt8 256)))⟩, ⟨b9_5, True, (One (used_11 : (Vec Int 256)))⟩]) () (Env.cv (Env.cv (Env.cv (Env.cv (Env.cv (Env.cv (Env.le_nil _))))))) (Less.pk rfl (Less.pk rfl (Less.pk rfl (Less.nil _)))) ?_
        rintro ⟨i_8, k_9, vals_10, used_11⟩ ⟨⟩ x_12 H12 he12
        replace H12 : bywaylaw13_CacheModel_l1 l0 x_2 i_8 k_9 vals_10 used_11 = some x_12 := H12
        unfold bywaylaw13_CacheModel_l1 at H12
        refine TC.seq ?_
        refine TC.seqS ?_
        refine TS.s OpY.move rfl ?_
        refine TS.s OpY.move rfl ?_
        refine TS.s OpD.len rfl ?_
        refine TS.s OpY.lss rfl ?_
        refine TS.s OpY.move rfl ?_
        refine TS.g 39 rfl (fun hg => OpY.move) rfl ?_
        refine TS.g 39 rfl (fun hg => OpY.lss) rfl ?_
        refine TS.s OpY.pickAnd rfl ?_
        refine TS.nil ?_
        refine TE.then ?_
        refine TC.kp [1, 5, 6, 8, 9, 10, 42] [b6_3, b8_4, b9_5] ?_
        refine TC.cond (fun hc => ?_) (fun hc => ?_)
        · replace H12 := cT H12 hc
          refine TC.skip ?_
          refine TE.then ?_
          refine TC.kp [1, 5, 6, 8, 9, 10] [b6_3, b8_4, b9_5] ?_
          refine TC.seq ?_
          refine TC.block ?_
          refine TC.seqS ?_
          refine TS.s OpY.move rfl ?_
          refine TS.s OpY.move rfl ?_
          obtain ⟨x_13, ex_13, H12⟩ := bnd H12
          refine TS.s (OpD.index ex_13) rfl ?_
          refine TS.s OpY.fieldAddr rfl ?_
          refine TS.s OpY.load rfl ?_
          refine TS.s OpD.conv8_i rfl ?_
          refine TS.s OpY.assign rfl ?_
          refine TS.nil ?_
          refine TE.then ?_
          refine TC.kp [1, 5, 6, 8, 9, 10, 11] [b6_3, b8_4, b9_5] ?_
          refine TC.seq ?_
          obtain ⟨o_17, H17, H12⟩ := bnd H12
          refine TC.cutP (fun s : (Kept × (Vec UInt8 256) × (Vec Int 256)) => o_17 = .inl s) (fun ⟨k_14, vals_15, used_16⟩ (_ : Unit) => (Env.set (Env.set (Env.set (Env.set (Env.set (Env.set Env.nil 1 (D (l0 : (List bywaylaw13_Do)))) 5 (D (x_2 : Int))) 6 (Pt b6_3 0)) 8 (Pt b8_4 0)) 9 (Pt b9_5 0)) 10 (D (i_8 : Int)))) (fun ⟨k_14, vals_15, used_16⟩ (_ : Unit) => [⟨b6_3, True, (One (k_14 : Kept))⟩, ⟨b8_4, True, (One (vals_15 : (Vec UInt8 256)))⟩, ⟨b9_5, True, (One (used_16 : (Vec Int 256)))⟩]) ?_ ?_
          · skip
            refine TC.seqS ?_
            refine TS.s OpY.move rfl ?_
            refine TS.s OpY.move rfl ?_
            obtain ⟨x_18, ex_18, H17⟩ := bnd H17
            refine TS.s (OpD.index ex_18) rfl ?_
            refine TS.s OpY.fieldAddr rfl ?_
            refine TS.s OpY.load rfl ?_
            refine TS.s (OpY.rem8 (by decide)) rfl ?_
            refine TS.nil ?_
            refine TE.then ?_
            refine TC.kp [1, 5, 6, 8, 9, 10, 11, 56] [b6_3, b8_4, b9_5] ?_
            refine TC.block ?_
            refine TC.seqS ?_
            refine TS.s OpY.eql8 rfl ?_
            refine TS.s OpY.assign rfl ?_
            refine TS.nil ?_
            refine TE.then ?_
            refine TC.kp [1, 5, 6, 8, 9, 10, 11, 56, 62] [b6_3, b8_4, b9_5] ?_
            refine TC.cond (fun hc => ?_) (fun hc => ?_)
            · replace H17 := cT H17 hc
              refine TC.seqS ?_
              refine TS.s OpY.assign rfl ?_
              refine TS.nil ?_
              refine TE.then ?_
              refine TC.kp [1, 5, 6, 8, 9, 10, 11, 12] [b6_3, b8_4, b9_5] ?_
              refine TC.seqS ?_
              refine TS.s OpY.assign rfl ?_
              refine TS.nil ?_
              refine TE.then ?_
              refine TC.kp [1, 5, 6, 8, 9, 10, 11, 12, 13] [b6_3, b8_4, b9_5] ?_
              refine TC.seq ?_
              refine TC.seqS ?_
              refine TS.s OpY.assign rfl ?_
              refine TS.nil ?_
              refine TE.then ?_
              refine TC.kp [1, 5, 6, 8, 9, 10, 11, 12, 13, 14] [b6_3, b8_4, b9_5] ?_
              obtain ⟨o_21, H21, H17⟩ := bnd H17
              refine TC.cutP (fun s : (Int × Int) => o_21 = s) (fun ⟨many_19, oldest_20⟩ (_ : Unit) => (Env.set (Env.set (Env.set (Env.set (Env.set (Env.set (Env.set (Env.set (Env.set Env.nil 1 (D (l0 : (List bywaylaw13_Do)))) 5 (D (x_2 : Int))) 6 (Pt b6_3 0)) 8 (Pt b8_4 0)) 9 (Pt b9_5 0)) 10 (D (i_8 : Int))) 11 (D ((x_13.Id.toNat : Int) : Int))) 12 (D (many_19 : Int))) 13 (D (oldest_20 : Int)))) (fun ⟨many_19, oldest_20⟩ (_ : Unit) => [⟨b6_3, True, (One (k_9 : Kept))⟩, ⟨b8_4, True, (One (vals_10 : (Vec UInt8 256)))⟩, ⟨b9_5, True, (One (used_11 : (Vec Int 256)))⟩]) ?_ ?_
              · skip
                refine TC.block ?_
                refine TC.loopP H21 (fun ⟨many_22, oldest_23, n_24⟩ (_ : Unit) => (Env.set (Env.set (Env.set (Env.set (Env.set (Env.set (Env.set (Env.set (Env.set (Env.set Env.nil 1 (D (l0 : (List bywaylaw13_Do)))) 5 (D (x_2 : Int))) 6 (Pt b6_3 0)) 8 (Pt b8_4 0)) 9 (Pt b9_5 0)) 10 (D (i_8 : Int))) 11 (D ((x_13.Id.toNat : Int) : Int))) 12 (D (many_22 : Int))) 13 (D (oldest_23 : Int))) 14 (D (n_24 : Int)))) (fun ⟨many_22, oldest_23, n_24⟩ (_ : Unit) => [⟨b6_3, True, (One (k_9 : Kept))⟩, ⟨b8_4, True, (One (vals_10 : (Vec UInt8 256)))⟩, ⟨b9_5, True, (One (used_11 : (Vec Int 256)))⟩]) () (Env.cv (Env.cv (Env.cv (Env.cv (Env.cv (Env.cv (Env.cv (Env.cv (Env.cv (Env.cv (Env.le_nil _))))))))))) (Less.pk rfl (Less.pk rfl (Less.pk rfl (Less.nil _)))) ?_
                rintro ⟨many_22, oldest_23, n_24⟩ ⟨⟩ x_25 H25 he25
                replace H25 : bywaylaw13_CacheModel_l2 used_11 many_22 oldest_23 n_24 = some x_25 := H25
                unfold bywaylaw13_CacheModel_l2 at H25
                refine TC.seq ?_
                refine TC.seqS ?_
                refine TS.s OpY.move rfl ?_
                refine TS.s OpY.lss rfl ?_
                refine TS.nil ?_
                refine TE.then ?_
                refine TC.kp [1, 5, 6, 8, 9, 10, 11, 12, 13, 14, 65] [b6_3, b8_4, b9_5] ?_
                refine TC.cond (fun hc => ?_) (fun hc => ?_)
                · replace H25 := cT H25 hc
                  refine TC.skip ?_
                  refine TE.then ?_
                  refine TC.kp [1, 5, 6, 8, 9, 10, 11, 12, 13, 14] [b6_3, b8_4, b9_5] ?_
                  refine TC.seq ?_
                  obtain ⟨o_28, H28, H25⟩ := bnd H25
                  refine TC.cutP (fun s : (Int × Int) => o_28 = s) (fun ⟨many_26, oldest_27⟩ (_ : Unit) => (Env.set (Env.set (Env.set (Env.set (Env.set (Env.set (Env.set (Env.set (Env.set (Env.set Env.nil 1 (D (l0 : (List bywaylaw13_Do)))) 5 (D (x_2 : Int))) 6 (Pt b6_3 0)) 8 (Pt b8_4 0)) 9 (Pt b9_5 0)) 10 (D (i_8 : Int))) 11 (D ((x_13.Id.toNat : Int) : Int))) 12 (D (many_26 : Int))) 13 (D (oldest_27 : Int))) 14 (D (n_24 : Int)))) (fun ⟨many_26, oldest_27⟩ (_ : Unit) => [⟨b6_3, True, (One (k_9 : Kept))⟩, ⟨b8_4, True, (One (vals_10 : (Vec UInt8 256)))⟩, ⟨b9_5, True, (One (used_11 : (Vec Int 256)))⟩]) ?_ ?_
                  · skip
                    refine TC.block ?_
                    refine TC.seqS ?_
                    refine TS.s OpY.move rfl ?_
                    obtain ⟨x_29, ex_29, H28⟩ := bnd H28
                    refine TS.s (OpD.indexArq (idx_in ex_29 (Vec.h _).symm)) rfl ?_
                    refine TS.s (OpD.ldq (Pl.vec (α := Int) Pl.one ex_29)) rfl ?_
                    refine TS.s OpY.gtr rfl ?_
                    refine TS.nil ?_
                    refine TE.then ?_
                    refine TC.kp [1, 5, 6, 8, 9, 10, 11, 12, 13, 14, 71] [b6_3, b8_4, b9_5] ?_
                    refine TC.cond (fun hc => ?_) (fun hc => ?_)
                    · replace H28 := cT H28 hc
                      refine TC.seqS ?_
                      refine TS.s OpY.move rfl ?_
                      obtain ⟨x_30, ex_30, H28⟩ := bnd H28
                      refine TS.s (OpD.add ex_30) rfl ?_
                      refine TS.s OpY.assign rfl ?_
                      refine TS.nil ?_
                      refine TE.then ?_
                      refine TC.kp [1, 5, 6, 8, 9, 10, 11, 12, 13, 14] [b6_3, b8_4, b9_5] ?_
                      refine TC.seqD0 mix (by kernel_rfl) ?_
                      refine TR.s OpY.move rfl ?_
                      refine TR.s OpY.lss rfl ?_
                      refine TR.s OpY.move rfl ?_
                      refine TR.g 76 rfl (fun hg => OpY.move) rfl ?_
                      obtain ⟨x_31, ex_31, H28⟩ := bnd H28
                      refine TR.g 76 rfl (fun hg => (OpD.indexArq (idx_in (gb_some ex_31 (nF hg.h)) (Vec.h _).symm))) rfl ?_
                      refine TR.g 76 rfl (fun hg => (OpD.ldq (Pl.vec (α := Int) Pl.one (gb_some ex_31 (nF hg.h))))) rfl ?_
                      refine TR.g 76 rfl (fun hg => OpY.move) rfl ?_
                      obtain ⟨x_32, ex_32, H28⟩ := bnd H28
                      refine TR.g 76 rfl (fun hg => (OpD.indexArq (idx_in (gb_some ex_32 (nF hg.h)) (Vec.h _).symm))) rfl ?_
                      refine TR.g 76 rfl (fun hg => (OpD.ldq (Pl.vec (α := Int) Pl.one (gb_some ex_32 (nF hg.h))))) rfl ?_
                      refine TR.g 76 rfl (fun hg => OpY.lss) rfl ?_
                      refine TR.s OpY.pickOr rfl ?_
                      refine TR.nil ?_
                      refine TC.kp [1, 5, 6, 8, 9, 10, 11, 12, 13, 14, 84] [b6_3, b8_4, b9_5] ?_
                      refine TC.cond (fun hc => ?_) (fun hc => ?_)
                      · replace H28 := cT H28 hc
                        refine TC.regionS ?_
                        refine TS.s OpY.move rfl ?_
                        refine TS.s OpY.assign rfl ?_
                        refine TS.nil ?_
                        refine TE.kp [1, 5, 6, 8, 9, 10, 11, 12, 13, 14] [b6_3, b8_4, b9_5] ?_
                        refine TE.inBlock_normal ?_
                        exact TE.cutP ⟨x_30, n_24⟩ () (Option.some.inj H28).symm (Env.cv (Env.cv (Env.cv (Env.cv (Env.cv (Env.cv (Env.cv (Env.cv (Env.cv (Env.cv (Env.le_nil _))))))))))) (Less.pk rfl (Less.pk rfl (Less.pk rfl (Less.nil _))))
                      · replace H28 := cF H28 hc
                        refine TC.skip ?_
                        refine TE.inBlock_normal ?_
                        exact TE.cutP ⟨x_30, oldest_23⟩ () (Option.some.inj H28).symm (Env.cv (Env.cv (Env.cv (Env.cv (Env.cv (Env.cv (Env.cv (Env.cv (Env.cv (Env.cv (Env.le_nil _))))))))))) (Less.pk rfl (Less.pk rfl (Less.pk rfl (Less.nil _))))
                    · replace H28 := cF H28 hc
                      refine TC.skip ?_
                      refine TE.inBlock_normal ?_
                      exact TE.cutP ⟨many_22, oldest_23⟩ () (Option.some.inj H28).symm (Env.cv (Env.cv (Env.cv (Env.cv (Env.cv (Env.cv (Env.cv (Env.cv (Env.cv (Env.cv (Env.le_nil _))))))))))) (Less.pk rfl (Less.pk rfl (Less.pk rfl (Less.nil _))))
                  rintro ⟨many_26, oldest_27⟩ ⟨⟩ hp
                  replace hp := hp.symm
                  subst hp
                  replace H25 := el2_mk H25
                  refine TE.then ?_
                  refine TC.kp [1, 5, 6, 8, 9, 10, 11, 12, 13, 14] [b6_3, b8_4, b9_5] ?_
                  refine TC.regionS ?_
                  refine TS.s OpY.move rfl ?_
                  obtain ⟨x_33, ex_33, H25⟩ := bnd H25
                  refine TS.s (OpD.add ex_33) rfl ?_
                  refine TS.s OpY.assign rfl ?_
                  refine TS.nil ?_
                  refine TE.kp [1, 5, 6, 8, 9, 10, 11, 12, 13, 14] [b6_3, b8_4, b9_5] ?_
                  exact TE.backP ⟨many_26, oldest_27, x_33⟩ () (Option.some.inj H25).symm (Env.cv (Env.cv (Env.cv (Env.cv (Env.cv (Env.cv (Env.cv (Env.cv (Env.cv (Env.cv (Env.le_nil _))))))))))) (Less.pk rfl (Less.pk rfl (Less.pk rfl (Less.nil _))))
                · replace H25 := cF H25 hc
                  refine TC.exit ?_
                  refine TE.then_exit ?_
                  refine TE.then_exit ?_
                  refine TE.inBlock_here ?_
                  exact TE.cutP ⟨many_22, oldest_23⟩ () (he25 _ (Option.some.inj H25).symm).symm (Env.cv (Env.cv (Env.cv (Env.cv (Env.cv (Env.cv (Env.cv (Env.cv (Env.cv (Env.le_nil _)))))))))) (Less.pk rfl (Less.pk rfl (Less.pk rfl (Less.nil _))))
              rintro ⟨many_19, oldest_20⟩ ⟨⟩ hp
              replace hp := hp.symm
              subst hp
              replace H17 := el2_mk H17
              refine TE.then ?_
              refine TC.kp [1, 5, 6, 8, 9, 10, 11, 12, 13] [b6_3, b8_4, b9_5] ?_
              refine TC.seq ?_
              obtain ⟨o_35, H35, H17⟩ := bnd H17
              refine TC.cutP (fun s : (Vec Int 256) => o_35 = s) (fun (used_34 : (Vec Int 256)) (_ : Unit) => (Env.set (Env.set (Env.set (Env.set (Env.set (Env.set (Env.set Env.nil 1 (D (l0 : (List bywaylaw13_Do)))) 5 (D (x_2 : Int))) 6 (Pt b6_3 0)) 8 (Pt b8_4 0)) 9 (Pt b9_5 0)) 10 (D (i_8 : Int))) 11 (D ((x_13.Id.toNat : Int) : Int)))) (fun (used_34 : (Vec Int 256)) (_ : Unit) => [⟨b6_3, True, (One (k_9 : Kept))⟩, ⟨b8_4, True, (One (vals_10 : (Vec UInt8 256)))⟩, ⟨b9_5, True, (One (used_34 : (Vec Int 256)))⟩]) ?_ ?_
              · skip
                refine TC.seqS ?_
                refine TS.s OpY.move rfl ?_
                obtain ⟨x_36, ex_36, H35⟩ := bnd H35
                refine TS.s (OpD.indexArq (idx_in ex_36 (Vec.h _).symm)) rfl ?_
                refine TS.s (OpD.ldq (Pl.vec (α := Int) Pl.one ex_36)) rfl ?_
                refine TS.s OpY.eql rfl ?_
                refine TS.s OpY.move rfl ?_
                refine TS.g 90 rfl (fun hg => OpY.move) rfl ?_
                refine TS.g 90 rfl (fun hg => OpY.move) rfl ?_
                refine TS.g 90 rfl (fun hg => OpY.eql) rfl ?_
                refine TS.s OpY.pickAnd rfl ?_
                refine TS.nil ?_
                refine TE.then ?_
                refine TC.kp [1, 5, 6, 8, 9, 10, 11, 13, 94] [b6_3, b8_4, b9_5] ?_
                refine TC.cond (fun hc => ?_) (fun hc => ?_)
                · replace H35 := cT H35 hc
                  refine TC.regionS ?_
                  refine TS.s OpY.move rfl ?_
                  obtain ⟨x_37, ex_37, H35⟩ := bnd H35
                  refine TS.s (OpD.indexArq (idx_in ex_37 (Vec.h _).symm)) rfl ?_
                  refine TS.un (OpT.storeq (y := ((0 : Int) : Int)) (Pl.vec (α := Int) Pl.one ex_37)) ?_
                  refine TS.nil ?_
                  refine TE.kp [1, 5, 6, 8, 9, 10, 11] [b6_3, b8_4, b9_5] ?_
                  obtain ⟨used_38, eused_38, H35⟩ := bnd H35
                  refine TE.nmB b9_5 (nm_one eused_38) ?_
                  exact TE.cutP used_38 () (Option.some.inj H35).symm (Env.cv (Env.cv (Env.cv (Env.cv (Env.cv (Env.cv (Env.cv (Env.le_nil _)))))))) (Less.pk rfl (Less.pk rfl (Less.pk rfl (Less.nil _))))
                · replace H35 := cF H35 hc
                  refine TC.skip ?_
                  exact TE.cutP used_11 () (Option.some.inj H35).symm (Env.cv (Env.cv (Env.cv (Env.cv (Env.cv (Env.cv (Env.cv (Env.le_nil _)))))))) (Less.pk rfl (Less.pk rfl (Less.pk rfl (Less.nil _))))
              rintro used_34 ⟨⟩ hp
              replace hp := hp.symm
              subst hp
              refine TE.then ?_
              refine TC.kp [1, 5, 6, 8, 9, 10, 11] [b6_3, b8_4, b9_5] ?_
              refine TC.seqD [13, 14] [] mix (by kernel_rfl) (by kernel_rfl) ?_
              refine TR.s (OpD.ldq Pl.one) rfl ?_
              refine TR.s OpY.move rfl ?_
              refine TR.s OpY.move rfl ?_
              refine TR.s OpY.move rfl ?_
              obtain ⟨x_39, ex_39, H17⟩ := bnd H17
              refine TR.s (OpD.index ex_39) rfl ?_
              refine TR.s OpY.fieldAddr rfl ?_
              refine TR.s OpY.load rfl ?_
              refine TR.s (OpY.buildSlice [.tmp 104] rfl rfl (by decide)) rfl ?_
              refine TR.s (OpY.buildAs (⟨(x_13.Id.toNat : Int), ([x_39.Val] : List UInt8)⟩ : Item) rfl ⟨_, Try.underlying27, by kernel_rfl⟩ rfl rfl) rfl ?_
              obtain ⟨r_40, er_40, H17⟩ := bnd H17
              refine TR.s (OpY.call2 fun w v0 v1 hA h0 h1 => cache_Keep_c w v0 v1 hA (toD h0) (toD h1) er_40) rfl ?_
              refine TR.s OpY.move rfl ?_
              refine TR.s (OpY.extract rfl) rfl ?_
              refine TR.s (OpY.extract rfl) rfl ?_
              refine TR.t (fun g => OpT.allocT (α := Kept)) rfl ?_
              refine TR.tn (fun g => (OpT.storeq (y := (r_40.1 : Kept)) Pl.one)) rfl ?_
              refine TR.s OpY.assign rfl ?_
              refine TR.nil ?_
              rintro ⟨⟨_, ⟨b15_40, _⟩⟩, _⟩
              dsimp only [Fam.nextS, Fam.nextN, Fam.one, List.cons_append, List.nil_append]
              refine TC.kp [1, 5, 6, 8, 9, 10, 11, 15, 16] [b6_3, b8_4, b9_5, b15_40] ?_
              refine TC.seq ?_
              refine TC.seqS ?_
              refine TS.s OpY.move rfl ?_
              refine TS.s OpY.neq rfl ?_
              refine TS.nil ?_
              refine TE.then ?_
              refine TC.kp [1, 5, 6, 8, 9, 10, 11, 15, 111] [b6_3, b8_4, b9_5, b15_40] ?_
              refine TC.cond (fun hc => ?_) (fun hc => ?_)
              · replace H17 := cT H17 hc
                refine TC.seqS ?_
                refine TS.s OpY.assign rfl ?_
                refine TS.nil ?_
                refine TE.then ?_
                refine TC.kp [4] [] ?_
                refine TC.ret ?_
                refine TE.then_ret ?_
                refine TE.inBlock_ret ?_
                refine TE.cut_ret ?_
                have R41 := elS_r (Option.some.inj H17) H12
                refine TE.then_ret ?_
                refine TE.inBlock_ret ?_
                refine TE.then_ret ?_
                refine TE.then_ret ?_
                refine TE.inBlock_ret ?_
                refine TE.cut_ret ?_
                have R42 := elS_r (he12 _ (Option.some.inj R41).symm) H
                refine TE.then_ret ?_
                obtain rfl := (Option.some.inj R42)
                exact TE.ret1 rfl Cv.le
              · replace H17 := cF H17 hc
                refine TC.skip ?_
                refine TE.then ?_
                refine TC.kp [1, 5, 6, 8, 9, 10, 11, 15] [b6_3, b8_4, b9_5, b15_40] ?_
                refine TC.regD [11, 13, 14] [b6_3, b8_4, b9_5] mix (by kernel_rfl) (by kernel_rfl) ?_
                refine TR.s OpY.move rfl ?_
                refine TR.s OpY.move rfl ?_
                refine TR.s OpY.move rfl ?_
                refine TR.s OpY.move rfl ?_
                obtain ⟨x_44, ex_44, H17⟩ := bnd H17
                refine TR.s (OpD.index ex_44) rfl ?_
                refine TR.s OpY.fieldAddr rfl ?_
                refine TR.s OpY.load rfl ?_
                refine TR.s OpY.move rfl ?_
                obtain ⟨x_45, ex_45, H17⟩ := bnd H17
                refine TR.s (OpD.add ex_45) rfl ?_
                refine TR.s (OpD.ldq Pl.one) rfl ?_
                obtain ⟨x_46, ex_46, H17⟩ := bnd H17
                refine TR.s (OpD.indexArq (idx_in ex_46 (Vec.h _).symm)) rfl ?_
                refine TR.tn (fun g => (OpT.storeq (y := (x_44.Val : UInt8)) (Pl.vec (α := UInt8) Pl.one ex_46))) rfl ?_
                obtain ⟨x_47, ex_47, H17⟩ := bnd H17
                refine TR.s (OpD.indexArq (idx_in ex_47 (Vec.h _).symm)) rfl ?_
                refine TR.tn (fun g => (OpT.storeq (y := (x_45 : Int)) (Pl.vec (α := Int) Pl.one ex_47))) rfl ?_
                refine TR.tn (fun g => (OpT.storeq (y := (r_40.1 : Kept)) Pl.one)) rfl ?_
                refine TR.nil ?_
                rintro ⟨⟨⟨_, _⟩, _⟩, _⟩
                dsimp only [Fam.nextS, Fam.nextN, Fam.one, List.cons_append, List.nil_append]
                refine TE.kp [1, 5, 6, 8, 9, 10] [b6_3, b8_4, b9_5] ?_
                obtain ⟨vals_48, evals_48, H17⟩ := bnd H17
                refine TE.nmB b8_4 (nm_one evals_48) ?_
                obtain ⟨used_49, eused_49, H17⟩ := bnd H17
                refine TE.nmB b9_5 (nm_one eused_49) ?_
                refine TE.inBlock_normal ?_
                exact TE.cutP ⟨r_40.1, vals_48, used_49⟩ () (Option.some.inj H17).symm (Env.cv (Env.cv (Env.cv (Env.cv (Env.cv (Env.cv (Env.le_nil _))))))) (Less.pk rfl (Less.pk rfl (Less.pk rfl (Less.nil _))))
            · replace H17 := cF H17 hc
              refine TC.seqS ?_
              refine TS.s OpY.eql8 rfl ?_
              refine TS.s OpY.assign rfl ?_
              refine TS.nil ?_
              refine TE.then ?_
              refine TC.kp [1, 5, 6, 8, 9, 10, 11, 124] [b6_3, b8_4, b9_5] ?_
              refine TC.cond (fun hc => ?_) (fun hc => ?_)
              · replace H17 := cT H17 hc
                refine TC.seqS ?_
                refine TS.s (OpD.ldq Pl.one) rfl ?_
                refine TS.s OpY.move rfl ?_
                obtain ⟨r_50, er_50, H17⟩ := bnd H17
                refine TS.s (OpY.call2 fun w v0 v1 hA h0 h1 => cache_Look_c w v0 v1 hA (toD h0) (toD h1) er_50) rfl ?_
                refine TS.s OpY.move rfl ?_
                refine TS.s (OpY.extract rfl) rfl ?_
                refine TS.s (OpY.extract rfl) rfl ?_
                refine TS.s (OpY.extract rfl) rfl ?_
                refine TS.alloc (α := Kept) rfl fun b17_50 => ?_
                refine TS.un (OpT.storeq (y := (r_50.1 : Kept)) Pl.one) ?_
                refine TS.s OpY.assign rfl ?_
                refine TS.s OpY.assign rfl ?_
                refine TS.nil ?_
                refine TE.then ?_
                refine TC.kp [1, 5, 6, 8, 9, 10, 11, 17, 18, 19] [b6_3, b8_4, b9_5, b17_50] ?_
                refine TC.seq ?_
                refine TC.seqD0 mix (by kernel_rfl) ?_
                refine TR.s OpY.move rfl ?_
                refine TR.s OpY.move rfl ?_
                obtain ⟨x_52, ex_52, H17⟩ := bnd H17
                refine TR.s (OpD.indexArq (idx_in ex_52 (Vec.h _).symm)) rfl ?_
                refine TR.s (OpD.ldq (Pl.vec (α := Int) Pl.one ex_52)) rfl ?_
                refine TR.s OpY.gtr rfl ?_
                refine TR.s (OpY.neq_bool Try.underlying4) rfl ?_
                refine TR.s OpY.move rfl ?_
                refine TR.g 139 rfl (fun hg => OpY.move) rfl ?_
                refine TR.g 139 rfl (fun hg => OpY.move) rfl ?_
                refine TR.gg 141 rfl (fun hp hg => OpY.move) rfl ?_
                refine TR.gg 141 rfl (fun hp hg => OpD.len) rfl ?_
                refine TR.gg 141 rfl (fun hp hg => OpY.neq) rfl ?_
                refine TR.gg 141 rfl (fun hp hg => OpY.move) rfl ?_
                refine TR.gg 145 rfl (fun hp hg => haveI l0 := Ft.l hp; haveI r0 := Ft.r hp; OpY.move) rfl ?_
                obtain ⟨x_53, ex_53, H17⟩ := bnd H17
                refine TR.gg 145 rfl (fun hp hg => haveI l0 := Ft.l hp; haveI r0 := Ft.r hp; (OpD.index (gb_some ex_53 (aT (aT (nF hp.h.1) hp.h.2) (nF hg.h))))) rfl ?_
                refine TR.gg 145 rfl (fun hp hg => haveI l0 := Ft.l hp; haveI r0 := Ft.r hp; OpY.load) rfl ?_
                refine TR.gg 145 rfl (fun hp hg => haveI l0 := Ft.l hp; haveI r0 := Ft.r hp; OpY.move) rfl ?_
                obtain ⟨x_54, ex_54, H17⟩ := bnd H17
                refine TR.gg 145 rfl (fun hp hg => haveI l0 := Ft.l hp; haveI r0 := Ft.r hp; (OpD.indexArq (idx_in (gb_some ex_54 (aT (aT (nF hp.h.1) hp.h.2) (nF hg.h))) (Vec.h _).symm))) rfl ?_
                refine TR.gg 145 rfl (fun hp hg => haveI l0 := Ft.l hp; haveI r0 := Ft.r hp; (OpD.ldq (Pl.vec (α := UInt8) Pl.one (gb_some ex_54 (aT (aT (nF hp.h.1) hp.h.2) (nF hg.h)))))) rfl ?_
                refine TR.gg 145 rfl (fun hp hg => haveI l0 := Ft.l hp; haveI r0 := Ft.r hp; OpY.neq8) rfl ?_
                refine TR.gg 141 rfl (fun hp hg => OpY.pickOr) rfl ?_
                refine TR.g 139 rfl (fun hg => OpY.pickAnd) rfl ?_
                refine TR.s OpY.pickOr rfl ?_
                refine TR.nil ?_
                refine TC.kp [1, 5, 6, 8, 9, 10, 11, 17, 19, 155] [b6_3, b8_4, b9_5, b17_50] ?_
                refine TC.cond (fun hc => ?_) (fun hc => ?_)
                · replace H17 := cT H17 hc
                  refine TC.seqS ?_
                  refine TS.s OpY.assign rfl ?_
                  refine TS.nil ?_
                  refine TE.then ?_
                  refine TC.kp [4] [] ?_
                  refine TC.ret ?_
                  refine TE.then_ret ?_
                  refine TE.inBlock_ret ?_
                  refine TE.cut_ret ?_
                  have R54 := elS_r (Option.some.inj H17) H12
                  refine TE.then_ret ?_
                  refine TE.inBlock_ret ?_
                  refine TE.then_ret ?_
                  refine TE.then_ret ?_
                  refine TE.inBlock_ret ?_
                  refine TE.cut_ret ?_
                  have R55 := elS_r (he12 _ (Option.some.inj R54).symm) H
                  refine TE.then_ret ?_
                  obtain rfl := (Option.some.inj R55)
                  exact TE.ret1 rfl Cv.le
                · replace H17 := cF H17 hc
                  refine TC.skip ?_
                  refine TE.then ?_
                  refine TC.kp [1, 5, 6, 8, 9, 10, 11, 17, 19] [b6_3, b8_4, b9_5, b17_50] ?_
                  refine TC.seq ?_
                  obtain ⟨o_58, H58, H17⟩ := bnd H17
                  refine TC.cutP (fun s : (Vec Int 256) => o_58 = s) (fun (used_57 : (Vec Int 256)) (_ : Unit) => (Env.set (Env.set (Env.set (Env.set (Env.set (Env.set (Env.set Env.nil 1 (D (l0 : (List bywaylaw13_Do)))) 5 (D (x_2 : Int))) 6 (Pt b6_3 0)) 8 (Pt b8_4 0)) 9 (Pt b9_5 0)) 10 (D (i_8 : Int))) 17 (Pt b17_50 0))) (fun (used_57 : (Vec Int 256)) (_ : Unit) => [⟨b6_3, True, (One (k_9 : Kept))⟩, ⟨b8_4, True, (One (vals_10 : (Vec UInt8 256)))⟩, ⟨b9_5, True, (One (used_57 : (Vec Int 256)))⟩, ⟨b17_50, True, (One (r_50.1 : Kept))⟩]) ?_ ?_
                  · skip
                    refine TC.seqS ?_
                    refine TS.s OpY.move rfl ?_
                    refine TS.nil ?_
                    refine TE.then ?_
                    refine TC.kp [1, 5, 6, 8, 9, 10, 11, 17, 156] [b6_3, b8_4, b9_5, b17_50] ?_
                    refine TC.cond (fun hc => ?_) (fun hc => ?_)
                    · replace H58 := cT H58 hc
                      refine TC.regionS ?_
                      refine TS.s OpY.move rfl ?_
                      refine TS.s OpY.move rfl ?_
                      obtain ⟨x_59, ex_59, H58⟩ := bnd H58
                      refine TS.s (OpD.add ex_59) rfl ?_
                      obtain ⟨x_60, ex_60, H58⟩ := bnd H58
                      refine TS.s (OpD.indexArq (idx_in ex_60 (Vec.h _).symm)) rfl ?_
                      refine TS.un (OpT.storeq (y := (x_59 : Int)) (Pl.vec (α := Int) Pl.one ex_60)) ?_
                      refine TS.nil ?_
                      refine TE.kp [1, 5, 6, 8, 9, 10, 17] [b6_3, b8_4, b9_5, b17_50] ?_
                      obtain ⟨used_61, eused_61, H58⟩ := bnd H58
                      refine TE.nmB b9_5 (nm_one eused_61) ?_
                      exact TE.cutP used_61 () (Option.some.inj H58).symm (Env.cv (Env.cv (Env.cv (Env.cv (Env.cv (Env.cv (Env.cv (Env.le_nil _)))))))) (Less.pk rfl (Less.pk rfl (Less.pk rfl (Less.pk rfl (Less.nil _)))))
                    · replace H58 := cF H58 hc
                      refine TC.skip ?_
                      exact TE.cutP used_11 () (Option.some.inj H58).symm (Env.cv (Env.cv (Env.cv (Env.cv (Env.cv (Env.cv (Env.cv (Env.le_nil _)))))))) (Less.pk rfl (Less.pk rfl (Less.pk rfl (Less.pk rfl (Less.nil _)))))
                  rintro used_57 ⟨⟩ hp
                  replace hp := hp.symm
                  subst hp
                  refine TE.then ?_
                  refine TC.kp [1, 5, 6, 8, 9, 10, 17] [b6_3, b8_4, b9_5, b17_50] ?_
                  refine TC.regionS ?_
                  refine TS.s (OpD.ldq Pl.one) rfl ?_
                  refine TS.un (OpT.storeq (y := (r_50.1 : Kept)) Pl.one) ?_
                  refine TS.nil ?_
                  refine TE.kp [1, 5, 6, 8, 9, 10] [b6_3, b8_4, b9_5] ?_
                  refine TE.inBlock_normal ?_
                  exact TE.cutP ⟨r_50.1, vals_10, used_57⟩ () (Option.some.inj H17).symm (Env.cv (Env.cv (Env.cv (Env.cv (Env.cv (Env.cv (Env.le_nil _))))))) (Less.pk rfl (Less.pk rfl (Less.pk rfl (Less.nil _))))
              · replace H17 := cF H17 hc
                refine TC.seqS ?_
                refine TS.s (OpD.ldq Pl.one) rfl ?_
                refine TS.s OpY.move rfl ?_
                obtain ⟨x_62, ex_62, H17⟩ := bnd H17
                refine TS.s (OpY.call2 fun w v0 v1 hA h0 h1 => cache_Forget_c w v0 v1 hA (toD h0) (toD h1) ex_62) rfl ?_
                refine TS.un (OpT.storeq (y := (x_62 : Kept)) Pl.one) ?_
                refine TS.nil ?_
                refine TE.then ?_
                refine TC.kp [1, 5, 6, 8, 9, 10, 11] [b6_3, b8_4, b9_5] ?_
                refine TC.regionS ?_
                refine TS.s OpY.move rfl ?_
                obtain ⟨x_63, ex_63, H17⟩ := bnd H17
                refine TS.s (OpD.indexArq (idx_in ex_63 (Vec.h _).symm)) rfl ?_
                refine TS.un (OpT.storeq (y := ((0 : Int) : Int)) (Pl.vec (α := Int) Pl.one ex_63)) ?_
                refine TS.nil ?_
                refine TE.kp [1, 5, 6, 8, 9, 10] [b6_3, b8_4, b9_5] ?_
                obtain ⟨used_64, eused_64, H17⟩ := bnd H17
                refine TE.nmB b9_5 (nm_one eused_64) ?_
                refine TE.inBlock_normal ?_
                exact TE.cutP ⟨x_62, vals_10, used_64⟩ () (Option.some.inj H17).symm (Env.cv (Env.cv (Env.cv (Env.cv (Env.cv (Env.cv (Env.le_nil _))))))) (Less.pk rfl (Less.pk rfl (Less.pk rfl (Less.nil _))))
          rintro ⟨k_14, vals_15, used_16⟩ ⟨⟩ hp
          replace H12 := elS_l hp H12
          replace H12 := el3_mk H12
          refine TE.then ?_
          refine TC.kp [1, 5, 6, 8, 9, 10] [b6_3, b8_4, b9_5] ?_
          refine TC.seqS ?_
          refine TS.s OpY.assign rfl ?_
          refine TS.nil ?_
          refine TE.then ?_
          refine TC.kp [1, 5, 6, 8, 9, 10, 20] [b6_3, b8_4, b9_5] ?_
          refine TC.seq ?_
          refine TC.seqS ?_
          refine TS.s OpY.assign rfl ?_
          refine TS.nil ?_
          refine TE.then ?_
          refine TC.kp [1, 5, 6, 8, 9, 10, 20, 21] [b6_3, b8_4, b9_5] ?_
          obtain ⟨o_66, H66, H12⟩ := bnd H12
          refine TC.cutP (fun s : Int => o_66 = s) (fun (many_65 : Int) (_ : Unit) => (Env.set (Env.set (Env.set (Env.set (Env.set (Env.set (Env.set Env.nil 1 (D (l0 : (List bywaylaw13_Do)))) 5 (D (x_2 : Int))) 6 (Pt b6_3 0)) 8 (Pt b8_4 0)) 9 (Pt b9_5 0)) 10 (D (i_8 : Int))) 20 (D (many_65 : Int)))) (fun (many_65 : Int) (_ : Unit) => [⟨b6_3, True, (One (k_14 : Kept))⟩, ⟨b8_4, True, (One (vals_15 : (Vec UInt8 256)))⟩, ⟨b9_5, True, (One (used_16 : (Vec Int 256)))⟩]) ?_ ?_
          · skip
            refine TC.block ?_
            refine TC.loopP H66 (fun ⟨many_67, n_68⟩ (_ : Unit) => (Env.set (Env.set (Env.set (Env.set (Env.set (Env.set (Env.set (Env.set Env.nil 1 (D (l0 : (List bywaylaw13_Do)))) 5 (D (x_2 : Int))) 6 (Pt b6_3 0)) 8 (Pt b8_4 0)) 9 (Pt b9_5 0)) 10 (D (i_8 : Int))) 20 (D (many_67 : Int))) 21 (D (n_68 : Int)))) (fun ⟨many_67, n_68⟩ (_ : Unit) => [⟨b6_3, True, (One (k_14 : Kept))⟩, ⟨b8_4, True, (One (vals_15 : (Vec UInt8 256)))⟩, ⟨b9_5, True, (One (used_16 : (Vec Int 256)))⟩]) () (Env.cv (Env.cv (Env.cv (Env.cv (Env.cv (Env.cv (Env.cv (Env.cv (Env.le_nil _))))))))) (Less.pk rfl (Less.pk rfl (Less.pk rfl (Less.nil _)))) ?_
            rintro ⟨many_67, n_68⟩ ⟨⟩ x_69 H69 he69
            replace H69 : bywaylaw13_CacheModel_l3 used_16 many_67 n_68 = some x_69 := H69
            unfold bywaylaw13_CacheModel_l3 at H69
            refine TC.seq ?_
            refine TC.seqS ?_
            refine TS.s OpY.move rfl ?_
            refine TS.s OpY.lss rfl ?_
            refine TS.nil ?_
            refine TE.then ?_
            refine TC.kp [1, 5, 6, 8, 9, 10, 20, 21, 163] [b6_3, b8_4, b9_5] ?_
            refine TC.cond (fun hc => ?_) (fun hc => ?_)
            · replace H69 := cT H69 hc
              refine TC.skip ?_
              refine TE.then ?_
              refine TC.kp [1, 5, 6, 8, 9, 10, 20, 21] [b6_3, b8_4, b9_5] ?_
              refine TC.seq ?_
              obtain ⟨o_71, H71, H69⟩ := bnd H69
              refine TC.cutP (fun s : Int => o_71 = s) (fun (many_70 : Int) (_ : Unit) => (Env.set (Env.set (Env.set (Env.set (Env.set (Env.set (Env.set (Env.set Env.nil 1 (D (l0 : (List bywaylaw13_Do)))) 5 (D (x_2 : Int))) 6 (Pt b6_3 0)) 8 (Pt b8_4 0)) 9 (Pt b9_5 0)) 10 (D (i_8 : Int))) 20 (D (many_70 : Int))) 21 (D (n_68 : Int)))) (fun (many_70 : Int) (_ : Unit) => [⟨b6_3, True, (One (k_14 : Kept))⟩, ⟨b8_4, True, (One (vals_15 : (Vec UInt8 256)))⟩, ⟨b9_5, True, (One (used_16 : (Vec Int 256)))⟩]) ?_ ?_
              · skip
                refine TC.block ?_
                refine TC.seqS ?_
                refine TS.s OpY.move rfl ?_
                obtain ⟨x_72, ex_72, H71⟩ := bnd H71
                refine TS.s (OpD.indexArq (idx_in ex_72 (Vec.h _).symm)) rfl ?_
                refine TS.s (OpD.ldq (Pl.vec (α := Int) Pl.one ex_72)) rfl ?_
                refine TS.s OpY.gtr rfl ?_
                refine TS.nil ?_
                refine TE.then ?_
                refine TC.kp [1, 5, 6, 8, 9, 10, 20, 21, 169] [b6_3, b8_4, b9_5] ?_
                refine TC.cond (fun hc => ?_) (fun hc => ?_)
                · replace H71 := cT H71 hc
                  refine TC.regionS ?_
                  refine TS.s OpY.move rfl ?_
                  obtain ⟨x_73, ex_73, H71⟩ := bnd H71
                  refine TS.s (OpD.add ex_73) rfl ?_
                  refine TS.s OpY.assign rfl ?_
                  refine TS.nil ?_
                  refine TE.kp [1, 5, 6, 8, 9, 10, 20, 21] [b6_3, b8_4, b9_5] ?_
                  refine TE.inBlock_normal ?_
                  exact TE.cutP x_73 () (Option.some.inj H71).symm (Env.cv (Env.cv (Env.cv (Env.cv (Env.cv (Env.cv (Env.cv (Env.cv (Env.le_nil _))))))))) (Less.pk rfl (Less.pk rfl (Less.pk rfl (Less.nil _))))
                · replace H71 := cF H71 hc
                  refine TC.skip ?_
                  refine TE.inBlock_normal ?_
                  exact TE.cutP many_67 () (Option.some.inj H71).symm (Env.cv (Env.cv (Env.cv (Env.cv (Env.cv (Env.cv (Env.cv (Env.cv (Env.le_nil _))))))))) (Less.pk rfl (Less.pk rfl (Less.pk rfl (Less.nil _))))
              rintro many_70 ⟨⟩ hp
              replace hp := hp.symm
              subst hp
              refine TE.then ?_
              refine TC.kp [1, 5, 6, 8, 9, 10, 20, 21] [b6_3, b8_4, b9_5] ?_
              refine TC.regionS ?_
              refine TS.s OpY.move rfl ?_
              obtain ⟨x_74, ex_74, H69⟩ := bnd H69
              refine TS.s (OpD.add ex_74) rfl ?_
              refine TS.s OpY.assign rfl ?_
              refine TS.nil ?_
              refine TE.kp [1, 5, 6, 8, 9, 10, 20, 21] [b6_3, b8_4, b9_5] ?_
              exact TE.backP ⟨many_70, x_74⟩ () (Option.some.inj H69).symm (Env.cv (Env.cv (Env.cv (Env.cv (Env.cv (Env.cv (Env.cv (Env.cv (Env.le_nil _))))))))) (Less.pk rfl (Less.pk rfl (Less.pk rfl (Less.nil _))))
            · replace H69 := cF H69 hc
              refine TC.exit ?_
              refine TE.then_exit ?_
              refine TE.then_exit ?_
              refine TE.inBlock_here ?_
              exact TE.cutP many_67 () (he69 _ (Option.some.inj H69).symm).symm (Env.cv (Env.cv (Env.cv (Env.cv (Env.cv (Env.cv (Env.cv (Env.le_nil _)))))))) (Less.pk rfl (Less.pk rfl (Less.pk rfl (Less.nil _))))
          rintro many_65 ⟨⟩ hp
          replace hp := hp.symm
          subst hp
          refine TE.then ?_
          refine TC.kp [1, 5, 6, 8, 9, 10, 20] [b6_3, b8_4, b9_5] ?_
          refine TC.seqS ?_
          refine TS.s (OpD.ldq Pl.one) rfl ?_
          obtain ⟨x_75, ex_75, H12⟩ := bnd H12
          refine TS.s (OpY.call1 fun w v0 hA h0 => cache_Ids_c w v0 hA (toD h0) ex_75) rfl ?_
          refine TS.s OpD.len rfl ?_
          refine TS.s OpY.move rfl ?_
          refine TS.s OpY.neq rfl ?_
          refine TS.s OpY.move rfl ?_
          refine TS.g 177 rfl (fun hg => (OpD.ldq Pl.one)) rfl ?_
          obtain ⟨x_76, ex_76, H12⟩ := bnd H12
          refine TS.g 177 rfl (fun hg => (OpY.call1 fun w v0 hA h0 => cache_Right_c w v0 hA (toD h0) (gb_some ex_76 (nF hg.h)))) rfl ?_
          refine TS.g 177 rfl (fun hg => OpY.notB) rfl ?_
          refine TS.s OpY.pickOr rfl ?_
          refine TS.nil ?_
          refine TE.then ?_
          refine TC.kp [1, 5, 6, 8, 9, 10, 181] [b6_3, b8_4, b9_5] ?_
          refine TC.cond (fun hc => ?_) (fun hc => ?_)
          · replace H12 := cT H12 hc
            refine TC.seqS ?_
            refine TS.s OpY.assign rfl ?_
            refine TS.nil ?_
            refine TE.then ?_
            refine TC.kp [4] [] ?_
            refine TC.ret ?_
            refine TE.inBlock_ret ?_
            refine TE.then_ret ?_
            refine TE.then_ret ?_
            refine TE.inBlock_ret ?_
            refine TE.cut_ret ?_
            have R76 := elS_r (he12 _ (Option.some.inj H12).symm) H
            refine TE.then_ret ?_
            obtain rfl := (Option.some.inj R76)
            exact TE.ret1 rfl Cv.le
          · replace H12 := cF H12 hc
            refine TC.skip ?_
            refine TE.inBlock_normal ?_
            refine TE.then ?_
            refine TC.kp [1, 5, 6, 8, 9, 10] [b6_3, b8_4, b9_5] ?_
            refine TC.regionS ?_
            refine TS.s OpY.move rfl ?_
            obtain ⟨x_78, ex_78, H12⟩ := bnd H12
            refine TS.s (OpD.add ex_78) rfl ?_
            refine TS.s OpY.assign rfl ?_
            refine TS.nil ?_
            refine TE.kp [1, 5, 6, 8, 9, 10] [b6_3, b8_4, b9_5] ?_
            exact TE.backP ⟨x_78, k_14, vals_15, used_16⟩ () (Option.some.inj H12).symm (Env.cv (Env.cv (Env.cv (Env.cv (Env.cv (Env.cv (Env.le_nil _))))))) (Less.pk rfl (Less.pk rfl (Less.pk rfl (Less.nil _))))
        · replace H12 := cF H12 hc
          refine TC.exit ?_
          refine TE.then_exit ?_
          refine TE.then_exit ?_
          refine TE.inBlock_here ?_
          exact TE.cutP () () (he12 _ (Option.some.inj H12).symm).symm (Env.le_nil _) (Less.nil _)
      rintro ⟨⟩ ⟨⟩ hp
      replace H := elS_l hp H
      refine TE.then ?_
      refine TC.kp [] [] ?_
      refine TC.seqS ?_
      refine TS.s OpY.assign rfl ?_
      refine TS.nil ?_
      refine TE.then ?_
      refine TC.kp [4] [] ?_
      refine TC.ret ?_
      obtain rfl := (Option.some.inj H)
      exact TE.ret1 rfl Cv.le
def bywaylaw13_CacheLast_l1 (ids0 : (List UInt8)) (i_7 : Int) (k_8 : Kept) : Option ((Int × Kept) ⊕ Kept) :=
  bif (decide (i_7 < (ids0.length : Int))) then ((idx ids0 i_7).bind fun x_10 => (cache_Keep k_8 (⟨(x_10.toNat : Int), ([(UInt8.ofInt i_7)] : List UInt8)⟩ : Item)).bind fun r_11 => (addI i_7 (1 : Int)).bind fun x_12 => some (.inl (x_12, r_11.1))) else (some (.inr k_8))
def bywaylaw13_CacheLast_l2 (ids0 : (List UInt8)) (x_2 : Int) (want_17 : (List Int)) (i_18 : Int) (seen_19 : (Vec Bool 256)) : Option (((List Int) × Int × (Vec Bool 256)) ⊕ (List Int)) :=
  bif ((decide (i_18 ≥ (0 : Int))) && (decide ((want_17.length : Int) < x_2))) then (((idx ids0 i_18).bind fun x_24 => (idx seen_19.l (x_24.toNat : Int)).bind fun x_25 => bif (!x_25) then ((idx ids0 i_18).bind fun x_26 => (idx seen_19.l (x_26.toNat : Int)).bind fun x_27 => (some ((Vec.set seen_19 (Int.toNat (x_26.toNat : Int)) true) : (Vec Bool 256))).bind fun seen_28 => (idx ids0 i_18).bind fun x_29 => (room 8 ((([(x_29.toNat : Int)] : List Int).length + want_17.length : Nat) : Int)).bind fun u_30 => (some ((([(x_29.toNat : Int)] : List Int) ++ want_17) : (List Int))).bind fun want_31 => some (want_31, seen_28)) else (some (want_17, seen_19))).bind fun o_23 => el2 o_23 (fun want_21 seen_22 => (subI i_18 (1 : Int)).bind fun x_32 => some (.inl (want_21, x_32, seen_22)))) else (some (.inr want_17))
def bywaylaw13_CacheLast (most0 : UInt8) (ids0 : (List UInt8)) : Option Bool :=
  (bywaylaw13_awake).bind fun x_1 => bif (!x_1) then (some false) else ((addI ((most0 % (UInt8.ofNat 20)).toNat : Int) (1 : Int)).bind fun x_2 => (cache_New x_2).bind fun r_3 => bif ((decide (r_3.2 ≠ (0 : Int))) || (decide ((ids0.length : Int) > (100 : Int)))) then (some (decide (r_3.2 = (0 : Int)))) else ((loopO (fun s => bywaylaw13_CacheLast_l1 ids0 s.1 s.2) ((0 : Int), r_3.1)).bind fun k_5 => (subI (ids0.length : Int) (1 : Int)).bind fun x_14 => (loopO (fun s => bywaylaw13_CacheLast_l2 ids0 x_2 s.1 s.2.1 s.2.2) ([], x_14, Dat.z)).bind fun want_15 => (cache_Ids k_5).bind fun x_33 => (bywayref08_Ints x_33 want_15).bind fun x_34 => some x_34))
/-- bywaylaw13.CacheLast -/
theorem bywaylaw13_CacheLast_c {A : Nat → Prop} {most0 : UInt8} {ids0 : (List UInt8)}  {r : Bool} (w : World) (v0 v1 : Value) (hA : ∀ k, w.heap.size ≤ k → A k)  (h0 : (D (most0 : UInt8)).p A w v0) (h1 : (D (ids0 : (List UInt8))).p A w v1) (H : bywaylaw13_CacheLast most0 ids0 = some r) :
    Calls Try.prog 5 #[v0, v1] w (Ret A w (D (r : Bool))) := by
  unfold bywaylaw13_CacheLast at H
  refine enter2 hA Try.func5 rfl Try.ntmps5 rfl h0 h1 ?_
  refine TC.seqS ?_
  refine TS.s OpY.assign rfl ?_
  refine TS.nil ?_
  refine TE.then ?_
  refine TC.kp [0, 1] [] ?_
  refine TC.seq ?_
  refine TC.seqS ?_
  obtain ⟨x_1, ex_1, H⟩ := bnd H
  refine TS.s (OpY.call0 fun w hA => bywaylaw13_awake_c w hA ex_1) rfl ?_
  refine TS.s OpY.notB rfl ?_
  refine TS.nil ?_
  refine TE.then ?_
  refine TC.kp [0, 1, 13] [] ?_
  refine TC.cond (fun hc => ?_) (fun hc => ?_)
  · replace H := cT H hc
    refine TC.seqS ?_
    refine TS.s OpY.assign rfl ?_
    refine TS.nil ?_
    refine TE.then ?_
    refine TC.kp [4] [] ?_
    refine TC.ret ?_
    refine TE.then_ret ?_
    obtain rfl := (Option.some.inj H)
    exact TE.ret1 rfl Cv.le
  · replace H := cF H hc
    refine TC.skip ?_
    refine TE.then ?_
    refine TC.kp [0, 1] [] ?_
    refine TC.seqS ?_
    refine TS.s OpY.move rfl ?_
    refine TS.s (OpY.rem8 (by decide)) rfl ?_
    refine TS.s OpD.conv8_i rfl ?_
    obtain ⟨x_2, ex_2, H⟩ := bnd H
    refine TS.s (OpD.add ex_2) rfl ?_
    refine TS.s OpY.assign rfl ?_
    refine TS.nil ?_
    refine TE.then ?_
    refine TC.kp [1, 5] [] ?_
    refine TC.seqS ?_
    refine TS.s OpY.move rfl ?_
    obtain ⟨r_3, er_3, H⟩ := bnd H
    refine TS.s (OpY.call1 fun w v0 hA h0 => cache_New_c w v0 hA (toD h0) er_3) rfl ?_
    refine TS.s OpY.move rfl ?_
    refine TS.s (OpY.extract rfl) rfl ?_
    refine TS.s (OpY.extract rfl) rfl ?_
    refine TS.alloc (α := Kept) rfl fun b6_3 => ?_
    refine TS.un (OpT.storeq (y := (r_3.1 : Kept)) Pl.one) ?_
    refine TS.s OpY.assign rfl ?_
    refine TS.nil ?_
    refine TE.then ?_
    refine TC.kp [1, 5, 6, 7] [b6_3] ?_
    refine TC.seq ?_
    refine TC.seqS ?_
    refine TS.s OpY.move rfl ?_
    refine TS.s OpY.neq rfl ?_
    refine TS.s OpY.move rfl ?_
    refine TS.g 25 rfl (fun hg => OpY.move) rfl ?_
    refine TS.g 25 rfl (fun hg => OpD.len) rfl ?_
    refine TS.g 25 rfl (fun hg => OpY.gtr) rfl ?_
    refine TS.s OpY.pickOr rfl ?_
    refine TS.nil ?_
    refine TE.then ?_
    refine TC.kp [1, 5, 6, 7, 29] [b6_3] ?_
    refine TC.cond (fun hc => ?_) (fun hc => ?_)
    · replace H := cT H hc
      refine TC.seqS ?_
      refine TS.s OpY.move rfl ?_
      refine TS.s OpY.eql rfl ?_
      refine TS.s OpY.assign rfl ?_
      refine TS.nil ?_
      refine TE.then ?_
      refine TC.kp [4] [] ?_
      refine TC.ret ?_
      refine TE.then_ret ?_
      obtain rfl := (Option.some.inj H)
      exact TE.ret1 rfl Cv.le
    · replace H := cF H hc
      refine TC.skip ?_
      refine TE.then ?_
      refine TC.kp [1, 5, 6] [b6_3] ?_
      refine TC.seq ?_
      refine TC.seqS ?_
      refine TS.s OpY.assign rfl ?_
      refine TS.nil ?_
      refine TE.then ?_
      refine TC.kp [1, 5, 6, 8] [b6_3] ?_
      obtain ⟨o_6, H6, H⟩ := bnd H
      refine TC.cutP (fun s : Kept => o_6 = s) (fun (k_5 : Kept) (_ : Unit) => (Env.set (Env.set (Env.set Env.nil 1 (D (ids0 : (List UInt8)))) 5 (D (x_2 : Int))) 6 (Pt b6_3 0))) (fun (k_5 : Kept) (_ : Unit) => [⟨b6_3, True, (One (k_5 : Kept))⟩]) ?_ ?_
      · skip
        refine TC.block ?_
        refine TC.loopP H6 (fun ⟨i_7, k_8⟩ (_ : Unit) => (Env.set (Env.set (Env.set (Env.set Env.nil 1 (D (ids0 : (List UInt8)))) 5 (D (x_2 : Int))) 6 (Pt b6_3 0)) 8 (D (i_7 : Int)))) (fun ⟨i_7, k_8⟩ (_ : Unit) => [⟨b6_3, True, (One (k_8 : Kept))⟩]) () (Env.cv (Env.cv (Env.cv (Env.cv (Env.le_nil _))))) (Less.pk rfl (Less.nil _)) ?_
        rintro ⟨i_7, k_8⟩ ⟨⟩ x_9 H9 he9
        replace H9 : bywaylaw13_CacheLast_l1 ids0 i_7 k_8 = some x_9 := H9
        unfold bywaylaw13_CacheLast_l1 at H9
        refine TC.seq ?_
        refine TC.seqS ?_
        refine TS.s OpY.move rfl ?_
        refine TS.s OpY.move rfl ?_
        refine TS.s OpD.len rfl ?_
        refine TS.s OpY.lss rfl ?_
        refine TS.nil ?_
        refine TE.then ?_
        refine TC.kp [1, 5, 6, 8, 35] [b6_3] ?_
        refine TC.cond (fun hc => ?_) (fun hc => ?_)
        · replace H9 := cT H9 hc
          refine TC.skip ?_
          refine TE.then ?_
          refine TC.kp [1, 5, 6, 8] [b6_3] ?_
          refine TC.seq ?_
          refine TC.block ?_
          refine TC.regPh 12 [] [14] [] mix (by kernel_rfl) (by kernel_rfl) rfl (by kernel_rfl) (by kernel_rfl) (by kernel_rfl) ?_
          refine TR.s (OpD.ldq Pl.one) rfl ?_
          refine TR.s OpY.move rfl ?_
          refine TR.s OpY.move rfl ?_
          obtain ⟨x_10, ex_10, H9⟩ := bnd H9
          refine TR.s (OpD.index ex_10) rfl ?_
          refine TR.s OpY.load rfl ?_
          refine TR.s OpD.conv8_i rfl ?_
          refine TR.s OpY.move rfl ?_
          refine TR.s OpY.convi_8 rfl ?_
          refine TR.s (OpY.buildSlice [.tmp 46] rfl rfl (by decide)) rfl ?_
          refine TR.s (OpY.buildAs (⟨(x_10.toNat : Int), ([(UInt8.ofInt i_7)] : List UInt8)⟩ : Item) rfl ⟨_, Try.underlying27, by kernel_rfl⟩ rfl rfl) rfl ?_
          obtain ⟨r_11, er_11, H9⟩ := bnd H9
          refine TR.s (OpY.call2 fun w v0 v1 hA h0 h1 => cache_Keep_c w v0 v1 hA (toD h0) (toD h1) er_11) rfl ?_
          refine TR.s OpY.move rfl ?_
          refine TR.nil ?_
          rintro _
          dsimp only [Fam.nextS, Fam.nextN, Fam.one, List.cons_append, List.nil_append]
          refine PH.next [b6_3] ?_
          refine TR.s (OpY.extract rfl) rfl ?_
          refine TR.s (OpY.extract rfl) rfl ?_
          refine TR.tn (fun g => (OpT.storeq (y := (r_11.1 : Kept)) Pl.one)) rfl ?_
          refine TR.nil ?_
          rintro ⟨_, _⟩
          dsimp only [Fam.nextS, Fam.nextN, Fam.one, List.cons_append, List.nil_append]
          refine TE.kp [1, 5, 6, 8] [b6_3] ?_
          refine TE.inBlock_normal ?_
          refine TE.then ?_
          refine TC.kp [1, 5, 6, 8] [b6_3] ?_
          refine TC.regionS ?_
          refine TS.s OpY.move rfl ?_
          obtain ⟨x_12, ex_12, H9⟩ := bnd H9
          refine TS.s (OpD.add ex_12) rfl ?_
          refine TS.s OpY.assign rfl ?_
          refine TS.nil ?_
          refine TE.kp [1, 5, 6, 8] [b6_3] ?_
          exact TE.backP ⟨x_12, r_11.1⟩ () (Option.some.inj H9).symm (Env.cv (Env.cv (Env.cv (Env.cv (Env.le_nil _))))) (Less.pk rfl (Less.nil _))
        · replace H9 := cF H9 hc
          refine TC.exit ?_
          refine TE.then_exit ?_
          refine TE.then_exit ?_
          refine TE.inBlock_here ?_
          exact TE.cutP k_8 () (he9 _ (Option.some.inj H9).symm).symm (Env.cv (Env.cv (Env.cv (Env.le_nil _)))) (Less.pk rfl (Less.nil _))
      rintro k_5 ⟨⟩ hp
      replace hp := hp.symm
      subst hp
      refine TE.then ?_
      refine TC.kp [1, 5, 6] [b6_3] ?_
      refine TC.seqS ?_
      refine TS.s OpY.assign rfl ?_
      refine TS.nil ?_
      refine TE.then ?_
      refine TC.kp [1, 5, 6, 9] [b6_3] ?_
      refine TC.seqS ?_
      refine TS.alloc (α := (Vec Bool 256)) rfl fun b10_12 => ?_
      refine TS.nil ?_
      refine TE.then ?_
      refine TC.kp [1, 5, 6, 9, 10] [b6_3, b10_12] ?_
      refine TC.seq ?_
      refine TC.seqS ?_
      refine TS.s OpY.move rfl ?_
      refine TS.s OpD.len rfl ?_
      obtain ⟨x_14, ex_14, H⟩ := bnd H
      refine TS.s (OpD.sub ex_14) rfl ?_
      refine TS.s OpY.assign rfl ?_
      refine TS.nil ?_
      refine TE.then ?_
      refine TC.kp [1, 5, 6, 9, 10, 11] [b6_3, b10_12] ?_
      obtain ⟨o_16, H16, H⟩ := bnd H
      refine TC.cutP (fun s : (List Int) => o_16 = s) (fun (want_15 : (List Int)) (_ : Unit) => (Env.set (Env.set Env.nil 6 (Pt b6_3 0)) 9 (D (want_15 : (List Int))))) (fun (want_15 : (List Int)) (_ : Unit) => [⟨b6_3, True, (One (k_5 : Kept))⟩]) ?_ ?_
      · skip
        refine TC.block ?_
        refine TC.loopP H16 (fun ⟨want_17, i_18, seen_19⟩ (_ : Unit) => (Env.set (Env.set (Env.set (Env.set (Env.set (Env.set Env.nil 1 (D (ids0 : (List UInt8)))) 5 (D (x_2 : Int))) 6 (Pt b6_3 0)) 9 (D (want_17 : (List Int)))) 10 (Pt b10_12 0)) 11 (D (i_18 : Int)))) (fun ⟨want_17, i_18, seen_19⟩ (_ : Unit) => [⟨b6_3, True, (One (k_5 : Kept))⟩, ⟨b10_12, True, (One (seen_19 : (Vec Bool 256)))⟩]) () (Env.cv (Env.cv (Env.cv (Env.cv (Env.cv (Env.cv (Env.le_nil _))))))) (Less.pk rfl (Less.pk rfl (Less.nil _))) ?_
        rintro ⟨want_17, i_18, seen_19⟩ ⟨⟩ x_20 H20 he20
        replace H20 : bywaylaw13_CacheLast_l2 ids0 x_2 want_17 i_18 seen_19 = some x_20 := H20
        unfold bywaylaw13_CacheLast_l2 at H20
        refine TC.seq ?_
        refine TC.seqS ?_
        refine TS.s OpY.move rfl ?_
        refine TS.s OpY.geq rfl ?_
        refine TS.s OpY.move rfl ?_
        refine TS.g 57 rfl (fun hg => OpY.move) rfl ?_
        refine TS.g 57 rfl (fun hg => OpD.len) rfl ?_
        refine TS.g 57 rfl (fun hg => OpY.move) rfl ?_
        refine TS.g 57 rfl (fun hg => OpY.lss) rfl ?_
        refine TS.s OpY.pickAnd rfl ?_
        refine TS.nil ?_
        refine TE.then ?_
        refine TC.kp [1, 5, 6, 9, 10, 11, 62] [b6_3, b10_12] ?_
        refine TC.cond (fun hc => ?_) (fun hc => ?_)
        · replace H20 := cT H20 hc
          refine TC.skip ?_
          refine TE.then ?_
          refine TC.kp [1, 5, 6, 9, 10, 11] [b6_3, b10_12] ?_
          refine TC.seq ?_
          obtain ⟨o_23, H23, H20⟩ := bnd H20
          refine TC.cutP (fun s : ((List Int) × (Vec Bool 256)) => o_23 = s) (fun ⟨want_21, seen_22⟩ (_ : Unit) => (Env.set (Env.set (Env.set (Env.set (Env.set (Env.set Env.nil 1 (D (ids0 : (List UInt8)))) 5 (D (x_2 : Int))) 6 (Pt b6_3 0)) 9 (D (want_21 : (List Int)))) 10 (Pt b10_12 0)) 11 (D (i_18 : Int)))) (fun ⟨want_21, seen_22⟩ (_ : Unit) => [⟨b6_3, True, (One (k_5 : Kept))⟩, ⟨b10_12, True, (One (seen_22 : (Vec Bool 256)))⟩]) ?_ ?_
          · skip
            refine TC.block ?_
            refine TC.seqS ?_
            refine TS.s OpY.move rfl ?_
            refine TS.s OpY.move rfl ?_
            obtain ⟨x_24, ex_24, H23⟩ := bnd H23
            refine TS.s (OpD.index ex_24) rfl ?_
            refine TS.s OpY.load rfl ?_
            obtain ⟨x_25, ex_25, H23⟩ := bnd H23
            refine TS.s (OpD.indexArq (idx_in ex_25 (Vec.h _).symm)) rfl ?_
            refine TS.s (OpD.ldq (Pl.vec (α := Bool) Pl.one ex_25)) rfl ?_
            refine TS.s OpY.notB rfl ?_
            refine TS.nil ?_
            refine TE.then ?_
            refine TC.kp [1, 5, 6, 9, 10, 11, 71] [b6_3, b10_12] ?_
            refine TC.cond (fun hc => ?_) (fun hc => ?_)
            · replace H23 := cT H23 hc
              refine TC.seqS ?_
              refine TS.s OpY.move rfl ?_
              refine TS.s OpY.move rfl ?_
              obtain ⟨x_26, ex_26, H23⟩ := bnd H23
              refine TS.s (OpD.index ex_26) rfl ?_
              refine TS.s OpY.load rfl ?_
              obtain ⟨x_27, ex_27, H23⟩ := bnd H23
              refine TS.s (OpD.indexArq (idx_in ex_27 (Vec.h _).symm)) rfl ?_
              refine TS.un (OpT.storeq (y := (true : Bool)) (Pl.vec (α := Bool) Pl.one ex_27)) ?_
              refine TS.nil ?_
              refine TE.then ?_
              refine TC.kp [1, 5, 6, 9, 10, 11] [b6_3, b10_12] ?_
              obtain ⟨seen_28, eseen_28, H23⟩ := bnd H23
              refine TC.nmB b10_12 (nm_one eseen_28) ?_
              refine TC.regionS ?_
              refine TS.s OpY.move rfl ?_
              refine TS.s OpY.move rfl ?_
              obtain ⟨x_29, ex_29, H23⟩ := bnd H23
              refine TS.s (OpD.index ex_29) rfl ?_
              refine TS.s OpY.load rfl ?_
              refine TS.s OpD.conv8_i rfl ?_
              refine TS.s (OpY.buildSlice [.tmp 81] rfl rfl (by decide)) rfl ?_
              refine TS.s OpY.move rfl ?_
              obtain ⟨u_30, eu_30, H23⟩ := bnd H23
              refine TS.s (OpY.appendFu (room_app eu_30).1 (room_app eu_30).2) rfl ?_
              refine TS.s OpY.assign rfl ?_
              refine TS.nil ?_
              refine TE.kp [1, 5, 6, 9, 10, 11] [b6_3, b10_12] ?_
              obtain ⟨want_31, ewant_31, H23⟩ := bnd H23
              refine TE.see 9 (D (want_31 : (List Int))) (nm_cv ewant_31) ?_
              refine TE.inBlock_normal ?_
              exact TE.cutP ⟨want_31, seen_28⟩ () (Option.some.inj H23).symm (Env.cv (Env.cv (Env.cv (Env.cv (Env.cv (Env.cv (Env.le_nil _))))))) (Less.pk rfl (Less.pk rfl (Less.nil _)))
            · replace H23 := cF H23 hc
              refine TC.skip ?_
              refine TE.inBlock_normal ?_
              exact TE.cutP ⟨want_17, seen_19⟩ () (Option.some.inj H23).symm (Env.cv (Env.cv (Env.cv (Env.cv (Env.cv (Env.cv (Env.le_nil _))))))) (Less.pk rfl (Less.pk rfl (Less.nil _)))
          rintro ⟨want_21, seen_22⟩ ⟨⟩ hp
          replace hp := hp.symm
          subst hp
          replace H20 := el2_mk H20
          refine TE.then ?_
          refine TC.kp [1, 5, 6, 9, 10, 11] [b6_3, b10_12] ?_
          refine TC.regionS ?_
          refine TS.s OpY.move rfl ?_
          obtain ⟨x_32, ex_32, H20⟩ := bnd H20
          refine TS.s (OpD.sub ex_32) rfl ?_
          refine TS.s OpY.assign rfl ?_
          refine TS.nil ?_
          refine TE.kp [1, 5, 6, 9, 10, 11] [b6_3, b10_12] ?_
          exact TE.backP ⟨want_21, x_32, seen_22⟩ () (Option.some.inj H20).symm (Env.cv (Env.cv (Env.cv (Env.cv (Env.cv (Env.cv (Env.le_nil _))))))) (Less.pk rfl (Less.pk rfl (Less.nil _)))
        · replace H20 := cF H20 hc
          refine TC.exit ?_
          refine TE.then_exit ?_
          refine TE.then_exit ?_
          refine TE.inBlock_here ?_
          exact TE.cutP want_17 () (he20 _ (Option.some.inj H20).symm).symm (Env.cv (Env.cv (Env.le_nil _))) (Less.pk rfl (Less.nil _))
      rintro want_15 ⟨⟩ hp
      replace hp := hp.symm
      subst hp
      refine TE.then ?_
      refine TC.kp [6, 9] [b6_3] ?_
      refine TC.seqS ?_
      refine TS.s (OpD.ldq Pl.one) rfl ?_
      obtain ⟨x_33, ex_33, H⟩ := bnd H
      refine TS.s (OpY.call1 fun w v0 hA h0 => cache_Ids_c w v0 hA (toD h0) ex_33) rfl ?_
      refine TS.s OpY.move rfl ?_
      obtain ⟨x_34, ex_34, H⟩ := bnd H
      refine TS.s (OpY.call2 fun w v0 v1 hA h0 h1 => bywayref08_Ints_c w v0 v1 hA (toD h0) (toD h1) ex_34) rfl ?_
      refine TS.s OpY.assign rfl ?_
      refine TS.nil ?_
      refine TE.then ?_
      refine TC.kp [4] [] ?_
      refine TC.ret ?_
      obtain rfl := (Option.some.inj H)
      exact TE.ret1 rfl Cv.le
end Go.Proofs.Ytjnlpphnaldjeaa.Tr
