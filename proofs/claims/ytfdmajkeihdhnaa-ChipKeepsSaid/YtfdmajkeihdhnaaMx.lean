/- Contents with slices of private rows in them: built, stored, loaded, handed back, and given out. Conditions: none. -/
import Derived.Test.YtfdmajkeihdhnaaLp
import Derived.Test.YtfdmajkeihdhnaaBd
namespace Go.Proofs.Ytfdmajkeihdhnaa.Tr
open Go Go.RowKit
set_option linter.unusedVariables false
set_option linter.unnecessarySimpa false

/-- values of one cell -/
class OneC (τ : Ty) : Prop where
  h : ∀ {A : Nat → Prop} {w : World} {v : Value}, τ.p A w v → v.cells = #[v] ∧ v.oneCell' = true
instance {b : Nat} {pr : Prop} {o n c : Nat} : OneC (Sl b pr o n c) := ⟨fun h => by rcases h with ⟨_, _, rfl⟩ | ⟨_, _, _, rfl⟩ <;> exact ⟨rfl, rfl⟩⟩
instance {b : Nat} {pr : Prop} {o n : Nat} : OneC (Sv b pr o n) := ⟨fun h => by rcases h with ⟨_, _, _, rfl, _⟩ | ⟨_, _, rfl⟩ <;> exact ⟨rfl, rfl⟩⟩
/-- a value put into one cell -/
structure CtH (C : Ct) (off : Nat) (τ : Ty) (C' : Ct) : Prop where
  h : ∀ {A w cs v}, C.p A w cs → τ.p A w v → off < cs.length ∧ C'.p A w (cs.set off v)
/-- how many cells -/
class CtLen (C : Ct) (n : outParam Nat) : Prop where
  h : ∀ {A w cs}, C.p A w cs → cs.length = n
instance {α : Type} {i : Dat α} {x : α} : CtLen (One x) (Dat.sz α) := ⟨fun h => Dat.len h⟩
instance {C : Ct} {o n : Nat} {τ : Ty} [k : CtLen C n] : CtLen (C.mix o τ) n := ⟨fun ⟨cs0, v, h1, h2, h3, h4⟩ => by subst h4; rw [List.length_set]; exact k.h h1⟩
theorem CtH.new {C : Ct} {off n : Nat} {τ : Ty} [k : CtLen C n] (h : off < n) : CtH C off τ (C.mix off τ) := ⟨fun {A w cs v} hc hv => by
  have := k.h hc
  exact ⟨by omega, cs, v, hc, by omega, hv, rfl⟩⟩
theorem CtH.same {C : Ct} {off : Nat} {σ τ : Ty} : CtH (C.mix off σ) off τ (C.mix off τ) := ⟨fun {A w cs v} ⟨cs0, u, h1, h2, h3, h4⟩ hv => by
  subst h4
  exact ⟨by simpa using h2, cs0, v, h1, h2, hv, by simp⟩⟩
theorem CtH.under {C C' : Ct} {o off : Nat} {σ τ : Ty} (h : CtH C off τ C') (hne : off ≠ o) : CtH (C.mix o σ) off τ (C'.mix o σ) := ⟨fun {A w cs v} ⟨cs0, u, h1, h2, h3, h4⟩ hv => by
  obtain ⟨g1, g2⟩ := h.h h1 hv
  subst h4
  exact ⟨by simpa using g1, cs0.set off v, u, g2, by simpa using h2, h3, by rw [List.set_comm _ _ (Ne.symm hne)]⟩⟩
/-- what stands in one cell -/
structure CeH (C : Ct) (off : Nat) (τ : Ty) : Prop where
  h : ∀ {A w cs}, C.p A w cs → off < cs.length ∧ τ.p A w (cs.getD off undef)
theorem CeH.here {C : Ct} {off : Nat} {τ : Ty} : CeH (C.mix off τ) off τ := ⟨fun {A w cs} ⟨cs0, u, h1, h2, h3, h4⟩ => by
  subst h4
  refine ⟨by simpa using h2, ?_⟩
  rw [List.getD_eq_getElem?_getD, List.getElem?_set_self h2]; exact h3⟩
theorem CeH.under {C : Ct} {o off : Nat} {σ τ : Ty} (h : CeH C off τ) (hne : off ≠ o) : CeH (C.mix o σ) off τ := ⟨fun {A w cs} ⟨cs0, u, h1, h2, h3, h4⟩ => by
  obtain ⟨g1, g2⟩ := h.h h1
  subst h4
  refine ⟨by simpa using g1, ?_⟩
  rw [List.getD_eq_getElem?_getD, List.getElem?_set_ne (Ne.symm hne), ← List.getD_eq_getElem?_getD]; exact g2⟩
/-- a whole value with such contents -/
def VC (C : Ct) : Ty := ⟨fun A w v => ∃ cs, C.p A w cs ∧ v = .agg cs.toArray, fun k ⟨cs, h1, h2⟩ => ⟨cs, C.keep k h1, h2⟩⟩

section ops
variable {P : Program} {B : Nat} {Ωs Ω Ωr : List Pe} {Γ : Env} {dst : Option Tmp} {ty : TypeId} {pos : String} {aft : Array Edge}
variable {α β : Type} {i : Dat α} {j : Dat β} {t u : TypeId}
/-- such a value stored into a cell of a private block -/
theorem OpT.storeH {b o : Nat} {pr : Prop} {C C' : Ct} {p x : Operand} {σ : Ty} [hp : Has Γ p (Pt b o)] [pk : Pick Ω b pr C Ωr] [hx : Has Γ x σ] [T : TDat P t (List α) instList] [oc : OneC σ] (hpr : pr) (c : CtH C o σ C') :
    OpT P B Ωs Ω Γ ⟨none, .store t p x, ty, pos, aft, none⟩ (fun _ : Unit => Ty.any) fun _ => ⟨b, pr, C'⟩ :: Ωr :=
  OpT.wr (C := C) rfl fun A a w hk hl => by
    have e1 : a.eval p = .pointer (some ⟨b, o, none⟩) := Has.ev (x := p) (τ := Pt b o) (op := .store t p x) (by simp [Op.operands]) hl
    have h2 := Has.ev (x := x) (τ := σ) (op := .store t p x) (by simp [Op.operands]) hl
    obtain ⟨cs, g1, g2⟩ := hk ⟨b, pr, C⟩ (List.mem_append_right _ (pk.perm.mem_iff.2 (List.mem_cons_self ..))) hpr
    obtain ⟨h3, h4⟩ := oc.h h2
    obtain ⟨k1, k2⟩ := c.h g2 h2
    have hs : setSeg cs o [a.eval x] = cs.set o (a.eval x) := by
      refine getD_ext (by rw [setSeg_length (by simp; omega), List.length_set]) fun q hq => ?_
      rw [setSeg_getD (by simp; omega)]
      simp only [List.getD_eq_getElem?_getD, List.length_singleton]
      by_cases hqo : q = o
      · subst hqo; rw [if_pos (by omega), List.getElem?_set_self k1]; simp
      · rw [if_neg (by omega), List.getElem?_set_ne (Ne.symm hqo)]
    obtain ⟨w', r1, r2, r3, r4⟩ := run_storeCells' (P := P) g1 (o := o) (vs := [a.eval x]) (by simp; omega) (by simp [h4])
    refine ⟨undef, fun _ _ => trivial, .inr ⟨hpr, w', cs, _, .inr ⟨?_, rfl⟩, g1, r2, r3, by rw [hs]; exact k2⟩⟩
    have hsz : (sizeOf t).run P w = .ok 1 w := T.sz w
    simp only [execOp, Instr.storeAt, e1, Instr.sureAddr, Sem.run_bind, Sem.run_pure, Result.andThen_ok, storeVar, hsz, h3]
    simp [r1]
theorem run_loadRow {w : World} {b : Nat} {cs : List Value} {o k : Nat} (hb : Blk w b cs) (hl : o + k ≤ cs.length) : (loadCells ⟨b, o, none⟩ k).run P w = .ok (seg cs o k).toArray w := by
  have := run_loadCells (P := P) (hb.row hl)
  rwa [seg_length hl] at this
/-- such a whole value stored into a box -/
theorem OpT.storeC {b k : Nat} {pr : Prop} {C C' : Ct} {p x : Operand} [hp : Has Γ p (Pt b 0)] [pk : Pick Ω b pr C Ωr] [hx : Has Γ x (VC C')] [T : TDat P t α i] [l : CtLen C k] [l' : CtLen C' k] (hpr : pr) (hk : k = Dat.sz α) (hsc : ∀ {A w cs}, C'.p A w cs → ∀ v ∈ cs, v.oneCell' = true) :
    OpT P B Ωs Ω Γ ⟨none, .store t p x, ty, pos, aft, none⟩ (fun _ : Unit => Ty.any) fun _ => ⟨b, pr, C'⟩ :: Ωr :=
  OpT.wr (C := C) rfl fun A a w hks hl => by
    have e1 : a.eval p = .pointer (some ⟨b, 0, none⟩) := Has.ev (x := p) (τ := Pt b 0) (op := .store t p x) (by simp [Op.operands]) hl
    obtain ⟨ds, h2, h3⟩ := Has.ev (x := x) (τ := VC C') (op := .store t p x) (by simp [Op.operands]) hl
    obtain ⟨cs, g1, g2⟩ := hks ⟨b, pr, C⟩ (List.mem_append_right _ (pk.perm.mem_iff.2 (List.mem_cons_self ..))) hpr
    have e3 := l.h g2
    have e4 := l'.h h2
    obtain ⟨w', r1, r2, r3, r4⟩ := run_storeCells' (P := P) g1 (o := 0) (vs := ds) (by omega) (hsc h2)
    rw [setSeg_self (by omega)] at r2
    refine ⟨undef, fun _ _ => trivial, .inr ⟨hpr, w', cs, ds, .inr ⟨?_, rfl⟩, g1, r2, r3, h2⟩⟩
    have e5 : (Value.agg ds.toArray).cells = ds.toArray := rfl
    simp only [execOp, Instr.storeAt, e1, Instr.sureAddr, Sem.run_bind, Sem.run_pure, Result.andThen_ok, storeVar, T.sz, h3, e5, List.size_toArray]
    rw [if_neg (by omega)]
    simp [r1]
end ops
class CtSc (C : Ct) : Prop where
  h : ∀ {A w cs}, C.p A w cs → ∀ v ∈ cs, v.oneCell' = true
instance {α : Type} {i : Dat α} {x : α} : CtSc (One x) := ⟨fun h => Dat.scal h⟩
instance {C : Ct} {o : Nat} {τ : Ty} [k : CtSc C] [oc : OneC τ] : CtSc (C.mix o τ) := ⟨fun ⟨cs0, v, h1, h2, h3, h4⟩ u hu => by
  subst h4
  rcases List.mem_or_eq_of_mem_set hu with h | rfl
  · exact k.h h1 u h
  · exact (oc.h h3).2⟩

section rd
variable {P : Program} {B0 : Nat} {A : Nat → Prop} {Ω : List Pe} {Γ : Env} {dst : Option Tmp} {ty : TypeId} {pos : String} {aft : Array Edge} {gd : Option (Nat × Bool)}
variable {α β : Type} {i : Dat α} {j : Dat β} {t u : TypeId} {f off : Nat}
/-- such a value loaded -/
theorem OpY.ldH {x : Operand} {b o : Nat} {pr : Prop} {C : Ct} {τ : Ty} [hx : Has Γ x (Pt b o)] [hb : HasB Ω b pr C] [T : TDat P t (List α) instList] (hpr : pr) (c : CeH C o τ) : OpY P B0 A Ω Γ ⟨dst, .load t x, ty, pos, aft, gd⟩ τ := fun a w _ _ hp hl => by
  have e1 : a.eval x = .pointer (some ⟨b, o, none⟩) := Has.ev (x := x) (τ := Pt b o) (op := .load t x) (by simp [Op.operands]) hl
  obtain ⟨cs, g1, g2⟩ := hp _ hb.h hpr
  obtain ⟨k1, k2⟩ := c.h g2
  have hag : (isAgg t).run P w = .ok false w := T.ag w
  have : (loadVar t ⟨b, o, none⟩).run P w = .ok (cs.getD o undef) w := by
    unfold loadVar
    rw [Sem.run_bind, hag]
    simp only [Result.andThen_ok, Bool.false_eq_true, if_false]
    have hc := g1.cell k1
    rw [run_load, hc]
  simp only [execOp, Instr.loadAt, e1, Instr.sureAddr, Sem.run_bind, Sem.run_pure, Result.andThen_ok, this]
  exact ⟨Grow.refl _ _, k2⟩
/-- a whole value with such contents loaded -/
theorem run_loadC {w : World} {b k : Nat} {C : Ct} {A : Nat → Prop} {cs : List Value} [T : TDat P t α i] [l : CtLen C k] (g1 : Blk w b cs) (g2 : C.p A w cs) (hk : k = Dat.sz α) (ha : Dat.agg α = true) : (loadVar t ⟨b, 0, none⟩).run P w = .ok (.agg cs.toArray) w := by
  have e := l.h g2
  unfold loadVar
  rw [Sem.run_bind, T.ag, ha]
  simp only [Result.andThen_ok, if_true]
  rw [Sem.run_bind, T.sz]
  simp only [Result.andThen_ok]
  have hld := run_loadRow (P := P) (o := 0) (k := Dat.sz α) g1 (by omega)
  rw [seg_self (by omega)] at hld
  rw [Sem.run_bind, hld]
  rfl
theorem OpY.ldC {x : Operand} {b k : Nat} {pr : Prop} {C : Ct} [hx : Has Γ x (Pt b 0)] [hb : HasB Ω b pr C] [T : TDat P t α i] [l : CtLen C k] (hpr : pr) (hk : k = Dat.sz α) (ha : Dat.agg α = true) : OpY P B0 A Ω Γ ⟨dst, .load t x, ty, pos, aft, gd⟩ (VC C) := fun a w _ _ hp hl => by
  have e1 : a.eval x = .pointer (some ⟨b, 0, none⟩) := Has.ev (x := x) (τ := Pt b 0) (op := .load t x) (by simp [Op.operands]) hl
  obtain ⟨cs, g1, g2⟩ := hp _ hb.h hpr
  simp only [execOp, Instr.loadAt, e1, Instr.sureAddr, Sem.run_bind, Sem.run_pure, Result.andThen_ok]
  rw [run_loadC (t := t) g1 g2 hk ha]
  exact ⟨Grow.refl _ _, cs, g2, rfl⟩
instance (priority := 100) rvC {s : Tmp} {b k : Nat} {C : Ct} [h : Has Γ (.tmp s) (Pt b 0)] [hb : HasB Ω b True C] [T : TDat P t α i] [l : CtLen C k] [hk : BoolIs (Nat.beq k (Dat.sz α)) true] [ha : BoolIs (Dat.agg α) true] : Rv P Γ Ω (.cell s t) (VC C) := ⟨fun ht hk' => by
  obtain ⟨cs, g1, g2⟩ := hk' _ hb.h trivial
  have e : _ = Value.pointer (some ⟨b, 0, none⟩) := h.at _ _ _ (ht s)
  refine ⟨_, ?_, cs, g2, rfl⟩
  simp only [rvRead, Sem.run_bind, e, asAddr, Sem.run_pure, Result.andThen_ok]
  exact run_loadC (t := t) g1 g2 (Nat.eq_of_beq_eq_true hk.h) ha.h⟩
/-- parts put into a content one behind another -/
class PartsC (P : Program) (t : TypeId) (Γ : Env) (ps : List (Nat × Operand)) (C : Ct) (C' : outParam Ct) : Prop where
  h : ∀ (a : Act) A w, (∀ k, .tmp k ∈ ps.map (·.2) → (Γ k).p A w (a.tmps.getD k undef)) → ∀ fs places cs, P.underlying t = some (.struct fs) → fs.toList.mapM (fun f => (P.info? f.type).map fun i => (f.offset, i.size)) = some places → C.p A w cs →
    ∃ cs', Instr.fill (places.toArray[·]?) cs.toArray (ps.map fun p => (p.1, a.eval p.2)) = some cs'.toArray ∧ C'.p A w cs'
instance {C : Ct} : PartsC P t Γ [] C C := ⟨fun a A w _ fs places cs _ _ h => ⟨cs, by simp [Instr.fill], h⟩⟩
instance {p : Operand} {ps : List (Nat × Operand)} {τ : Ty} {y : β} {bt : Nat} {C C1 C' : Ct} [F : TFld P t f u off] [T : TEl P u β j bt] [hp : Has Γ p τ] [hy : ToD τ β j y] [c : CtSet C off β j y C1] [r : PartsC P t Γ ps C1 C'] :
    PartsC P t Γ ((f, p) :: ps) C C' := ⟨fun a A w ha fs places cs hu hm hr => by
  obtain ⟨fs', fl, g1, g2, g3, g4⟩ := F.h
  rw [hu] at g1
  injection g1 with g1; injection g1 with g1; subst g1
  obtain ⟨es, e1, e2⟩ := D_cells (hy.le _ _ _ (hp.le a A w fun k e => ha k (by simp [e])))
  obtain ⟨ti, z, i1, i2, i3, i4, i5⟩ := T.h
  have hpl : places[f]? = some (off, Dat.sz β) := by
    have := mapM_at hm f fl (by simpa using g2)
    rw [← this, g3, g4, i1, Option.map_some, i3]
  have l1 : es.length = Dat.sz β := Dat.len e2
  obtain ⟨l3, k2⟩ := c.h hr e2
  obtain ⟨cs', r1, r2⟩ := r.h a A w (fun k hk => ha k (List.mem_cons_of_mem _ hk)) fs places _ hu hm k2
  refine ⟨cs', ?_, r2⟩
  have hpl2 : places.toArray[f]? = some (off, Dat.sz β) := by simpa using hpl
  simp only [List.map_cons, Instr.fill, hpl2, e1]
  rw [if_neg (by simp [l1]; omega)]
  have h5 := foldl_setSeg es 0 off cs (by omega)
  simp only [Nat.add_zero] at h5
  rw [← r1]
  congr 1
  rw [← h5]; simp⟩
theorem PartsC.hd {p : Operand} {ps : List (Nat × Operand)} {τ : Ty} {bt : Nat} {C C1 C' : Ct} [F : TFld P t f u off] [T : TEl P u (List β) instList bt] [hp : Has Γ p τ] [oc : OneC τ] (c : CtH C off τ C1) (r : PartsC P t Γ ps C1 C') :
    PartsC P t Γ ((f, p) :: ps) C C' := ⟨fun a A w ha fs places cs hu hm hr => by
  obtain ⟨fs', fl, g1, g2, g3, g4⟩ := F.h
  rw [hu] at g1
  injection g1 with g1; injection g1 with g1; subst g1
  have hv := hp.le a A w fun k e => ha k (by simp [e])
  obtain ⟨e1, e2⟩ := oc.h hv
  obtain ⟨ti, z, i1, i2, i3, i4, i5⟩ := T.h
  have i3 : ti.size = 1 := i3
  have hpl : places[f]? = some (off, 1) := by
    have := mapM_at hm f fl (by simpa using g2)
    rw [← this, g3, g4, i1, Option.map_some, i3]
  obtain ⟨l3, k2⟩ := c.h hr hv
  obtain ⟨cs', r1, r2⟩ := r.h a A w (fun k hk => ha k (List.mem_cons_of_mem _ hk)) fs places _ hu hm k2
  refine ⟨cs', ?_, r2⟩
  have hpl2 : places.toArray[f]? = some (off, 1) := by simpa using hpl
  simp only [List.map_cons, Instr.fill, hpl2, e1]
  rw [if_neg (by simp; omega)]
  rw [← r1]
  congr 1
  simp⟩
theorem OpY.buildC {parts : Array (Nat × Operand)} {ps : List (Nat × Operand)} {bt : Nat} {C : Ct} [T : TEl P t α i bt] (hps : parts = ps.toArray) (hu : ∃ fs, P.underlying t = some (.struct fs) ∧ (fs.toList.mapM (fun f => (P.info? f.type).map fun i => (f.offset, i.size))).isSome = true)
    (h : PartsC P t Γ ps (One (Dat.z : α)) C) : OpY P B0 A Ω Γ ⟨dst, .build t parts, ty, pos, aft, gd⟩ (VC C) :=
  OpY.val fun a w hl => by
    subst hps
    obtain ⟨fs, u1, u2⟩ := hu
    obtain ⟨places, u2⟩ := Option.isSome_iff_exists.1 u2
    obtain ⟨ti, z, i1, i2, i3, i4, i5⟩ := T.h
    obtain ⟨cs', r1, r2⟩ := h.h a A w (fun k hk => hl k (by simp only [Op.operands]; simpa using hk)) fs places _ u1 u2 Dat.zrd
    refine ⟨.agg cs'.toArray, ?_, cs', r2, rfl⟩
    have hb : P.built t ((ps.toArray.map fun (i, x) => (i, a.eval x)).toList) = some cs'.toArray := by
      unfold Program.built
      rw [i1, u1]
      simp only [i2, u2, i5]
      simpa using r1
    simp only [execOp, Sem.run_bind, run_build w t _ cs'.toArray hb, Result.andThen_ok, Sem.run_pure]
end rd
/-! ### a row that is given out becomes data of the content it stands in -/
section co
variable {P : Program} {r : Ref} {n : Nat} {Γ : Env} {Ω Ω1 Ω2 : List Pe} {Q : Exit → Act → World → Prop} {ops : Array Oper} {k : Nat} {rest : List Oper} {α : Type} {i : Dat α}
theorem Stt.coll {b0 b o m : Nat} {pr0 pr : Prop} {C C' D0 : Ct} {τ : Ty} {xs : List α} [op : Opens r] [p0 : Pick Ω b0 pr0 C Ω1] [p1 : Pick Ω1 b pr D0 Ω2] {a : Act} {w : World}
    (hC : ∀ {A A' : Nat → Prop} {w cs}, Keep A A' w w → (∀ v, τ.p A w v → (D xs).p A' w v) → C.p A w cs → C'.p A' w cs) (hx : PubC D0 b pr τ (D xs)) (h : Stt r n Γ Ω a w) : Stt r n Γ (⟨b0, pr0, C'⟩ :: Ω2) a w := by
  have h := (h.less (Less.perm p0.perm)).less (Less.cons (Less.perm p1.perm))
  have hl : Less (⟨b0, pr0, C⟩ :: ⟨b, pr, D0⟩ :: Ω2) (⟨b0, pr0, C⟩ :: Ω2) := Less.cons (Less.drop (Less.refl _))
  have h2 := h.less hl
  have hown : ∀ k, Own (⟨b0, pr0, C'⟩ :: Ω2) k ↔ Own (⟨b0, pr0, C⟩ :: Ω2) k := fun k => by
    constructor
    · rintro ⟨e, he, h1, h2⟩
      rcases List.mem_cons.1 he with rfl | he
      · exact ⟨_, List.mem_cons_self .., h1, h2⟩
      · exact ⟨e, List.mem_cons_of_mem _ he, h1, h2⟩
    · rintro ⟨e, he, h1, h2⟩
      rcases List.mem_cons.1 he with rfl | he
      · exact ⟨_, List.mem_cons_self .., h1, h2⟩
      · exact ⟨e, List.mem_cons_of_mem _ he, h1, h2⟩
  have hpub : Pub r.A (⟨b0, pr0, C'⟩ :: Ω2) = Pub r.A (⟨b0, pr0, C⟩ :: Ω2) := by
    funext k; exact propext (by rw [Pub_own, Pub_own, hown])
  have hk : Keep (Pub r.A (⟨b0, pr0, C⟩ :: ⟨b, pr, D0⟩ :: Ω2)) (Pub r.A (⟨b0, pr0, C⟩ :: Ω2)) w w := Keep.mono fun j _ hj => Pub_own.2 ⟨(Pub_own.1 hj).1, fun ho => (Pub_own.1 hj).2 (hl.own j ho)⟩
  refine ⟨h2.sz, h2.df, h2.mu, by rw [hpub]; exact h2.ty, ⟨fun j hj => h2.pv.own j ((hown j).1 hj), ?_, List.pairwise_cons.2 ⟨fun f hf h1 h3 => (List.pairwise_cons.1 h2.pv.ap).1 f hf h1 h3, (List.pairwise_cons.1 h2.pv.ap).2⟩⟩⟩
  rw [hpub]
  intro e he hp
  rcases List.mem_cons.1 he with rfl | he
  · obtain ⟨cs, g1, g2⟩ := h.pv.ks ⟨b0, pr0, C⟩ (List.mem_cons_self ..) hp
    refine ⟨cs, g1, hC hk (fun v hv => hx _ w v (fun hpr => ?_) (τ.keep hk hv)) g2⟩
    obtain ⟨cs', g3, g4⟩ := h.pv.ks ⟨b, pr, D0⟩ (List.mem_cons_of_mem _ (List.mem_cons_self ..)) hpr
    refine ⟨Pub_own.2 ⟨op.h b (h.pv.own b ⟨_, List.mem_cons_of_mem _ (List.mem_cons_self ..), hpr, rfl⟩), fun ⟨f, hf, hpf, hfb⟩ => ?_⟩, cs', g3, D0.keep hk g4⟩
    have ha := List.pairwise_cons.1 h.pv.ap
    rcases List.mem_cons.1 hf with rfl | hf
    · exact ha.1 _ (List.mem_cons_self ..) hpf hpr hfb
    · exact (List.pairwise_cons.1 ha.2).1 f hf hpr hpf hfb.symm
  · exact h2.pv.ks e (List.mem_cons_of_mem _ he) hp
/-- the cell's datum set, the same content -/
theorem CtSet.coll {C C' : Ct} {o : Nat} {τ : Ty} {xs : List α} (c : CtSet C o (List α) instList xs C') : ∀ {A A' : Nat → Prop} {w cs}, Keep A A' w w → (∀ v, τ.p A w v → (D xs).p A' w v) → (C.mix o τ).p A w cs → C'.p A' w cs := fun {A A' w cs} hk hv ⟨cs0, v, h1, h2, h3, h4⟩ => by
  subst h4
  obtain ⟨es, h5, h6⟩ := hv v h3
  obtain ⟨-, g2⟩ := c.h (C.keep hk h1) h5
  have he : es = [v] := by
    have hl := Dat.len h5
    have h6 : v = es.getD 0 undef := h6
    obtain ⟨x, rfl⟩ : ∃ x, es = [x] := List.length_eq_one_iff.1 hl
    simp at h6; rw [h6]
  subst he
  have hs : setSeg cs0 o [v] = cs0.set o v := by
    refine getD_ext (by rw [setSeg_length (by simp; omega), List.length_set]) fun q hq => ?_
    rw [setSeg_getD (by simp; omega)]
    simp only [List.getD_eq_getElem?_getD, List.length_singleton]
    by_cases hqo : q = o
    · subst hqo; rw [if_pos (by omega), List.getElem?_set_self h2]; simp
    · rw [if_neg (by omega), List.getElem?_set_ne (Ne.symm hqo)]
  rwa [hs] at g2
theorem TC.coll {c : Code} (b0 b : Nat) {o : Nat} {pr0 pr : Prop} {C C' D0 : Ct} {τ : Ty} {xs : List α} [op : Opens r] [p0 : Pick Ω b0 pr0 (C.mix o τ) Ω1] [p1 : Pick Ω1 b pr D0 Ω2] (cs : CtSet C o (List α) instList xs C') (hx : PubC D0 b pr τ (D xs)) (h : TC P r n Γ (⟨b0, pr0, C'⟩ :: Ω2) c Q) : TC P r n Γ Ω c Q := fun a w hs => h a w (hs.coll (m := 0) (o := o) cs.coll hx)
theorem TE.coll {e : Exit} (b0 b : Nat) {o : Nat} {pr0 pr : Prop} {C C' D0 : Ct} {τ : Ty} {xs : List α} [op : Opens r] [p0 : Pick Ω b0 pr0 (C.mix o τ) Ω1] [p1 : Pick Ω1 b pr D0 Ω2] (cs : CtSet C o (List α) instList xs C') (hx : PubC D0 b pr τ (D xs)) (h : TE r n Γ (⟨b0, pr0, C'⟩ :: Ω2) Q e) : TE r n Γ Ω Q e := fun a w hs => h a w (hs.coll (m := 0) (o := o) cs.coll hx)
theorem TS.coll (b0 b : Nat) {o : Nat} {pr0 pr : Prop} {C C' D0 : Ct} {τ : Ty} {xs : List α} [op : Opens r] [p0 : Pick Ω b0 pr0 (C.mix o τ) Ω1] [p1 : Pick Ω1 b pr D0 Ω2] (cs : CtSet C o (List α) instList xs C') (hx : PubC D0 b pr τ (D xs)) (h : TS P r n ops rest k Γ (⟨b0, pr0, C'⟩ :: Ω2) Q) : TS P r n ops rest k Γ Ω Q := fun hl a w hs => h hl a w (hs.coll (m := 0) (o := o) cs.coll hx)
end co
end Go.Proofs.Ytfdmajkeihdhnaa.Tr
