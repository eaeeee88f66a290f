/- Places in private blocks that may not be there. Conditions: none. -/
import Derived.Test.YtfdmajkeihdhnaaDd
namespace Go.Proofs.Ytfdmajkeihdhnaa.Tr
open Go Go.RowKit
set_option linter.unusedVariables false
set_option linter.unnecessarySimpa false

/-- a place in a private block, which is there -/
def Pq (b o : Nat) (pr : Prop) : Ty := ⟨fun _ _ v => pr ∧ v = .pointer (some ⟨b, o, none⟩), fun _ h => h⟩
class AsPq (τ : Ty) (b o : outParam Nat) (pr : outParam Prop) : Prop where
  le : τ.le (Pq b o pr)
instance {b o : Nat} {pr : Prop} : AsPq (Pq b o pr) b o pr := ⟨Ty.le.refl _⟩
instance {b o : Nat} : AsPq (Pt b o) b o True := ⟨fun _ _ _ h => ⟨trivial, h⟩⟩
instance {p : Prop} {τ : Ty} {b o : Nat} {pr : Prop} [h : Ft p] [k : AsPq τ b o pr] : AsPq (Cond p τ) b o pr := ⟨fun A w v x => k.le A w v (x.1 h.h)⟩
section ops
variable {P : Program} {B0 : Nat} {A : Nat → Prop} {Ω Ωs Ωr : List Pe} {Γ : Env} {dst : Option Tmp} {ty : TypeId} {pos : String} {aft : Array Edge} {gd : Option (Nat × Bool)}
variable {α β : Type} {i : Dat α} {j : Dat β} {t u e : TypeId} {f off : Nat} {get : α → β} {set : β → α → α} {upd : α → Ct}
instance {b o : Nat} {pr : Prop} : FaP (Pq b o pr) α off β (Pq b (o + off) pr) := ⟨fun h => ⟨b, o, h.2, h.1, rfl⟩⟩
theorem OpD.ldq {x : Operand} {τ : Ty} {b o : Nat} {pr : Prop} {C : Ct} {v : α} [hx : Has Γ x τ] [q : AsPq τ b o pr] [T : TDat P t α i] [hb : HasB Ω b pr C] (p : Pl C o α i v upd) : OpY P B0 A Ω Γ ⟨dst, .load t x, ty, pos, aft, gd⟩ (D v) :=
  OpY.ldBy (τ := τ) ⟨fun {A w u} hk hv => by
    obtain ⟨h1, h2⟩ := q.le _ _ _ hv
    obtain ⟨cs, g1, g2⟩ := hk _ hb.h h1
    obtain ⟨g3, g4⟩ := p.rd.h g2
    exact ⟨b, o, _, h2, g1.row g3, g4⟩⟩
theorem OpD.ldHq {x : Operand} {τ0 : Ty} {b o : Nat} {pr : Prop} {C : Ct} {τ : Ty} [hx : Has Γ x τ0] [q : AsPq τ0 b o pr] [hb : HasB Ω b pr C] [T : TDat P t (List α) instList] (c : CeH C o τ) : OpY P B0 A Ω Γ ⟨dst, .load t x, ty, pos, aft, gd⟩ τ := fun a w hB hu hp hl => by
  obtain ⟨hpr, e1⟩ := q.le _ _ _ (Has.ev (x := x) (τ := τ0) (op := .load t x) (by simp [Op.operands]) hl)
  obtain ⟨cs, g1, g2⟩ := hp _ hb.h hpr
  obtain ⟨k1, k2⟩ := c.h g2
  have hag : (isAgg t).run P w = .ok false w := T.ag w
  have : (loadVar t ⟨b, o, none⟩).run P w = .ok (cs.getD o undef) w := by
    unfold loadVar
    rw [Sem.run_bind, hag]
    simp only [Result.andThen_ok, Bool.false_eq_true, if_false]
    have hc := g1.cell k1
    rw [run_load, hc]
  simp only [execOp, Instr.loadAt, e1, Instr.sureAddr, Sem.run_bind, Sem.run_pure, Result.andThen_ok, this]
  exact ⟨Grow.refl _ _, k2⟩
/-- the place of an element of a private row -/
theorem OpD.indexq [S : TSl P t e] [T : TDat P e α i] {x y : Operand} {τ σ : Ty} {b o m : Nat} {pr : Prop} {k : Int} [hx : Has Γ x τ] [ka : AsSv τ b pr o m] [Has Γ y σ] [hy : AsIx σ k] (h0 : 0 ≤ k ∧ k < m) :
    OpY P B0 A Ω Γ ⟨dst, .indexAddr t x y, ty, pos, aft, gd⟩ (Pq b (o + k.toNat * Dat.sz α) pr) :=
  OpY.val fun a w hl => by
    have h := ka.le _ _ _ (Has.ev (x := x) (τ := τ) (op := .indexAddr t x y) (by simp [Op.operands]) hl)
    obtain ⟨kd, e2⟩ := hy.h (Has.ev (x := y) (τ := σ) (op := .indexAddr t x y) (by simp [Op.operands]) hl)
    rcases h with ⟨hp, o', c, e1, _, ho⟩ | ⟨_, h2, e1⟩
    · obtain rfl := ho (by omega)
      refine ⟨_, ?_, hp, rfl⟩
      have hin : 0 ≤ k ∧ k < (m : Int) := h0
      simp only [execOp, e1, e2, Instr.indexAt, asIntOf, Sem.run_bind, Sem.run_pure, Result.andThen_ok, run_underlying S.h, hin, and_self, if_true, T.sz, addr_add]
    · omega
/-- the place of an element of an array in a private block -/
theorem OpD.indexArq {n : Nat} [S : TAr P t n e] [T : TDat P e α i] {x y : Operand} {τ σ : Ty} {b o : Nat} {pr : Prop} {k : Int} [hx : Has Γ x τ] [q : AsPq τ b o pr] [Has Γ y σ] [hy : AsIx σ k] (h0 : 0 ≤ k ∧ k < n) :
    OpY P B0 A Ω Γ ⟨dst, .indexAddr t x y, ty, pos, aft, gd⟩ (Pq b (o + k.toNat * Dat.sz α) pr) :=
  OpY.val fun a w hl => by
    obtain ⟨hp, e1⟩ := q.le _ _ _ (Has.ev (x := x) (τ := τ) (op := .indexAddr t x y) (by simp [Op.operands]) hl)
    obtain ⟨kd, e2⟩ := hy.h (Has.ev (x := y) (τ := σ) (op := .indexAddr t x y) (by simp [Op.operands]) hl)
    refine ⟨_, ?_, hp, rfl⟩
    have hin : 0 ≤ k ∧ k < (n : Int) := h0
    simp only [execOp, e1, e2, Instr.indexAt, asIntOf, Instr.sureAddr, Sem.run_bind, Sem.run_pure, Result.andThen_ok, run_underlying S.h, hin, and_self, if_true, T.sz, addr_add]
/-- a store into a private block -/
theorem OpT.storeq {b o : Nat} {pr : Prop} {C : Ct} {p x : Operand} {τ σ : Ty} {v y : α} [hp : Has Γ p τ] [q : AsPq τ b o pr] [pk : Pick Ω b pr C Ωr] [hx : Has Γ x σ] [T : TDat P t α i] [hy : ToD σ α i y] (pl : Pl C o α i v upd) :
    OpT P B0 Ωs Ω Γ ⟨none, .store t p x, ty, pos, aft, none⟩ (fun _ : Unit => Ty.any) fun _ => ⟨b, pr, upd y⟩ :: Ωr :=
  OpT.wr (C := C) rfl fun A a w hk hl => by
    obtain ⟨hpr, e1⟩ := q.le _ _ _ (Has.ev (x := p) (τ := τ) (op := .store t p x) (by simp [Op.operands]) hl)
    have h2 := hy.le _ _ _ (Has.ev (x := x) (τ := σ) (op := .store t p x) (by simp [Op.operands]) hl)
    obtain ⟨cs, g1, g2⟩ := hk ⟨b, pr, C⟩ (List.mem_append_right _ (pk.perm.mem_iff.2 (List.mem_cons_self ..))) hpr
    obtain ⟨ds0, -, r0⟩ := D_cells h2
    obtain ⟨w', ds, k1, k2, k3, k4, k5⟩ := run_storeVar (P := P) (t := t) g1 ((pl.st y).h g2 r0).1 h2
    refine ⟨undef, fun _ _ => trivial, .inr ⟨hpr, w', cs, _, .inr ⟨?_, rfl⟩, g1, k3, k4, ((pl.st y).h g2 k2).2⟩⟩
    simp only [execOp, Instr.storeAt, e1, Instr.sureAddr, Sem.run_bind, Sem.run_pure, Result.andThen_ok, k1]
/-- a private slice stored into a cell of a private block -/
theorem OpT.storeHq {b o : Nat} {pr : Prop} {C C' : Ct} {p x : Operand} {τ σ : Ty} [hp : Has Γ p τ] [q : AsPq τ b o pr] [pk : Pick Ω b pr C Ωr] [hx : Has Γ x σ] [T : TDat P t (List α) instList] [oc : OneC σ] (c : CtH C o σ C') :
    OpT P B0 Ωs Ω Γ ⟨none, .store t p x, ty, pos, aft, none⟩ (fun _ : Unit => Ty.any) fun _ => ⟨b, pr, C'⟩ :: Ωr :=
  OpT.wr (C := C) rfl fun A a w hk hl => by
    obtain ⟨hpr, e1⟩ := q.le _ _ _ (Has.ev (x := p) (τ := τ) (op := .store t p x) (by simp [Op.operands]) hl)
    have h2 := Has.ev (x := x) (τ := σ) (op := .store t p x) (by simp [Op.operands]) hl
    obtain ⟨cs, g1, g2⟩ := hk ⟨b, pr, C⟩ (List.mem_append_right _ (pk.perm.mem_iff.2 (List.mem_cons_self ..))) hpr
    obtain ⟨h3, h4⟩ := oc.h h2
    obtain ⟨k1, k2⟩ := c.h g2 h2
    have hs : setSeg cs o [a.eval x] = cs.set o (a.eval x) := by
      refine getD_ext (by rw [setSeg_length (by simp; omega), List.length_set]) fun q hq => ?_
      rw [setSeg_getD (by simp; omega)]
      simp only [List.getD_eq_getElem?_getD, List.length_singleton]
      by_cases hqo : q = o
      · subst hqo; rw [if_pos (by omega), List.getElem?_set_self k1]; simp
      · rw [if_neg (by omega), List.getElem?_set_ne (Ne.symm hqo)]
    obtain ⟨w', r1, r2, r3, r4⟩ := run_storeCells' (P := P) g1 (o := o) (vs := [a.eval x]) (by simp; omega) (by simp [h4])
    refine ⟨undef, fun _ _ => trivial, .inr ⟨hpr, w', cs, _, .inr ⟨?_, rfl⟩, g1, r2, r3, by rw [hs]; exact k2⟩⟩
    have hsz : (sizeOf t).run P w = .ok 1 w := T.sz w
    simp only [execOp, Instr.storeAt, e1, Instr.sureAddr, Sem.run_bind, Sem.run_pure, Result.andThen_ok, storeVar, hsz, h3]
    simp [r1]
theorem PubC.pq {C : Ct} {b o : Nat} {pr : Prop} {τ : Ty} {x : α} [q : AsPq τ b o pr] (p : Pl C o α i x upd) : PubC C b pr τ (PtrD x) := fun A w v hb h => by
  obtain ⟨hp, h2⟩ := q.le _ _ _ h
  obtain ⟨ha, cs, g1, g2⟩ := hb hp
  obtain ⟨e1, e2⟩ := p.rd.h g2
  exact ⟨b, o, _, h2, ha, g1.row e1, e2⟩
end ops
/-- an index into a list as long as that -/
theorem idx_in {α : Type} {xs : List α} {k : Int} {x : α} {m : Nat} (h : idx xs k = some x) (hm : m = xs.length) : 0 ≤ k ∧ k < m := by rw [hm]; exact idx_lt h
/-- the whole row -/
theorem PlS.all {α : Type} {i : Dat α} {xs : List α} {c : Nat} : PlS (Row xs c) 0 α i xs fun ys => Row (splice xs 0 ys) c := by
  have := PlS.row0 (i := i) (xs := xs) (c := c) (n := xs.length) (Nat.le_refl _)
  rwa [List.take_of_length_le (Nat.le_refl _)] at this
theorem cut_row {m : Nat} {n : Nat} {l r : Int} {u : Unit} (h : cut n l r = some u) (hm : m = n) : 0 ≤ l ∧ l ≤ r ∧ r ≤ m := by rw [hm]; exact cut_some h
end Go.Proofs.Ytfdmajkeihdhnaa.Tr
